/-
  The arena's state as plain data ('St'), how it lies in memory ('Ar'), and what a call may have turned ('Fr').
  The arena's calls as plain functions on its state, and what they keep.
  What a store does to the arena's rows.
  Loops and jumps whose rounds are counted by a number that stands in no slot.
  A region that draws its order, walked in ONE order: what only reads is taken first, under a condition S on the world that holds all along; what writes or calls when nothing else can come up.
  Bits in a word: plain facts.
  Plain twins: rows of bits, of symbols, lists: what is read off the arena's state.
-/
import Derived.WalkKit
import Derived.Deep.Quiet
import Derived.Deep.LoopGhost
import Derived.Deep.DeepCutAuto
import Derived.OrdersHeld
import Derived.Laws.BitsLemmas
set_option linter.unusedVariables false
set_option linter.unusedSimpArgs false
namespace Go.Proofs.YtngfalbabgpnnaaGreat
open Go.RowKit

theorem hid {p : Prop} (h : p) : Hid p := h
theorem hao (w : World) (o : Obj) (b : Nat) (h : b < w.heap.size) : (w.alloc o).heap[b]? = w.heap[b]? := Below.heap_alloc w o b h

theorem bel_trans {a b c : World} (h : Below a.heap.size a b) (k : Below b.heap.size b c) : Below a.heap.size a c := h.trans (k.mono h.size)
theorem bel_alloc {a b : World} (h : Below a.heap.size a b) (o : Obj) : Below a.heap.size a (b.alloc o) := h.alloc h.size o
theorem bel_drew {a b : World} (h : Below a.heap.size a b) : Below a.heap.size a b.drew := h.drew
theorem bel_drewN {a b : World} {n : Nat} (h : Below a.heap.size a b) : Below a.heap.size a (b.drewN n) := ⟨h.os, h.tape, h.output, h.size, h.block⟩
theorem bel_set {a b : World} {x : Addr} (h : Below a.heap.size a b) (v : Value) (hx : a.heap.size ≤ x.block) : Below a.heap.size a (b.setCell x v) := h.setCell hx v

theorem bcell {W w1 : World} (hb : Below W.heap.size W w1) : (∀ b o, b < W.heap.size → w1.cell? ⟨b, o, none⟩ = W.cell? ⟨b, o, none⟩) ∧ (∀ b o, b < W.heap.size → w1.frozen? ⟨b, o, none⟩ = W.frozen? ⟨b, o, none⟩) :=
  ⟨fun b o h => hb.cell (p := ⟨b, o, none⟩) h, fun b o h => hb.frozen (p := ⟨b, o, none⟩) h⟩

/-- A node. -/
structure Nd where
  (tag k0 k1 k2 k3 a b : Int)
  deriving DecidableEq

def Nd.zero : Nd := ⟨0, 0, 0, 0, 0, 0, 0⟩
def Nd.cell (x : Nd) : Nat → Value
  | 0 => .int .i64 x.tag | 1 => .int .i64 x.k0 | 2 => .int .i64 x.k1 | 3 => .int .i64 x.k2 | 4 => .int .i64 x.k3 | 5 => .int .u64 x.a | _ => .int .u64 x.b
def Nd.arr (x : Nd) : Array Value := #[.int .i64 x.tag, .int .i64 x.k0, .int .i64 x.k1, .int .i64 x.k2, .int .i64 x.k3, .int .u64 x.a, .int .u64 x.b]

/-- The arena's state. -/
structure St where
  n : Nat
  node : Int → Nd
  cnt : Int → Int
  used : Int → Bool
  wait : List Int
  busy : Int
  made : Int

structure St.WF (S : St) : Prop where
  npos : 1 ≤ S.n
  nle : S.n ≤ 6000
  out : ∀ h : Int, (h < 1 ∨ (S.n : Int) < h) → S.used h = false
  free : ∀ h, S.used h = false → S.node h = Nd.zero ∧ S.cnt h = 0
  wnd : S.wait.Nodup
  win : ∀ h ∈ S.wait, S.used h = true ∧ S.cnt h = 0

/-- A block of n cells that hold f. -/
def RowIs (w : World) (b n : Nat) (f : Nat → Value) : Prop := ∃ c T, w.heap[b]? = some (.cells c T (0, 0)) ∧ c.size = n ∧ ∀ i, i < n → c[i]? = some (f i)

namespace RowIs
variable {w : World} {b n : Nat} {f : Nat → Value}
theorem cell (h : RowIs w b n f) (i : Nat) (hi : i < n) : w.cell? ⟨b, i, none⟩ = some (f i) := by
  obtain ⟨c, T, h1, _, h3⟩ := h
  simp [World.cell?, h1, h3 i hi]
theorem frozen (h : RowIs w b n f) (i : Nat) : w.frozen? ⟨b, i, none⟩ = false := by
  obtain ⟨c, T, h1, _⟩ := h
  simp [World.frozen?, h1]
theorem lt (h : RowIs w b n f) : b < w.heap.size := by
  obtain ⟨c, T, h1, _⟩ := h
  exact (Array.getElem?_eq_some_iff.1 h1).1
theorem of_heap {w' : World} (h : RowIs w b n f) (e : w'.heap[b]? = w.heap[b]?) : RowIs w' b n f := by
  obtain ⟨c, T, h1, h2⟩ := h
  exact ⟨c, T, by rw [e]; exact h1, h2⟩
theorem congr {g : Nat → Value} (h : RowIs w b n f) (e : ∀ i, i < n → f i = g i) : RowIs w b n g := by
  obtain ⟨c, T, h1, h2, h3⟩ := h
  exact ⟨c, T, h1, h2, fun i hi => by rw [h3 i hi, e i hi]⟩
theorem set (h : RowIs w b n f) (i : Nat) (v : Value) : RowIs (w.setCell ⟨b, i, none⟩ v) b n (fun j => if j = i then v else f j) := by
  obtain ⟨c, T, h1, h2, h3⟩ := h
  refine ⟨_, T, heap_setCell_same w b i c T v h1, by simpa using h2, fun j hj => ?_⟩
  rw [Array.getElem?_setIfInBounds]
  by_cases e : i = j
  · subst e; simp [h2, hj]
  · simp only [if_neg e, h3 j hj, if_neg (fun x : j = i => e x.symm)]
theorem other (h : RowIs w b n f) {a : Addr} (v : Value) (e : b ≠ a.block) : RowIs (w.setCell a v) b n f := h.of_heap (heap_setCell_other w a b v e)
theorem alloc (h : RowIs w b n f) (o : Obj) : RowIs (w.alloc o) b n f := h.of_heap (hao w o b h.lt)
theorem drew (h : RowIs w b n f) : RowIs w.drew b n f := h
theorem below {w' : World} {B : Nat} (h : RowIs w b n f) (hb : Below B w w') (hB : b < B) : RowIs w' b n f := h.of_heap (hb.block b hB)
end RowIs

/-- What lies in a.wait. -/
def WaitAt (w : World) (v : Value) (l : List Int) : Prop :=
  (v = .slice none 0 0 ∧ l = []) ∨
  ∃ g off cap cur T, v = .slice (some ⟨g, off, none⟩) l.length cap ∧ w.heap[g]? = some (.cells cur T (0, 0)) ∧ l.length ≤ cap ∧ off + cap ≤ cur.size ∧
    ∀ i x, l[i]? = some x → cur[off + i]? = some (.int .i64 x)

theorem WaitAt.of_heap {w w' : World} {v : Value} {l : List Int} (h : WaitAt w v l) (e : ∀ g, v.ownBlock = some g → w'.heap[g]? = w.heap[g]?) : WaitAt w' v l := by
  rcases h with h | ⟨g, off, cap, cur, T, hv, hg, r⟩
  · exact Or.inl h
  · exact Or.inr ⟨g, off, cap, cur, T, hv, by rw [e g (by rw [hv]; rfl)]; exact hg, r⟩
theorem WaitAt.lt {w : World} {v : Value} {l : List Int} (h : WaitAt w v l) : ∀ g, v.ownBlock = some g → g < w.heap.size := by
  intro g hg
  rcases h with ⟨rfl, _⟩ | ⟨g', off, cap, cur, T, rfl, hh, _⟩
  · cases hg
  · simp [Value.ownBlock] at hg; subst hg; exact (Array.getElem?_eq_some_iff.1 hh).1

def headF (bn bc bu n : Nat) (v : Value) (busy made : Int) : Nat → Value
  | 0 => .slice (some ⟨bn, 0, none⟩) (n + 1) (n + 1) | 1 => .slice (some ⟨bc, 0, none⟩) (n + 1) (n + 1) | 2 => .slice (some ⟨bu, 0, none⟩) (n + 1) (n + 1)
  | 3 => v | 4 => .int .i64 busy | _ => .int .i64 made

/-- The arena at block p: its four rows, written out. -/
structure ArB (w : World) (p bn bc bu : Nat) (v : Value) (S : St) : Prop where
  head : RowIs w p 6 (headF bn bc bu S.n v S.busy S.made)
  nodes : RowIs w bn (7 * (S.n + 1)) (fun i => (S.node ((i / 7 : Nat) : Int)).cell (i % 7))
  cnts : RowIs w bc (S.n + 1) (fun i => .int .i64 (S.cnt (i : Int)))
  useds : RowIs w bu (S.n + 1) (fun i => .bool (S.used (i : Int)))
  waits : WaitAt w v S.wait
  ne : p ≠ bn ∧ p ≠ bc ∧ p ≠ bu ∧ bn ≠ bc ∧ bn ≠ bu ∧ bc ≠ bu
  nv : ∀ g, v.ownBlock = some g → g ≠ p ∧ g ≠ bn ∧ g ≠ bc ∧ g ≠ bu

def Ar (w : World) (p : Nat) (S : St) : Prop := (∃ bn bc bu v, ArB w p bn bc bu v S) ∧ S.WF

/-- The blocks that are the arena's. -/
def Foot (w : World) (p b : Nat) : Prop := b = p ∨ ∃ i a l k, w.cell? ⟨p, i, none⟩ = some (.slice (some a) l k) ∧ a.block = b

theorem ArB.foot_iff {w : World} {p bn bc bu : Nat} {v : Value} {S : St} (H : ArB w p bn bc bu v S) (b : Nat) :
    Foot w p b ↔ b = p ∨ b = bn ∨ b = bc ∨ b = bu ∨ v.ownBlock = some b := by
  have c : ∀ i, i < 6 → w.cell? ⟨p, i, none⟩ = some (headF bn bc bu S.n v S.busy S.made i) := fun i hi => H.head.cell i hi
  constructor
  · rintro (h | ⟨i, a, l, k, h, rfl⟩)
    · exact Or.inl h
    · by_cases hi : i < 6
      · rw [c i hi] at h
        match i, hi with
        | 0, _ => simp [headF] at h; right; left; rw [← h.1]
        | 1, _ => simp [headF] at h; right; right; left; rw [← h.1]
        | 2, _ => simp [headF] at h; right; right; right; left; rw [← h.1]
        | 3, _ => simp [headF] at h; subst h; simp [Value.ownBlock]
        | 4, _ => simp [headF] at h
        | 5, _ => simp [headF] at h
      · obtain ⟨cc, T, h1, h2, _⟩ := H.head
        rw [World.cell?, h1] at h
        simp at h
        have := (Array.getElem?_eq_some_iff.1 h).1
        omega
  · rintro (h | rfl | rfl | rfl | h)
    · exact Or.inl h
    · exact Or.inr ⟨0, _, _, _, c 0 (by omega), rfl⟩
    · exact Or.inr ⟨1, _, _, _, c 1 (by omega), rfl⟩
    · exact Or.inr ⟨2, _, _, _, c 2 (by omega), rfl⟩
    · refine Or.inr ?_
      cases v with
      | slice a l k =>
        cases a with
        | none => cases h
        | some a => exact ⟨3, a, l, k, c 3 (by omega), by simpa [Value.ownBlock] using h⟩
      | _ => cases h

theorem Foot.congr {w w' : World} {p b : Nat} (e : w'.heap[p]? = w.heap[p]?) : Foot w' p b ↔ Foot w p b := by
  unfold Foot
  constructor <;> rintro (h | ⟨i, a, l, k, h, r⟩)
  · exact Or.inl h
  · exact Or.inr ⟨i, a, l, k, by rw [← h]; exact (World.cell?_of_block (a := ⟨p, i, none⟩) e).symm, r⟩
  · exact Or.inl h
  · exact Or.inr ⟨i, a, l, k, by rw [← h]; exact (World.cell?_of_block (a := ⟨p, i, none⟩) e), r⟩

/-- The arena's memory where nothing of its own has turned. -/
theorem ArB.of_heap {w w' : World} {p bn bc bu : Nat} {v : Value} {S : St} (H : ArB w p bn bc bu v S) (e : ∀ b, Foot w p b → w'.heap[b]? = w.heap[b]?) : ArB w' p bn bc bu v S := by
  have f := H.foot_iff
  exact ⟨H.head.of_heap (e p ((f p).2 (Or.inl rfl))), H.nodes.of_heap (e bn ((f bn).2 (Or.inr (Or.inl rfl)))), H.cnts.of_heap (e bc ((f bc).2 (Or.inr (Or.inr (Or.inl rfl))))),
    H.useds.of_heap (e bu ((f bu).2 (Or.inr (Or.inr (Or.inr (Or.inl rfl)))))), H.waits.of_heap (fun g hg => e g ((f g).2 (Or.inr (Or.inr (Or.inr (Or.inr hg)))))), H.ne, H.nv⟩

theorem ArB.foot_lt {w : World} {p bn bc bu : Nat} {v : Value} {S : St} (H : ArB w p bn bc bu v S) (b : Nat) (h : Foot w p b) : b < w.heap.size := by
  rcases (H.foot_iff b).1 h with rfl | rfl | rfl | rfl | h
  · exact H.head.lt
  · exact H.nodes.lt
  · exact H.cnts.lt
  · exact H.useds.lt
  · exact H.waits.lt b h

theorem Ar.foot_lt {w : World} {p : Nat} {S : St} (H : Ar w p S) (b : Nat) (h : Foot w p b) : b < w.heap.size := by
  obtain ⟨⟨bn, bc, bu, v, H⟩, _⟩ := H
  exact H.foot_lt b h

theorem Ar.of_heap {w w' : World} {p : Nat} {S : St} (H : Ar w p S) (e : ∀ b, Foot w p b → w'.heap[b]? = w.heap[b]?) : Ar w' p S := by
  obtain ⟨⟨bn, bc, bu, v, H⟩, wf⟩ := H
  exact ⟨⟨bn, bc, bu, v, H.of_heap e⟩, wf⟩

theorem Ar.lt {w : World} {p : Nat} {S : St} (H : Ar w p S) : p < w.heap.size := H.foot_lt p (Or.inl rfl)
theorem Ar.alloc {w : World} {p : Nat} {S : St} (H : Ar w p S) (o : Obj) : Ar (w.alloc o) p S := H.of_heap fun b hb => hao w o b (H.foot_lt b hb)
theorem Ar.drew {w : World} {p : Nat} {S : St} (H : Ar w p S) : Ar w.drew p S := H.of_heap fun _ _ => rfl
theorem Ar.setCell {w : World} {p : Nat} {S : St} (H : Ar w p S) {a : Addr} (v : Value) (h : ¬ Foot w p a.block) : Ar (w.setCell a v) p S :=
  H.of_heap fun b hb => heap_setCell_other w a b v (fun e => h (e ▸ hb))
theorem Ar.below {w w' : World} {p : Nat} {S : St} (H : Ar w p S) (hb : Below w.heap.size w w') : Ar w' p S := H.of_heap fun b h => hb.block b (H.foot_lt b h)

/-- A block that is not the arena's. -/
def Loc (p : Nat) (w : World) (b : Nat) : Prop := b < w.heap.size ∧ ¬ Foot w p b

/-- WHAT A CALL MAY HAVE TURNED: the arena's blocks, those of X, new ones. -/
structure Fr (X : List Nat) (p : Nat) (w w' : World) : Prop where
  os : w'.os = w.os
  tape : w'.tape = w.tape
  output : w'.output = w.output
  size : w.heap.size ≤ w'.heap.size
  block : ∀ b, b < w.heap.size → ¬ Foot w p b → b ∉ X → w'.heap[b]? = w.heap[b]?
  foot : ∀ b, Foot w' p b → Foot w p b ∨ w.heap.size ≤ b

namespace Fr
variable {X : List Nat} {p : Nat} {w w' w'' : World}
theorem refl (X : List Nat) (p : Nat) (w : World) : Fr X p w w := ⟨rfl, rfl, rfl, Nat.le_refl _, fun _ _ _ _ => rfl, fun _ h => Or.inl h⟩
theorem trans (h : Fr X p w w') (k : Fr X p w' w'') : Fr X p w w'' :=
  ⟨k.os.trans h.os, k.tape.trans h.tape, k.output.trans h.output, Nat.le_trans h.size k.size,
    fun b h1 h2 h3 => (k.block b (Nat.lt_of_lt_of_le h1 h.size) (fun hf => by rcases h.foot b hf with q | q; exact h2 q; omega) h3).trans (h.block b h1 h2 h3),
    fun b hb => by rcases k.foot b hb with q | q; exact h.foot b q; exact Or.inr (Nat.le_trans h.size q)⟩
theorem mono {Y : List Nat} (h : Fr X p w w') (hs : ∀ b ∈ X, b ∈ Y) : Fr Y p w w' := ⟨h.os, h.tape, h.output, h.size, fun b h1 h2 h3 => h.block b h1 h2 (fun q => h3 (hs b q)), h.foot⟩
theorem any (h : Fr [] p w w') : Fr X p w w' := h.mono (by simp)
theorem drew (h : Fr X p w w') : Fr X p w w'.drew := h.trans ⟨rfl, rfl, rfl, Nat.le_refl _, fun _ _ _ _ => rfl, fun _ h => Or.inl h⟩
theorem of_below {S : St} (H : Ar w p S) (h : Below w.heap.size w w') : Fr X p w w' :=
  ⟨h.os, h.tape, h.output, h.size, fun b hb _ _ => h.block b hb, fun b hb => Or.inl ((Foot.congr (h.block p H.lt)).1 hb)⟩
theorem alloc1 (hp : p < w.heap.size) (o : Obj) : Fr X p w (w.alloc o) :=
  ⟨rfl, rfl, rfl, by simp, fun b hb _ _ => hao w o b hb, fun b hb => Or.inl ((Foot.congr (hao w o p hp)).1 hb)⟩
theorem alloc (h : Fr X p w w') (hp : p < w'.heap.size) (o : Obj) : Fr X p w (w'.alloc o) := h.trans (alloc1 hp o)
/-- A store into a block that is new, or one of X. -/
theorem setCell {a : Addr} (h : Fr X p w w') (v : Value) (hn : w.heap.size ≤ a.block ∨ a.block ∈ X) (hp : a.block ≠ p) : Fr X p w (w'.setCell a v) :=
  ⟨h.os, h.tape, h.output, by simpa using h.size, fun b h1 h2 h3 => by
      rw [heap_setCell_other w' a b v (by rintro rfl; rcases hn with q | q; omega; exact h3 q)]; exact h.block b h1 h2 h3,
    fun b hb => h.foot b ((Foot.congr (heap_setCell_other w' a p v (fun e => hp e.symm))).1 hb)⟩
/-- A store into one of the arena's own rows, not its head. -/
theorem setFoot {a : Addr} (v : Value) (hf : Foot w p a.block) (hp : a.block ≠ p) : Fr X p w (w.setCell a v) :=
  ⟨rfl, rfl, rfl, by simp, fun b _ h2 _ => heap_setCell_other w a b v (by rintro rfl; exact h2 hf), fun b hb => Or.inl ((Foot.congr (heap_setCell_other w a p v (fun e => hp e.symm))).1 hb)⟩
theorem loc (h : Fr X p w w') {b : Nat} (hl : Loc p w b) (hx : b ∉ X) : Loc p w' b ∧ w'.heap[b]? = w.heap[b]? :=
  ⟨⟨Nat.lt_of_lt_of_le hl.1 h.size, fun hf => by rcases h.foot b hf with q | q; exact hl.2 q; exact absurd hl.1 (by omega)⟩, h.block b hl.1 hl.2 hx⟩
/-- Whatever the arena's blocks are: what was there when it wasn't stays. -/
theorem below (h : Fr X p w w') {B : Nat} (hB : B ≤ w.heap.size) (hf : ∀ b, Foot w p b → B ≤ b) (hx : ∀ b ∈ X, B ≤ b) : Below B w w' :=
  ⟨h.os, h.tape, h.output, h.size, fun b hb => h.block b (by omega) (fun q => by have := hf b q; omega) (fun q => by have := hx b q; omega)⟩
end Fr

namespace Loc
variable {p : Nat} {w w' : World} {b : Nat}
theorem new {S : St} (H : Ar w p S) (o : Obj) : Loc p (w.alloc o) w.heap.size :=
  ⟨by simp, fun hf => by have := H.foot_lt _ ((Foot.congr (hao w o p H.lt)).1 hf); omega⟩
theorem alloc {S : St} (H : Ar w p S) (h : Loc p w b) (o : Obj) : Loc p (w.alloc o) b :=
  ⟨by have := h.1; simp; omega, fun hf => h.2 ((Foot.congr (hao w o p H.lt)).1 hf)⟩
theorem drew (h : Loc p w b) : Loc p w.drew b := h
theorem setCell {a : Addr} (h : Loc p w b) (v : Value) (hp : a.block ≠ p) : Loc p (w.setCell a v) b :=
  ⟨by simpa using h.1, fun hf => h.2 ((Foot.congr (heap_setCell_other w a p v (fun e => hp e.symm))).1 hf)⟩
theorem ne (h : Loc p w b) : b ≠ p := fun e => h.2 (Or.inl e)
theorem below {S : St} (H : Ar w p S) (h : Loc p w b) (hb : Below w.heap.size w w') : Loc p w' b :=
  ⟨Nat.lt_of_lt_of_le h.1 hb.size, fun hf => h.2 ((Foot.congr (hb.block p H.lt)).1 hf)⟩
end Loc

end Go.Proofs.YtngfalbabgpnnaaGreat

namespace Go.Proofs.YtngfalbabgpnnaaGreat
open Go.RowKit

theorem nodup_sub_length {α : Type} [DecidableEq α] : ∀ {l m : List α}, l.Nodup → (∀ x ∈ l, x ∈ m) → l.length ≤ m.length
  | [], _, _, _ => Nat.zero_le _
  | a :: l, m, nd, h => by
    have hn := List.nodup_cons.1 nd
    have ha : a ∈ m := h a List.mem_cons_self
    have := nodup_sub_length (l := l) (m := m.erase a) hn.2 (fun x hx => by
      have hxa : x ≠ a := by rintro rfl; exact hn.1 hx
      exact (List.mem_erase_of_ne hxa).2 (h x (List.mem_cons_of_mem _ hx)))
    rw [List.length_erase_of_mem ha] at this
    have hp : 0 < m.length := List.length_pos_of_mem ha
    simp only [List.length_cons]
    omega

namespace St
def setCnt (S : St) (h c : Int) : St := { S with cnt := fun x => if x = h then c else S.cnt x }
def setUsed (S : St) (h : Int) (b : Bool) : St := { S with used := fun x => if x = h then b else S.used x }
def setNode (S : St) (h : Int) (x : Nd) : St := { S with node := fun y => if y = h then x else S.node y }
def setWait (S : St) (l : List Int) : St := { S with wait := l }
def setBusy (S : St) (b : Int) : St := { S with busy := b }
def setMade (S : St) (b : Int) : St := { S with made := b }

/-- Keep: the error, the state. -/
def keepE (S : St) (h : Int) : Int := if S.cnt h = 0 then 9 else 0
def keep (S : St) (h : Int) : St := if S.cnt h = 0 then S else S.setCnt h (wrap64 (S.cnt h + 1))
def dropE (S : St) (h : Int) : Int := if S.cnt h = 0 then 9 else 0
def drop (S : St) (h : Int) : St :=
  if S.cnt h = 0 then S
  else if wrap64 (S.cnt h - 1) = 0 then (S.setCnt h (wrap64 (S.cnt h - 1))).setWait (S.wait ++ [h])
  else S.setCnt h (wrap64 (S.cnt h - 1))

/-- The least free handle from h on, of k that are looked at; 0. -/
def freeFrom (S : St) : Nat → Int → Int
  | 0, _ => 0
  | k + 1, h => if S.used h = false then h else freeFrom S k (h + 1)
def free (S : St) : Int := S.freeFrom S.n 1

/-- A kid is counted once more. -/
def inc (S : St) (k : Int) : St := if k = 0 then S else S.setCnt k (wrap64 (S.cnt k + 1))
def kidsOk (S : St) (x : Nd) : Bool := (x.k0 == 0 || S.cnt x.k0 != 0) && (x.k1 == 0 || S.cnt x.k1 != 0) && (x.k2 == 0 || S.cnt x.k2 != 0) && (x.k3 == 0 || S.cnt x.k3 != 0)
def incs (S : St) (x : Nd) : St := (((S.inc x.k0).inc x.k1).inc x.k2).inc x.k3
def _root_.Go.Proofs.YtngfalbabgpnnaaGreat.Nd.kid (x : Nd) : Nat → Int | 0 => x.k0 | 1 => x.k1 | 2 => x.k2 | _ => x.k3
def incTo (S : St) (x : Nd) : Nat → St | 0 => S | i + 1 => (incTo S x i).inc (x.kid i)
def kidsTo (S : St) (x : Nd) : Nat → Bool | 0 => true | i + 1 => kidsTo S x i && (x.kid i == 0 || S.cnt (x.kid i) != 0)
theorem incs_eq (S : St) (x : Nd) : S.incs x = S.incTo x 4 := rfl
theorem kidsOk_eq (S : St) (x : Nd) : S.kidsOk x = S.kidsTo x 4 := by simp [kidsOk, kidsTo, Nd.kid]
theorem kidsTo_false {S : St} {x : Nd} {i : Nat} (hi : i < 4) (h0 : x.kid i ≠ 0) (hc : S.cnt (x.kid i) = 0) : S.kidsOk x = false := by
  have : ∀ j, i < j → S.kidsTo x j = false := by
    intro j
    induction j with
    | zero => intro h; omega
    | succ j ih =>
      intro h
      by_cases e : i = j
      · subst e; simp [kidsTo, h0, hc]
      · simp [kidsTo, ih (by omega)]
  rw [kidsOk_eq]; exact this 4 hi
theorem kidsTo_true {S : St} {x : Nd} (h : S.kidsOk x = true) {i : Nat} (hi : i < 4) : x.kid i = 0 ∨ S.cnt (x.kid i) ≠ 0 := by
  by_cases h0 : x.kid i = 0
  · exact Or.inl h0
  · refine Or.inr fun hc => ?_
    rw [kidsTo_false hi h0 hc] at h; cases h
def put (S : St) (h : Int) (x : Nd) : St :=
  (((((S.incs x).setNode h x).setCnt h 1).setUsed h true).setBusy (wrap64 (S.busy + 1))).setMade (wrap64 (S.made + 1))
/-- Make: the handle, the error, the state. -/
def make (S : St) (x : Nd) : Int × Int × St :=
  if x.tag < 1 ∨ 6 < x.tag then (0, 1, S)
  else if S.kidsOk x = false then (0, 9, S)
  else if S.free = 0 then (0, 2, S)
  else (S.free, 0, S.put S.free x)

/-- One round of Work. -/
def work1 (S : St) : St :=
  match S.wait with
  | [] => S
  | h :: r =>
    (((((((S.setWait r).setNode h Nd.zero).setUsed h false).setBusy (wrap64 (S.busy - 1))).drop (S.node h).k0).drop (S.node h).k1).drop (S.node h).k2).drop (S.node h).k3
/-- Work: rounds enough (k), how many were freed so far; how many, the state. -/
def work : Nat → Int → Int → St → Option (Int × St)
  | 0, _, _, _ => none
  | k + 1, most, n, S => if n ≥ most then some (n, S) else if S.wait = [] then some (n, S) else work k most (wrap64 (n + 1)) S.work1

theorem WF.keep {S : St} (H : S.WF) (h : Int) : (S.keep h).WF := by
  unfold St.keep
  split
  · exact H
  · rename_i hc
    refine ⟨H.npos, H.nle, H.out, fun x hx => ?_, H.wnd, fun x hx => ?_⟩
    · have := H.free x hx
      refine ⟨this.1, ?_⟩
      simp only [setCnt]
      split
      · rename_i e; subst e; exact absurd this.2 hc
      · exact this.2
    · have := H.win x hx
      refine ⟨this.1, ?_⟩
      simp only [setCnt]
      split
      · rename_i e; subst e; exact absurd this.2 hc
      · exact this.2

theorem WF.drop {S : St} (H : S.WF) (h : Int) : (S.drop h).WF := by
  unfold St.drop
  split
  · exact H
  · rename_i hc
    have hu : S.used h = true := by
      cases hu : S.used h with
      | true => rfl
      | false => exact absurd (H.free h hu).2 hc
    have hw : h ∉ S.wait := fun hm => hc (H.win h hm).2
    split
    · rename_i h0
      refine ⟨H.npos, H.nle, H.out, fun x hx => ?_, ?_, fun x hx => ?_⟩
      · have := H.free x hx
        refine ⟨this.1, ?_⟩
        simp only [setCnt, setWait]
        split
        · rename_i e; subst e; exact absurd this.2 hc
        · exact this.2
      · simp only [setWait, setCnt, List.nodup_append]
        refine ⟨H.wnd, by simp, ?_⟩
        intro a ha b hb e
        simp at hb
        subst e; subst hb
        exact hw ha
      · simp only [setWait, setCnt, List.mem_append, List.mem_singleton] at hx ⊢
        rcases hx with hx | rfl
        · have := H.win x hx
          refine ⟨this.1, ?_⟩
          split
          · exact h0
          · exact this.2
        · exact ⟨hu, by simp [h0]⟩
    · refine ⟨H.npos, H.nle, H.out, fun x hx => ?_, H.wnd, fun x hx => ?_⟩
      · have := H.free x hx
        refine ⟨this.1, ?_⟩
        simp only [setCnt]
        split
        · rename_i e; subst e; exact absurd this.2 hc
        · exact this.2
      · have := H.win x hx
        refine ⟨this.1, ?_⟩
        simp only [setCnt]
        split
        · rename_i e; subst e; exact absurd this.2 hc
        · exact this.2

theorem freeFrom_spec (S : St) : ∀ (k : Nat) (h : Int), (S.freeFrom k h = 0 ∧ (∀ x, h ≤ x → x < h + k → S.used x = true)) ∨ (h ≤ S.freeFrom k h ∧ S.freeFrom k h < h + k ∧ S.used (S.freeFrom k h) = false ∧ ∀ x, h ≤ x → x < S.freeFrom k h → S.used x = true)
  | 0, h => Or.inl ⟨rfl, fun x _ _ => by omega⟩
  | k + 1, h => by
    unfold freeFrom
    split
    · rename_i hu
      exact Or.inr ⟨Int.le_refl _, by omega, hu, fun x _ _ => by omega⟩
    · rename_i hu
      have hu : S.used h = true := by simpa using hu
      rcases freeFrom_spec S k (h + 1) with ⟨h1, h2⟩ | ⟨h1, h2, h3, h4⟩
      · refine Or.inl ⟨h1, fun x hx hx' => ?_⟩
        by_cases e : x = h
        · subst e; exact hu
        · exact h2 x (by omega) (by omega)
      · refine Or.inr ⟨by omega, by omega, h3, fun x hx hx' => ?_⟩
        by_cases e : x = h
        · subst e; exact hu
        · exact h4 x (by omega) hx'

theorem free_spec (S : St) : (S.free = 0 ∧ ∀ x, 1 ≤ x → x ≤ (S.n : Int) → S.used x = true) ∨ (1 ≤ S.free ∧ S.free ≤ S.n ∧ S.used S.free = false) := by
  rcases freeFrom_spec S S.n 1 with ⟨h1, h2⟩ | ⟨h1, h2, h3, _⟩
  · exact Or.inl ⟨h1, fun x hx hx' => h2 x hx (by omega)⟩
  · exact Or.inr ⟨h1, by unfold free; omega, h3⟩

theorem cnt_inc (S : St) (k x : Int) : (S.inc k).cnt x = if k ≠ 0 ∧ x = k then wrap64 (S.cnt k + 1) else S.cnt x := by
  unfold inc
  by_cases hk : k = 0
  · simp [hk]
  · simp [hk, setCnt]
theorem incTo_used (S : St) (x : Nd) (i : Nat) : (S.incTo x i).used = S.used := by induction i with | zero => rfl | succ i ih => rw [incTo]; unfold inc; split <;> exact ih
theorem incTo_n (S : St) (x : Nd) (i : Nat) : (S.incTo x i).n = S.n := by induction i with | zero => rfl | succ i ih => rw [incTo]; unfold inc; split <;> exact ih
theorem inc_node (S : St) (k : Int) : (S.inc k).node = S.node := by unfold inc; split <;> rfl
theorem inc_used (S : St) (k : Int) : (S.inc k).used = S.used := by unfold inc; split <;> rfl
theorem inc_wait (S : St) (k : Int) : (S.inc k).wait = S.wait := by unfold inc; split <;> rfl
theorem inc_n (S : St) (k : Int) : (S.inc k).n = S.n := by unfold inc; split <;> rfl
theorem inc_busy (S : St) (k : Int) : (S.inc k).busy = S.busy := by unfold inc; split <;> rfl
theorem inc_made (S : St) (k : Int) : (S.inc k).made = S.made := by unfold inc; split <;> rfl

/-- What is not a kid keeps its count. -/
theorem cnt_incs_other (S : St) (x : Nd) (y : Int) (h : y ≠ 0 → y ≠ x.k0 ∧ y ≠ x.k1 ∧ y ≠ x.k2 ∧ y ≠ x.k3) : (S.incs x).cnt y = S.cnt y := by
  unfold incs
  by_cases hy : y = 0
  · subst hy
    simp only [cnt_inc]
    repeat' rw [if_neg (by intro ⟨q, e⟩; exact q e.symm)]
  · obtain ⟨h0, h1, h2, h3⟩ := h hy
    simp only [cnt_inc]
    rw [if_neg (fun q => h3 q.2), if_neg (fun q => h2 q.2), if_neg (fun q => h1 q.2), if_neg (fun q => h0 q.2)]

theorem kidsOk_spec {S : St} {x : Nd} (h : S.kidsOk x = true) : (x.k0 = 0 ∨ S.cnt x.k0 ≠ 0) ∧ (x.k1 = 0 ∨ S.cnt x.k1 ≠ 0) ∧ (x.k2 = 0 ∨ S.cnt x.k2 ≠ 0) ∧ (x.k3 = 0 ∨ S.cnt x.k3 ≠ 0) := by
  simpa [kidsOk, and_assoc] using h

theorem put_n (S : St) (h : Int) (x : Nd) : (S.put h x).n = S.n := by simp [put, setNode, setCnt, setUsed, setBusy, setMade, incs, inc_n]
theorem put_node (S : St) (h : Int) (x : Nd) (y : Int) : (S.put h x).node y = if y = h then x else S.node y := by simp [put, setNode, setCnt, setUsed, setBusy, setMade, incs, inc_node]
theorem put_used (S : St) (h : Int) (x : Nd) (y : Int) : (S.put h x).used y = if y = h then true else S.used y := by simp [put, setNode, setCnt, setUsed, setBusy, setMade, incs, inc_used]
theorem put_cnt (S : St) (h : Int) (x : Nd) (y : Int) : (S.put h x).cnt y = if y = h then 1 else (S.incs x).cnt y := by simp [put, setNode, setCnt, setUsed, setBusy, setMade]
theorem put_wait (S : St) (h : Int) (x : Nd) : (S.put h x).wait = S.wait := by simp [put, setNode, setCnt, setUsed, setBusy, setMade, incs, inc_wait]
theorem put_busy (S : St) (h : Int) (x : Nd) : (S.put h x).busy = wrap64 (S.busy + 1) := by simp [put, setNode, setCnt, setUsed, setBusy, setMade]
theorem put_made (S : St) (h : Int) (x : Nd) : (S.put h x).made = wrap64 (S.made + 1) := by simp [put, setNode, setCnt, setUsed, setBusy, setMade]

/-- A node whose count is 0 is no kid of one that may be made. -/
theorem incs_zero {S : St} {x : Nd} (hk : S.kidsOk x = true) (y : Int) (h0 : S.cnt y = 0) : (S.incs x).cnt y = S.cnt y := by
  obtain ⟨a, b, c, d⟩ := kidsOk_spec hk
  refine cnt_incs_other S x y (fun hy => ⟨?_, ?_, ?_, ?_⟩) <;> rintro rfl
  · rcases a with a | a; exact hy a; exact a h0
  · rcases b with a | a; exact hy a; exact a h0
  · rcases c with a | a; exact hy a; exact a h0
  · rcases d with a | a; exact hy a; exact a h0

theorem WF.put {S : St} (H : S.WF) {x : Nd} {h : Int} (hk : S.kidsOk x = true) (hu : S.used h = false) (h1 : 1 ≤ h) (h2 : h ≤ S.n) : (S.put h x).WF := by
  refine ⟨by rw [put_n]; exact H.npos, by rw [put_n]; exact H.nle, fun y hy => ?_, fun y hy => ?_, by rw [put_wait]; exact H.wnd, fun y hy => ?_⟩
  · rw [put_n] at hy
    rw [put_used, if_neg (by omega)]
    exact H.out y hy
  · rw [put_used] at hy
    by_cases e : y = h
    · simp [e] at hy
    · rw [if_neg e] at hy
      have := H.free y hy
      rw [put_node, if_neg e, put_cnt, if_neg e, incs_zero hk y this.2]
      exact this
  · rw [put_wait] at hy
    have := H.win y hy
    have e : y ≠ h := by rintro rfl; rw [this.1] at hu; cases hu
    rw [put_used, if_neg e, put_cnt, if_neg e, incs_zero hk y this.2]
    exact this

theorem WF.make {S : St} (H : S.WF) (x : Nd) : (S.make x).2.2.WF := by
  unfold St.make
  split
  · exact H
  · split
    · exact H
    · split
      · exact H
      · rename_i h1 h2 h3
        rcases S.free_spec with h | h
        · exact absurd h.1 h3
        · exact H.put (by simpa using h2) h.2.2 h.1 h.2.1

/-- A node is taken off the row of those that wait, and is free. -/
def pop (S : St) (h : Int) (r : List Int) : St := (((S.setWait r).setNode h Nd.zero).setUsed h false).setBusy (wrap64 (S.busy - 1))
def drops (S : St) (x : Nd) : Nat → St
  | 0 => S | 1 => S.drop x.k0 | 2 => (S.drop x.k0).drop x.k1 | 3 => ((S.drop x.k0).drop x.k1).drop x.k2 | _ => (((S.drop x.k0).drop x.k1).drop x.k2).drop x.k3
theorem work1_cons {S : St} {h : Int} {r : List Int} (hw : S.wait = h :: r) : S.work1 = (S.pop h r).drops (S.node h) 4 := by
  unfold work1; rw [hw]; rfl
theorem WF.pop {S : St} (H : S.WF) {h : Int} {r : List Int} (hw : S.wait = h :: r) : (S.pop h r).WF := by
  have hm : h ∈ S.wait := by rw [hw]; exact List.mem_cons_self
  have hh := H.win h hm
  have nd := H.wnd
  rw [hw] at nd
  have nr : h ∉ r := (List.nodup_cons.1 nd).1
  refine ⟨H.npos, H.nle, fun y hy => ?_, fun y hy => ?_, (List.nodup_cons.1 nd).2, fun y hy => ?_⟩
  · simp only [St.pop, setWait, setNode, setUsed, setBusy]
    split
    · rfl
    · exact H.out y hy
  · simp only [St.pop, setWait, setNode, setUsed, setBusy] at hy ⊢
    by_cases e : y = h
    · subst e; simp [hh.2]
    · rw [if_neg e] at hy ⊢
      exact H.free y hy
  · simp only [St.pop, setWait, setNode, setUsed, setBusy] at hy ⊢
    have e : y ≠ h := by rintro rfl; exact nr hy
    rw [if_neg e]
    exact H.win y (by rw [hw]; exact List.mem_cons_of_mem _ hy)
theorem WF.work1 {S : St} (H : S.WF) : S.work1.WF := by
  cases hw : S.wait with
  | nil => unfold St.work1; rw [hw]; exact H
  | cons h r => rw [work1_cons hw]; exact (((((H.pop hw).drop _).drop _).drop _).drop _)

theorem WF.wait_len {S : St} (H : S.WF) : S.wait.length ≤ 6000 := by
  have : ∀ x ∈ S.wait, x ∈ (List.range S.n).map (fun i : Nat => (i : Int) + 1) := fun x hx => by
    have h := (H.win x hx).1
    have : ¬ (x < 1 ∨ (S.n : Int) < x) := fun q => by rw [H.out x q] at h; cases h
    exact List.mem_map.2 ⟨(x - 1).toNat, List.mem_range.2 (by omega), by omega⟩
  have h := nodup_sub_length H.wnd this
  have := H.nle
  simp at h
  omega
end St
end Go.Proofs.YtngfalbabgpnnaaGreat

namespace Go.Proofs.YtngfalbabgpnnaaGreat
open Go.RowKit

namespace ArB
variable {w : World} {p bn bc bu : Nat} {v : Value} {S : St}

theorem vne (H : ArB w p bn bc bu v S) {b : Nat} (hb : b = p ∨ b = bn ∨ b = bc ∨ b = bu) : ∀ g, v.ownBlock = some g → g ≠ b := by
  intro g hg
  have := H.nv g hg
  rcases hb with rfl | rfl | rfl | rfl
  · exact this.1
  · exact this.2.1
  · exact this.2.2.1
  · exact this.2.2.2

theorem setCnt (H : ArB w p bn bc bu v S) (h : Nat) (c : Int) : ArB (w.setCell ⟨bc, h, none⟩ (.int .i64 c)) p bn bc bu v (S.setCnt h c) := by
  obtain ⟨n1, n2, n3, n4, n5, n6⟩ := H.ne
  refine ⟨H.head.other _ n2, H.nodes.other _ n4, (H.cnts.set h _).congr fun i _ => ?_, H.useds.other _ (Ne.symm n6), H.waits.of_heap fun g hg => heap_setCell_other _ _ _ _ (H.vne (by simp) g hg), H.ne, H.nv⟩
  simp only [St.setCnt]
  by_cases e : i = h
  · subst e; simp
  · rw [if_neg e, if_neg (by omega)]

theorem setUsed (H : ArB w p bn bc bu v S) (h : Nat) (c : Bool) : ArB (w.setCell ⟨bu, h, none⟩ (.bool c)) p bn bc bu v (S.setUsed h c) := by
  obtain ⟨n1, n2, n3, n4, n5, n6⟩ := H.ne
  refine ⟨H.head.other _ n3, H.nodes.other _ n5, H.cnts.other _ n6, (H.useds.set h _).congr fun i _ => ?_, H.waits.of_heap fun g hg => heap_setCell_other _ _ _ _ (H.vne (by simp) g hg), H.ne, H.nv⟩
  simp only [St.setUsed]
  by_cases e : i = h
  · subst e; simp
  · rw [if_neg e, if_neg (by omega)]

theorem setBusy (H : ArB w p bn bc bu v S) (c : Int) : ArB (w.setCell ⟨p, 4, none⟩ (.int .i64 c)) p bn bc bu v (S.setBusy c) := by
  obtain ⟨n1, n2, n3, n4, n5, n6⟩ := H.ne
  refine ⟨(H.head.set 4 _).congr fun i hi => ?_, H.nodes.other _ (Ne.symm n1), H.cnts.other _ (Ne.symm n2), H.useds.other _ (Ne.symm n3), H.waits.of_heap fun g hg => heap_setCell_other _ _ _ _ (H.vne (by simp) g hg), H.ne, H.nv⟩
  match i, hi with
  | 0, _ => rfl | 1, _ => rfl | 2, _ => rfl | 3, _ => rfl | 4, _ => rfl | 5, _ => rfl

theorem setMade (H : ArB w p bn bc bu v S) (c : Int) : ArB (w.setCell ⟨p, 5, none⟩ (.int .i64 c)) p bn bc bu v (S.setMade c) := by
  obtain ⟨n1, n2, n3, n4, n5, n6⟩ := H.ne
  refine ⟨(H.head.set 5 _).congr fun i hi => ?_, H.nodes.other _ (Ne.symm n1), H.cnts.other _ (Ne.symm n2), H.useds.other _ (Ne.symm n3), H.waits.of_heap fun g hg => heap_setCell_other _ _ _ _ (H.vne (by simp) g hg), H.ne, H.nv⟩
  match i, hi with
  | 0, _ => rfl | 1, _ => rfl | 2, _ => rfl | 3, _ => rfl | 4, _ => rfl | 5, _ => rfl

/-- Another value in a.wait. -/
theorem setWait (H : ArB w p bn bc bu v S) (v' : Value) (l : List Int) (hw : WaitAt w v' l) (hv : ∀ g, v'.ownBlock = some g → g ≠ p ∧ g ≠ bn ∧ g ≠ bc ∧ g ≠ bu) :
    ArB (w.setCell ⟨p, 3, none⟩ v') p bn bc bu v' (S.setWait l) := by
  obtain ⟨n1, n2, n3, n4, n5, n6⟩ := H.ne
  refine ⟨(H.head.set 3 _).congr fun i hi => ?_, H.nodes.other _ (Ne.symm n1), H.cnts.other _ (Ne.symm n2), H.useds.other _ (Ne.symm n3), hw.of_heap fun g hg => heap_setCell_other _ _ _ _ (hv g hg).1, H.ne, hv⟩
  match i, hi with
  | 0, _ => rfl | 1, _ => rfl | 2, _ => rfl | 3, _ => rfl | 4, _ => rfl | 5, _ => rfl

theorem alloc (H : ArB w p bn bc bu v S) (o : Obj) : ArB (w.alloc o) p bn bc bu v S := H.of_heap fun b hb => hao w o b (H.foot_lt b hb)
theorem drew (H : ArB w p bn bc bu v S) : ArB w.drew p bn bc bu v S := H.of_heap fun _ _ => rfl
theorem setOther (H : ArB w p bn bc bu v S) {a : Addr} (x : Value) (h : ¬ Foot w p a.block) : ArB (w.setCell a x) p bn bc bu v S :=
  H.of_heap fun b hb => heap_setCell_other w a b x (fun e => h (e ▸ hb))

end ArB

theorem RowIs.sets {w : World} {b n : Nat} : ∀ (vs : List Value) (o : Nat) (w : World) (f : Nat → Value), RowIs w b n f → RowIs (w.setCells b o vs) b n (fun j => if o ≤ j ∧ j < o + vs.length then vs.getD (j - o) undef else f j)
  | [], o, w, f, h => h.congr fun i _ => by rw [if_neg (by simp only [List.length_nil]; omega)]
  | v :: r, o, w, f, h => by
    refine (RowIs.sets (w := w) r (o + 1) _ _ (h.set o v)).congr fun i _ => ?_
    simp only [List.length_cons]
    by_cases e : i = o
    · subst e
      rw [if_neg (by omega), if_pos rfl, if_pos (by omega)]
      simp
    · by_cases h1 : o + 1 ≤ i ∧ i < o + 1 + r.length
      · rw [if_pos h1, if_pos (by omega)]
        rw [show i - o = (i - (o + 1)) + 1 by omega]
        simp
      · rw [if_neg h1, if_neg e, if_neg (by omega)]

theorem heap_setCells_other (b : Nat) : ∀ (vs : List Value) (o : Nat) (w : World) (k : Nat), k ≠ b → (w.setCells b o vs).heap[k]? = w.heap[k]?
  | [], _, _, _, _ => rfl
  | v :: r, o, w, k, h => by rw [World.setCells, heap_setCells_other b r (o + 1) _ k h, heap_setCell_other _ _ _ _ (by simpa using h)]

theorem ArB.setNode {w : World} {p bn bc bu : Nat} {v : Value} {S : St} (H : ArB w p bn bc bu v S) (h : Nat) (x : Nd) :
    ArB (w.setCells bn (h * 7) x.arr.toList) p bn bc bu v (S.setNode h x) := by
  obtain ⟨n1, n2, n3, n4, n5, n6⟩ := H.ne
  have o := fun (k : Nat) (hk : k ≠ bn) => heap_setCells_other bn x.arr.toList (h * 7) w k hk
  refine ⟨H.head.of_heap (o p n1), (RowIs.sets (w := w) _ _ _ _ H.nodes).congr fun i _ => ?_, H.cnts.of_heap (o bc (Ne.symm n4)), H.useds.of_heap (o bu (Ne.symm n5)),
    H.waits.of_heap fun g hg => o g (H.vne (by simp) g hg), H.ne, H.nv⟩
  have hl : x.arr.toList.length = 7 := rfl
  rw [hl]
  simp only [St.setNode]
  by_cases e : h * 7 ≤ i ∧ i < h * 7 + 7
  · rw [if_pos e, if_pos (by omega)]
    obtain ⟨k, hk, rfl⟩ : ∃ k, k < 7 ∧ i = h * 7 + k := ⟨i - h * 7, by omega, by omega⟩
    rw [show h * 7 + k - h * 7 = k by omega, show (h * 7 + k) % 7 = k by omega]
    match k, hk with
    | 0, _ => rfl | 1, _ => rfl | 2, _ => rfl | 3, _ => rfl | 4, _ => rfl | 5, _ => rfl | 6, _ => rfl
  · rw [if_neg e, if_neg (by omega)]

theorem Fr.setOwnFoot {X : List Nat} {p : Nat} {w w' : World} {a : Addr} (h : Fr X p w w') (v : Value) (hw : Foot w p a.block ∨ w.heap.size ≤ a.block) (hp : a.block ≠ p) : Fr X p w (w'.setCell a v) :=
  ⟨h.os, h.tape, h.output, by simpa using h.size, fun b h1 h2 h3 => by
      rw [heap_setCell_other w' a b v (by rintro rfl; rcases hw with q | q; exact h2 q; omega)]; exact h.block b h1 h2 h3,
    fun b hb => h.foot b ((Foot.congr (heap_setCell_other w' a p v (fun e => hp e.symm))).1 hb)⟩

/-- Another value in one of the head's cells: it names no block that was there. -/
theorem Fr.setHead {X : List Nat} {p : Nat} {w w' : World} {i : Nat} (h : Fr X p w w') (hp : p < w.heap.size) (v : Value) (hv : ∀ g, v.ownBlock = some g → Foot w p g ∨ w.heap.size ≤ g) : Fr X p w (w'.setCell ⟨p, i, none⟩ v) :=
  ⟨h.os, h.tape, h.output, by simpa using h.size, fun b h1 h2 h3 => by
      rw [heap_setCell_other w' ⟨p, i, none⟩ b v (fun e => h2 (Or.inl e))]; exact h.block b h1 h2 h3,
    fun b hb => by
      rcases hb with hb | ⟨j, a, l, k, hc, rfl⟩
      · exact Or.inl (Or.inl hb)
      · by_cases e : (⟨p, i, none⟩ : Addr) = ⟨p, j, none⟩
        · have : v = .slice (some a) l k := by
            have hj : i = j := by simpa using e
            subst hj
            have : ((w'.setCell ⟨p, i, none⟩ v).cell? ⟨p, i, none⟩).isSome = true := by rw [hc]; rfl
            cases hq : w'.cell? ⟨p, i, none⟩ with
            | some u => rw [World.cell?_setCell_same w' ⟨p, i, none⟩ v hq] at hc; exact Option.some.inj hc
            | none =>
              exfalso
              revert hc hq
              unfold World.cell? World.setCell
              simp only [Array.getElem?_modify, if_true]
              cases hh : w'.heap[p]? with
              | none => simp
              | some o =>
                cases o <;> simp
                intro h1
                have := (Array.getElem?_eq_some_iff.1 h1).1
                simpa using this
          exact hv _ (by rw [this]; rfl)
        · rw [World.cell?_setCell_other _ _ _ _ e] at hc
          exact h.foot _ (Or.inr ⟨j, a, l, k, hc, rfl⟩)⟩

theorem Fr.setsFoot {X : List Nat} {p b : Nat} (hp : b ≠ p) : ∀ (vs : List Value) (o : Nat) (w : World), Foot w p b → Fr X p w (w.setCells b o vs)
  | [], _, w, _ => Fr.refl X p w
  | v :: r, o, w, h => (Fr.setFoot (a := ⟨b, o, none⟩) v h hp).trans (Fr.setsFoot hp r (o + 1) _ ((Foot.congr (heap_setCell_other w ⟨b, o, none⟩ p v (fun e => hp e.symm))).2 h))

theorem os_setCell (w : World) (a : Addr) (v : Value) : (w.setCell a v).os = w.os := rfl
theorem tape_setCell (w : World) (a : Addr) (v : Value) : (w.setCell a v).tape = w.tape := rfl
theorem output_setCell (w : World) (a : Addr) (v : Value) : (w.setCell a v).output = w.output := rfl
theorem os_alloc (w : World) (o : Obj) : (w.alloc o).os = w.os := rfl
theorem tape_alloc (w : World) (o : Obj) : (w.alloc o).tape = w.tape := rfl
theorem output_alloc (w : World) (o : Obj) : (w.alloc o).output = w.output := rfl
theorem os_drew (w : World) : w.drew.os = w.os := rfl
theorem tape_drew (w : World) : w.drew.tape = w.tape := rfl
theorem output_drew (w : World) : w.drew.output = w.output := rfl

/-- From the arena before and behind. -/
theorem Fr.of_arB {X : List Nat} {w w' : World} {p bn bc bu : Nat} {v v' : Value} {S S' : St} (B : ArB w p bn bc bu v S) (B' : ArB w' p bn bc bu v' S')
    (hv : ∀ g, v'.ownBlock = some g → v.ownBlock = some g ∨ w.heap.size ≤ g) (ho : w'.os = w.os) (ht : w'.tape = w.tape) (hu : w'.output = w.output) (hs : w.heap.size ≤ w'.heap.size)
    (hb : ∀ b, b < w.heap.size → b ≠ p → b ≠ bn → b ≠ bc → b ≠ bu → v.ownBlock ≠ some b → w'.heap[b]? = w.heap[b]?) : Fr X p w w' := by
  refine ⟨ho, ht, hu, hs, fun b h1 h2 _ => ?_, fun b h => ?_⟩
  · rw [B.foot_iff] at h2
    simp only [not_or] at h2
    exact hb b h1 h2.1 h2.2.1 h2.2.2.1 h2.2.2.2.1 h2.2.2.2.2
  · rw [B.foot_iff]
    rcases (B'.foot_iff b).1 h with h | h | h | h | h
    · exact Or.inl (Or.inl h)
    · exact Or.inl (Or.inr (Or.inl h))
    · exact Or.inl (Or.inr (Or.inr (Or.inl h)))
    · exact Or.inl (Or.inr (Or.inr (Or.inr (Or.inl h))))
    · rcases hv b h with h | h
      · exact Or.inl (Or.inr (Or.inr (Or.inr (Or.inr h))))
      · exact Or.inr h

end Go.Proofs.YtngfalbabgpnnaaGreat

namespace Go.Proofs.YtngfalbabgpnnaaGreat
open Go.RowKit
variable {P : Program} {a : Act} {w : World} {Q : Exit → Act → World → Prop}

/-- A frame in which some slots hold whatever. -/
theorem mk_u {a : Act} {R : (Nat → Value) → Act} (h : a = R (fun i => a.tmps.getD i undef)) : ∃ u, a = R u := ⟨_, h⟩

theorem least_nat {p : Nat → Prop} (h : ∃ n, p n) : ∃ n, p n ∧ ∀ m, p m → n ≤ m := by
  obtain ⟨n, hn⟩ := h
  induction n using Nat.strongRecOn with
  | _ n ih =>
    by_cases hm : ∃ m, m < n ∧ p m
    · obtain ⟨m, h1, h2⟩ := hm
      exact ih m h1 h2
    · exact ⟨n, hn, fun m hp => Nat.le_of_not_lt fun hlt => hm ⟨m, hlt, hp⟩⟩

/-- A label to which the run jumps back: J n: what holds at the label with n rounds at hand. -/
theorem wp_scope_fuel {c rest : Code} (l : Nat) (J : Nat → Act → World → Prop) (hf : findLabel c l = some (.seq .skip rest))
    (pass : ∀ n a w, J n a w → rest.wp P (Exit.jump l (fun a' w' => ∃ m, m < n ∧ J m a' w') Q) a w)
    (first : (∀ n a w, J n a w → rest.wp P (Exit.jump l (fun a' w' => ∃ m, J m a' w') Q) a w) → c.wp P (Exit.jump l (fun a' w' => ∃ m, J m a' w') Q) a w) : (Code.scope c).wp P Q a w := by
  have hm : ∀ a w, ∃ k, (∃ n, J n a w) → J k a w ∧ ∀ m, J m a w → k ≤ m := fun a w => by
    by_cases h : ∃ n, J n a w
    · obtain ⟨n, h1, h2⟩ := least_nat h
      exact ⟨n, fun _ => ⟨h1, h2⟩⟩
    · exact ⟨0, fun q => absurd q h⟩
  have sk : ∀ {Q' : Exit → Act → World → Prop} {a : Act} {w : World}, rest.wp P Q' a w → (Code.seq .skip rest).wp P Q' a w := fun h => wp_seq (wp_skip h)
  refine wp_scope_jumps l (fun a w => ∃ n, J n a w) (fun a w => Classical.choose (hm a w)) hf (first fun n a w hJ => wp_mono (pass n a w hJ) fun e a' w' q => ?_) fun a w hJ => ?_
  · cases e with
    | goto l' => exact ⟨q.1, let ⟨m, _, h⟩ := q.2; ⟨m, h⟩⟩
    | normal => exact q
    | exit id => exact q
    | ret => exact q
    | panic ch => exact q
    | outgrown => exact q
  · have h := Classical.choose_spec (hm a w) hJ
    refine sk (wp_mono (pass _ a w h.1) fun e a' w' q => ?_)
    cases e with
    | goto l' =>
      obtain ⟨rfl, m, hlt, hJ'⟩ := q
      exact ⟨rfl, ⟨m, hJ'⟩, Nat.lt_of_le_of_lt ((Classical.choose_spec (hm a' w') ⟨m, hJ'⟩).2 m hJ') hlt⟩
    | normal => exact q
    | exit id => exact q
    | ret => exact q
    | panic ch => exact q
    | outgrown => exact q
end Go.Proofs.YtngfalbabgpnnaaGreat

namespace Go.Proofs.YtngfalbabgpnnaaGreat
open Go.RowKit
variable {P : Program} {ops : Array Oper} {Q : Exit → Act → World → Prop} {S : World → Prop} {a : Act} {w : World} {r : List (Nat × Bool)} {i : Nat} {o : Oper}

def wpCan (P : Program) (ops : Array Oper) (Q : Exit → Act → World → Prop) (S : World → Prop) : List (Nat × Bool) → Act → World → Prop
  | [], a, w => Q .normal a w
  | (i, true) :: r, a, w => wpOp P ops Q i (fun a' w' => S w' ∧ wpCan P ops Q S r a' w') a w
  | (i, false) :: r, a, w => ∃ o v, ops[i]? = some o ∧ YieldsIf P ops S o v a ∧ wpCan P ops Q S r (a.put o.dst v) w

def canB (md : Region.Mode) (ops : Array Oper) : List (Nat × Bool) → Array Bool → Bool
  | [], listed => (Region.ready md ops listed).isEmpty
  | (i, l) :: r, listed => (if l then decide (Region.ready md ops listed = [i]) else (Region.ready md ops listed).contains i && Region.free md ops listed i) && canB md ops r (listed.setIfInBounds i true)

theorem wpAnyH_of_can {md : Region.Mode} (hs : Region.noSelect ops = true) (hQ : ∀ c d v a w, Q (.panic c) (Act.put a d v) w → Q (.panic c) a w) :
    ∀ (l : List (Nat × Bool)) (listed : Array Bool) (a : Act) (w : World), canB md ops l listed = true → S w → wpCan P ops Q S l a w → wpAnyH P md ops Q S l.length listed a w
  | [], listed, a, w, hB, _, h => wpAnyH_done (by simpa [canB] using hB) h _
  | (i, true) :: r, listed, a, w, hB, hS, h => by
    simp only [canB, if_true, Bool.and_eq_true, decide_eq_true_eq] at hB
    refine wpAnyH_all hB.1 (by simp) fun j hj => ?_
    obtain rfl : j = i := by simpa using hj
    exact wpOp_mono (fun a' w' ⟨h1, h2⟩ => ⟨h1, wpAnyH_of_can hs hQ r _ a' w' hB.2 h1 h2⟩) h
  | (i, false) :: r, listed, a, w, hB, hS, h => by
    simp only [canB, Bool.false_eq_true, if_false, Bool.and_eq_true] at hB
    obtain ⟨o, v, ho, hy, h⟩ := h
    exact wpAnyH_take ho hs hB.1.2 hB.1.1 (fun c a w => hQ c _ _ a w) hy hS (wpAnyH_of_can hs hQ r _ _ w hB.2 hS h)

/-- THE BEGINNING. -/
theorem wp_region_can {id : Nat} {l : List Oper} (S : World → Prop) (ord : List (Nat × Bool)) (hm : P.follows .mixedOrders = true)
    (hB : (Region.noSelect l.toArray && (canB .any l.toArray ord (Array.replicate l.toArray.size false) && decide (ord.length = l.toArray.size))) = true)
    (hQ : ∀ c d v a w, Q (.panic c) (Act.put a d v) w → Q (.panic c) a w) (hS : S w.drew) (h : wpCan P l.toArray Q S ord a w.drew) : (Code.region id l.toArray true).wp P Q a w := by
  simp only [Bool.and_eq_true, decide_eq_true_eq] at hB
  refine wp_region_held (S := S) hm ?_
  have h2 := wpAnyH_of_can hB.1 hQ ord _ a w.drew hB.2.1 hS h
  rw [hB.2.2] at h2
  exact h2

theorem wpCan_isq (h : wpCan P ops Q S ((i, false) :: r) a w) : wpCan P ops Q S ((i, false) :: r) a w := h
theorem wpCan_isl (h : wpCan P ops Q S ((i, true) :: r) a w) : wpCan P ops Q S ((i, true) :: r) a w := h
theorem wpCan_nil (h : Q .normal a w) : wpCan P ops Q S [] a w := h
/-- An operation whose guard says no. -/
theorem wpCan_off (ho : ops[i]? = some o) (hw : Region.wanted o (yielded ops a.tmps) = false) (h : wpCan P ops Q S r (a.put o.dst undef) w) : wpCan P ops Q S ((i, false) :: r) a w :=
  ⟨o, undef, ho, Or.inr ⟨hw, rfl⟩, h⟩
theorem wpCan_quiet (v : Value) (ho : ops[i]? = some o) (hw : Region.wanted o (yielded ops a.tmps) = true) (hv : ∀ w', S w' → (execOp a.eval o).run P w' = .ok (.value v) w')
    (h : wpCan P ops Q S r (a.put o.dst v) w) : wpCan P ops Q S ((i, false) :: r) a w :=
  ⟨o, v, ho, Or.inl ⟨hw, hv⟩, h⟩
theorem wpCan_loud_off (ho : ops[i]? = some o) (hw : Region.wanted o (yielded ops a.tmps) = false) (hS : S w) (h : wpCan P ops Q S r (a.put o.dst undef) w) : wpCan P ops Q S ((i, true) :: r) a w := by
  unfold wpCan wpOp
  rw [ho]
  simp only [hw, Bool.false_eq_true, if_false]
  exact ⟨hS, h⟩
theorem wpCan_loud (ho : ops[i]? = some o) (hw : Region.wanted o (yielded ops a.tmps) = true) (h : o.wp P a w (fun a' w' => S w' ∧ wpCan P ops Q S r a' w') Q) : wpCan P ops Q S ((i, true) :: r) a w := by
  unfold wpCan wpOp
  rw [ho]
  simp only [hw, if_true]
  exact Or.inl h

def lookB (ts : List Value) : Option Oper → Option Bool
  | some o => match o.dst with
    | some d => match ts[d]? with
      | some (.bool b) => some b
      | _ => none
    | none => none
  | none => none
def wantedL (os : List Oper) (ts : List Value) : Option (Nat × Bool) → Bool
  | none => true
  | some (j, want) => match lookB ts os[j]? with
    | some b => cond want b (!b)
    | none => false
theorem wantedL_eq {ops : Array Oper} {a : Act} {o : Oper} : wantedL ops.toList a.tmps.toList o.guard = Region.wanted o (yielded ops a.tmps) := by
  unfold wantedL Region.wanted
  cases o.guard with
  | none => rfl
  | some g =>
    obtain ⟨j, want⟩ := g
    have : lookB a.tmps.toList ops.toList[j]? = yielded ops a.tmps j := by
      unfold yielded
      rw [← Array.getElem?_toList]
      cases ops.toList[j]? with
      | none => rfl
      | some o' =>
        simp only [lookB, Option.bind_some]
        cases o'.dst with
        | none => rfl
        | some d =>
          simp only [Option.bind_some, Array.getElem?_toList]
          cases a.tmps[d]? with
          | none => rfl
          | some v => cases v <;> rfl
    simp only [this]
    cases yielded ops a.tmps j with
    | none => cases want <;> rfl
    | some b => cases want <;> cases b <;> rfl
theorem toL (h : ops.toList[i]? = some o) : ops[i]? = some o := by rw [← Array.getElem?_toList]; exact h
/-- What reads: its value, the frame behind it. -/
theorem wpCan_read {v : Value} {a' : Act} (ho : ops.toList[i]? = some o) (hw : wantedL ops.toList a.tmps.toList o.guard = true) (hv : ∀ w', S w' → (execOp a.eval o).run P w' = .ok (.value v) w')
    (ha : a.put o.dst v = a') (h : wpCan P ops Q S r a' w) : wpCan P ops Q S ((i, false) :: r) a w :=
  ⟨o, v, toL ho, Or.inl ⟨wantedL_eq.symm.trans hw, hv⟩, ha ▸ h⟩
theorem wpCan_no {a' : Act} (ho : ops.toList[i]? = some o) (hw : wantedL ops.toList a.tmps.toList o.guard = false) (ha : a.put o.dst undef = a') (h : wpCan P ops Q S r a' w) : wpCan P ops Q S ((i, false) :: r) a w :=
  ⟨o, undef, toL ho, Or.inr ⟨wantedL_eq.symm.trans hw, rfl⟩, ha ▸ h⟩
theorem wpCan_no_loud {a' : Act} (ho : ops.toList[i]? = some o) (hw : wantedL ops.toList a.tmps.toList o.guard = false) (ha : a.put o.dst undef = a') (hS : S w) (h : wpCan P ops Q S r a' w) : wpCan P ops Q S ((i, true) :: r) a w :=
  wpCan_loud_off (toL ho) (wantedL_eq.symm.trans hw) hS (ha ▸ h)
/-- What writes. -/
theorem wpCan_step {v : Value} {a' : Act} {w' : World} (ho : ops.toList[i]? = some o) (hw : wantedL ops.toList a.tmps.toList o.guard = true) (hv : (execOp a.eval o).run P w = .ok (.value v) w')
    (ha : a.put o.dst v = a') (hS : S w') (h : wpCan P ops Q S r a' w') : wpCan P ops Q S ((i, true) :: r) a w := by
  refine wpCan_loud (toL ho) (wantedL_eq.symm.trans hw) ?_
  unfold Oper.wp
  rw [hv, Oper.upon_value]
  exact ⟨hS, ha ▸ h⟩
theorem wpCan_skip {a' : Act} {w' : World} (ho : ops.toList[i]? = some o) (hw : wantedL ops.toList a.tmps.toList o.guard = true) (hv : (execOp a.eval o).run P w = .ok .skip w')
    (ha : a.put o.dst undef = a') (hS : S w') (h : wpCan P ops Q S r a' w') : wpCan P ops Q S ((i, true) :: r) a w := by
  refine wpCan_loud (toL ho) (wantedL_eq.symm.trans hw) ?_
  unfold Oper.wp
  rw [hv, Oper.upon_skip]
  exact ⟨hS, ha ▸ h⟩
/-- What calls. -/
theorem wpCan_call {f : FuncId} {args : Array Value} {R : Ending → World → Prop} (hc : Calls P f args w R) (ho : ops.toList[i]? = some o) (hw : wantedL ops.toList a.tmps.toList o.guard = true)
    (hv : (execOp a.eval o).run P w = .ok (.enter f args) w)
    (h : ∀ e w', R e w' → ∃ v, e = .returned v ∧ (∃ a', a.put o.dst v = a' ∧ wpCan P ops Q S r a' w') ∧ S w') : wpCan P ops Q S ((i, true) :: r) a w := by
  refine wpCan_loud (toL ho) (wantedL_eq.symm.trans hw) ?_
  unfold Oper.wp
  rw [hv, Oper.upon_enter]
  refine hc.mono fun e w' he => ?_
  obtain ⟨v, rfl, ⟨a', rfl, h⟩, hS⟩ := h e w' he
  exact ⟨hS, h⟩
theorem wpCan_told {v : Value} {a' : Act} {d : Option Nat} (hS : S w) (ha : a.put d v = a') (h : wpCan P ops Q S r a' w) :
    ∃ v', Ending.returned v = Ending.returned v' ∧ (∃ a', a.put d v' = a' ∧ wpCan P ops Q S r a' w) ∧ S w := ⟨v, rfl, ⟨a', ha, h⟩, hS⟩
end Go.Proofs.YtngfalbabgpnnaaGreat

namespace Go.Proofs.YtngfalbabgpnnaaGreat
open Go.RowKit

def bitsOf : List Bool → Nat
  | [] => 0
  | b :: r => b.toNat + 2 * bitsOf r

theorem bitsOf_lt (l : List Bool) : bitsOf l < 2 ^ l.length := by
  induction l with
  | nil => simp [bitsOf]
  | cons b r ih => simp only [bitsOf, List.length_cons, Nat.pow_succ]; cases b <;> simp <;> omega

theorem bitsOf_append (a b : List Bool) : bitsOf (a ++ b) = bitsOf a + 2 ^ a.length * bitsOf b := by
  induction a with
  | nil => simp [bitsOf]
  | cons x r ih =>
    simp only [List.cons_append, bitsOf, ih, List.length_cons, Nat.pow_succ, Nat.mul_add]
    rw [Nat.mul_comm (2 ^ r.length) 2, Nat.mul_assoc, Nat.add_assoc]

theorem bitsOf_split (l : List Bool) (i : Nat) (h : i ≤ l.length) : bitsOf l = bitsOf (l.take i) + 2 ^ i * bitsOf (l.drop i) := by
  conv => lhs; rw [← List.take_append_drop i l, bitsOf_append]
  rw [List.length_take, Nat.min_eq_left h]

theorem bitsOf_take (l : List Bool) (i : Nat) (h : i ≤ l.length) : bitsOf (l.take i) = bitsOf l % 2 ^ i := by
  have h1 := bitsOf_lt (l.take i)
  rw [List.length_take, Nat.min_eq_left h] at h1
  rw [bitsOf_split l i h, Nat.add_mul_mod_self_left, Nat.mod_eq_of_lt h1]

theorem bitsOf_drop (l : List Bool) (i : Nat) (h : i ≤ l.length) : bitsOf (l.drop i) = bitsOf l / 2 ^ i := by
  have h1 := bitsOf_lt (l.take i)
  rw [List.length_take, Nat.min_eq_left h] at h1
  rw [bitsOf_split l i h, Nat.add_mul_div_left _ _ (Nat.two_pow_pos i), Nat.div_eq_of_lt h1, Nat.zero_add]

theorem bitsOf_bit (l : List Bool) (i : Nat) (h : i < l.length) : bitsOf l / 2 ^ i % 2 = l[i].toNat := by
  rw [← bitsOf_drop l i (by omega), List.drop_eq_getElem_cons h, bitsOf]
  cases l[i] <;> simp <;> omega

theorem bitsOf_inj {a b : List Bool} (hl : a.length = b.length) (h : bitsOf a = bitsOf b) : a = b := by
  induction a generalizing b with
  | nil => cases b with
    | nil => rfl
    | cons y s => simp at hl
  | cons x r ih =>
    cases b with
    | nil => simp at hl
    | cons y s =>
      simp only [bitsOf] at h
      simp only [List.length_cons] at hl
      have h1 : x.toNat % 2 = y.toNat % 2 := by omega
      have : x = y := by cases x <;> cases y <;> simp at h1 <;> rfl
      subst this
      rw [ih (b := s) (by omega) (by omega)]

/-- The bits of a number, so many. -/
def ofBits (n : Nat) (x : Nat) : List Bool := match n with
  | 0 => []
  | n + 1 => (x % 2 == 1) :: ofBits n (x / 2)
theorem length_ofBits (n x : Nat) : (ofBits n x).length = n := by
  induction n generalizing x with
  | zero => rfl
  | succ n ih => simp [ofBits, ih]
theorem bitsOf_ofBits (n x : Nat) (h : x < 2 ^ n) : bitsOf (ofBits n x) = x := by
  induction n generalizing x with
  | zero => simp at h; subst h; rfl
  | succ n ih =>
    rw [Nat.pow_succ] at h
    simp only [ofBits, bitsOf, ih (x / 2) (by omega)]
    by_cases e : x % 2 = 1
    · rw [show (x % 2 == 1) = true by simp [e]]; simp only [Bool.toNat_true]; omega
    · rw [show (x % 2 == 1) = false by simp; omega]; simp only [Bool.toNat_false]; omega
theorem ofBits_bitsOf (l : List Bool) : ofBits l.length (bitsOf l) = l :=
  bitsOf_inj (length_ofBits _ _) (bitsOf_ofBits _ _ (bitsOf_lt l))

/-- A leaf as the program has it. -/
def lfV (l : List Bool) : Value := .agg #[.int .u64 (bitsOf l : Int), .int .i64 (l.length : Int)]

theorem pow_le_64 {n : Nat} (h : n ≤ 64) : 2 ^ n ≤ 18446744073709551616 := by
  have := Nat.pow_le_pow_right (n := 2) (by decide) h
  simpa using this
theorem bitsOf_lt64 {l : List Bool} (h : l.length ≤ 64) : bitsOf l < 18446744073709551616 := Nat.lt_of_lt_of_le (bitsOf_lt l) (pow_le_64 h)

end Go.Proofs.YtngfalbabgpnnaaGreat

namespace Go.Proofs.YtngfalbabgpnnaaGreat
open Go.RowKit

namespace St
/-- A live node of one of two tags. -/
def live2 (S : St) (h t u : Int) : Bool := S.used h && (decide (0 < S.cnt h) && ((S.node h).tag == t || (S.node h).tag == u))
def bRow (S : St) (h : Int) : Bool := S.live2 h 1 2
def bLen (S : St) (h : Int) : Int := if S.bRow h then (if (S.node h).tag = 1 then wrap64 (S.node h).b else wrap64 (S.node h).a) else 0
end St

/-- The bits of a leaf's node, if it may be one. -/
def leafOf (x : Nd) : Option (List Bool) :=
  if 0 ≤ x.b ∧ x.b ≤ 64 ∧ 0 ≤ x.a ∧ x.a < ((2 ^ x.b.toNat : Nat) : Int) then some (ofBits x.b.toNat x.a.toNat) else none
def leafNd (l : List Bool) : Nd := ⟨1, 0, 0, 0, 0, bitsOf l, l.length⟩

theorem leafOf_some {x : Nd} {l : List Bool} (h : leafOf x = some l) : l.length ≤ 64 ∧ x.a = (bitsOf l : Int) ∧ x.b = (l.length : Int) := by
  unfold leafOf at h
  split at h
  · rename_i hx
    obtain ⟨h1, h2, h3, h4⟩ := hx
    obtain rfl := Option.some.inj h
    rw [length_ofBits, bitsOf_ofBits _ _ (by omega)]
    exact ⟨by omega, by omega, by omega⟩
  · cases h
theorem leafOf_leafNd {l : List Bool} (h : l.length ≤ 64) : leafOf (leafNd l) = some l := by
  have := bitsOf_lt l
  unfold leafOf leafNd
  simp only [Int.toNat_natCast]
  rw [if_pos ⟨by omega, by omega, by omega, by omega⟩, ofBits_bitsOf]

end Go.Proofs.YtngfalbabgpnnaaGreat
