/-
  The walks of Few, ModelRight, Place: at whatever documents come in.
  Two versions of the same parts: plain facts.
  The walk of scriniumlaw12.alive.
  The walk of VersionShares.
  Documents as an argument of a law: opened; a law over documents and a number.
  VersionShares: at every slice of documents and every rate the law returns true; its arguments read as before.
-/
import Derived.Test.YtngfalbabgpnnaaGreatM2
import Derived.Test.YtngfalbabgpnnaaGreatM3
import Derived.Test.YtngfalbabgpnnaaGreatM16
import Derived.Test.YtngfalbabgpnnaaGreatM17
import Derived.Test.YtngfalbabgpnnaaGreatM19
import Derived.Test.YtngfalbabgpnnaaGreatM20
import Derived.Test.YtngfalbabgpnnaaGreatRows
import Derived.WalkKit
import Derived.ProofKit
import Derived.OpenShut
import Derived.Carry
import Derived.Deep.SlicePairs
set_option linter.unusedVariables false
set_option linter.unusedSimpArgs false
namespace Go.Proofs.YtngfalbabgpnnaaGreat
open Go.RowKit

/-- A document as it comes in. -/
abbrev GDoc := Int × ByteArray
def gdocV (x : GDoc) : List Value := [.int .i64 x.1, .string x.2]
theorem gdoc2 {l : List GDoc} {i : Nat} {x : GDoc} (h : l[i]? = some x) : (l.flatMap gdocV)[i * 2]? = some (.int .i64 x.1) ∧ (l.flatMap gdocV)[i * 2 + 1]? = some (.string x.2) := by
  induction l generalizing i with
  | nil => simp at h
  | cons a r ih =>
    cases i with
    | zero => simp at h; subst h; simp [gdocV]
    | succ i =>
      have := ih (i := i) (by simpa using h)
      rw [List.flatMap_cons]
      have e1 : (i + 1) * 2 = 2 + i * 2 := by omega
      have e2 : 2 + i * 2 + 1 = 2 + (i * 2 + 1) := by omega
      rw [e1, e2]
      constructor
      · rw [List.getElem?_append_right (by simp [gdocV])]; simpa [gdocV] using this.1
      · rw [List.getElem?_append_right (by simp [gdocV])]
        rw [show 2 + (i * 2 + 1) - (gdocV a).length = i * 2 + 1 by simp [gdocV]]
        exact this.2
/-- May they be? -/
structure FewGood (l : List GDoc) : Prop where
  len : l.length ≤ 10
  doc : ∀ (i : Nat) (x : GDoc), l[i]? = some x → 1 ≤ x.1 ∧ x.2.size ≤ 40 ∧ ∀ (j : Nat) (y : GDoc), j < i → l[j]? = some y → y.1 ≠ x.1
def wsum (l : List GDoc) : Nat → Int
  | 0 => 0
  | i + 1 => IntKind.i64.wrap (wsum l i + ((l.getD i (0, ByteArray.empty)).2.size : Int))
def dsum (l : List GDoc) : Nat → Nat
  | 0 => 0
  | i + 1 => dsum l i + (l.getD i (0, ByteArray.empty)).2.size
theorem wsum_eq {l : List GDoc} (h : FewGood l) (i : Nat) (hi : i ≤ l.length) : wsum l i = (dsum l i : Int) ∧ dsum l i ≤ 40 * i := by
  induction i with
  | zero => exact ⟨rfl, Nat.le_refl _⟩
  | succ i ih =>
    obtain ⟨e, b⟩ := ih (by omega)
    have hx : l[i]? = some l[i] := List.getElem?_eq_getElem (by omega)
    have hs := (h.doc i _ hx).2.1
    have hg : l.getD i (0, ByteArray.empty) = l[i] := by rw [List.getD_eq_getElem?_getD, hx]; rfl
    have hl := h.len
    simp only [wsum, dsum, hg, e]
    refine ⟨?_, by omega⟩
    rw [← Int.natCast_add]
    exact i64_nat (by omega)

/-- It answers; yes only if p; nothing has turned. -/
def Tells (w : World) (p : Prop) (o : Ending) (w' : World) : Prop := ∃ b : Bool, o = .returned (.bool b) ∧ w' = w ∧ (b = true → p)
/-- Documents that came in: their cells. -/
def RowG (w : World) (a : Option Addr) (l : List GDoc) : Prop :=
  ∀ (i : Nat) (x : GDoc), l[i]? = some x → ∃ g off, a = some ⟨g, off, none⟩ ∧ g < w.heap.size ∧ w.cell? ⟨g, off + i * 2, none⟩ = some (.int .i64 x.1) ∧ w.cell? ⟨g, off + i * 2 + 1, none⟩ = some (.string x.2)
theorem gdoc_at {l : List GDoc} : ∀ {j : Nat} {v : Value}, (l.flatMap gdocV)[j]? = some v → ∃ i x, l[i]? = some x ∧ ((j = i * 2 ∧ v = .int .i64 x.1) ∨ (j = i * 2 + 1 ∧ v = .string x.2)) := by
  induction l with
  | nil => intro j v h; simp at h
  | cons a r ih =>
    intro j v h
    rw [List.flatMap_cons] at h
    match j, h with
    | 0, h => simp [gdocV] at h; exact ⟨0, a, rfl, Or.inl ⟨rfl, h.symm⟩⟩
    | 1, h => simp [gdocV] at h; exact ⟨0, a, rfl, Or.inr ⟨rfl, h.symm⟩⟩
    | j + 2, h =>
      rw [List.getElem?_append_right (by simp [gdocV])] at h
      obtain ⟨i, x, h1, h2⟩ := ih (j := j) (by simpa [gdocV] using h)
      refine ⟨i + 1, x, by simpa using h1, ?_⟩
      rcases h2 with ⟨q, e⟩ | ⟨q, e⟩
      · exact Or.inl ⟨by omega, e⟩
      · exact Or.inr ⟨by omega, e⟩
theorem gdoc_len (l : List GDoc) : (l.flatMap gdocV).length = l.length * 2 := by
  induction l with
  | nil => rfl
  | cons a r ih => rw [List.flatMap_cons, List.length_append, ih, List.length_cons]; simp only [gdocV, List.length_cons, List.length_nil]; omega
theorem RowG.rowv {w : World} {a : Option Addr} {l : List GDoc} (R : RowG w a l) (h : l ≠ []) (cap : Nat) : RowV w (.slice a l.length cap) 2 l.length (l.flatMap gdocV) := by
  have hp : 0 < l.length := List.length_pos_iff.2 h
  obtain ⟨g, off, e, hg, _, _⟩ := R 0 l[0] (List.getElem?_eq_getElem hp)
  subst e
  refine ⟨?_, Or.inr ⟨g, off, cap, rfl, hg, fun j v hj => ?_⟩⟩
  · exact gdoc_len l
  · obtain ⟨i, x, h1, h2⟩ := gdoc_at hj
    obtain ⟨g', off', e', _, z1, z2⟩ := R i x h1
    simp only [Option.some.injEq, Addr.mk.injEq] at e'
    obtain ⟨rfl, rfl, _⟩ := e'
    rcases h2 with ⟨rfl, rfl⟩ | ⟨rfl, rfl⟩
    · exact z1
    · rw [← Nat.add_assoc]; exact z2

set_option maxHeartbeats 1000000 in
set_option maxRecDepth 100000 in
theorem Place_calls (w : World) (a : Option Addr) (cap : Nat) (l : List GDoc) (d : Int) (R : RowG w a l) (hl : l.length < 9223372036854775808) :
    Calls Tryz.prog 34 #[.slice a l.length cap, .int .i64 d] w fun o w' => ∃ k : Int, o = .returned (.int .i64 k) ∧ w' = w ∧ ∀ i : Nat, k = i → ∀ j x, j < i → l[j]? = some x → x.1 ≠ d := by
  have R := hid R
  generalize hn : l.length = n at *
  have hn := hid hn
  go_enter Tryz.func34, Tryz.ntmps34
  go_wp2
  go_loopw [5] (fun c wr => ∃ i : Nat, i ≤ n ∧ c = .int .i64 i ∧ wr = w ∧ Hid (∀ j x, j < i → l[j]? = some x → x.1 ≠ d)) (fun c _ => n - (intOf c).toNat)
  case atStart => exact ⟨0, by omega, rfl, rfl, hid fun j x h => by omega⟩
  case round =>
    obtain ⟨i, hin, rfl, rfl, K⟩ := hrel
    by_cases hil : i = n
    · subst hil
      go_wp2
      go_ret
      exact ⟨-1, rfl, rfl, fun i h => by omega⟩
    · have hlt : i < n := by omega
      have hlt' : (i : Int) < (n : Nat) := by omega
      obtain ⟨x, hx⟩ : ∃ x, l[i]? = some x := ⟨l[i]'(by rw [hn.out]; exact hlt), List.getElem?_eq_getElem _⟩
      have R1 := R.out
      obtain ⟨g, off, rfl, _, z1, z2⟩ := R1 i x hx
      have wi : IntKind.i64.wrap ((i : Int) + 1) = (i : Int) + 1 := by rw [show (i : Int) + 1 = ((i + 1 : Nat) : Int) by omega]; exact i64_nat (by omega)
      clear R1
      have hx := hid hx
      by_cases he : x.1 = d
      · have q1 : (x.1 == d) = true := by simp [he]
        clear he
        go_wp2
        go_ret
        exact ⟨i, rfl, rfl, fun i' h j y hj hy => K.out j y (by omega) hy⟩
      · have q1 : (x.1 == d) = false := by simp [he]
        have he' := hid he
        clear he
        go_wp2
        go_roundw
        case rel =>
          refine ⟨i + 1, by omega, by simp, by trivial, hid fun j y hj hy => ?_⟩
          by_cases e : j = i
          · subst e
            rw [hx.out] at hy
            obtain rfl := Option.some.inj hy
            exact he'.out
          · exact K.out j y (by omega) hy
        case measure => simp [intOf]; omega

set_option maxHeartbeats 1000000 in
set_option maxRecDepth 100000 in
theorem ModelRight_calls (w : World) (a : Option Addr) (cap : Nat) (l : List GDoc) (R : RowG w a l) (hl : l.length < 9223372036854775808) :
    Calls Tryz.prog 40 #[.slice a l.length cap] w fun o w' => Tells w (FewGood l) o w' := by
  have HP := fun d => Place_calls w a cap l d R hl
  have R := hid R
  generalize hn : l.length = n at *
  have hn := hid hn
  go_enter Tryz.func40, Tryz.ntmps40
  go_wp2
  go_loopw [3] (fun c wr => ∃ i : Nat, i ≤ n ∧ c = .int .i64 i ∧ wr = w ∧ Hid (∀ k x, k < i → l[k]? = some x → 1 ≤ x.1 ∧ x.2.size ≤ 40 ∧ ∀ j y, j < k → l[j]? = some y → y.1 ≠ x.1)) (fun c _ => n - (intOf c).toNat)
  case atStart => exact ⟨0, by omega, rfl, rfl, hid fun j x h => by omega⟩
  case round =>
    obtain ⟨i, hin, rfl, rfl, K⟩ := hrel
    by_cases hil : i = n
    · subst hil
      go_wp2
      go_ret
      exact ⟨_, rfl, rfl, fun h => ⟨by have := hn.out; simp at h; omega, fun k x hx => K.out k x (by have := (List.getElem?_eq_some_iff.1 hx).1; have := hn.out; omega) hx⟩⟩
    · have hlt : i < n := by omega
      have hlt' : (i : Int) < (n : Nat) := by omega
      obtain ⟨x, hx⟩ : ∃ x, l[i]? = some x := ⟨l[i]'(by rw [hn.out]; exact hlt), List.getElem?_eq_getElem _⟩
      have R1 := R.out
      obtain ⟨g, off, rfl, _, z1, z2⟩ := R1 i x hx
      have wi : IntKind.i64.wrap ((i : Int) + 1) = (i : Int) + 1 := by rw [show (i : Int) + 1 = ((i + 1 : Nat) : Int) by omega]; exact i64_nat (by omega)
      clear R1
      have hx := hid hx
      by_cases h1 : x.1 < 1
      · clear HP
        go_wp2
        go_ret
        exact ⟨false, rfl, rfl, fun h => absurd h (by simp)⟩
      · by_cases h2 : (x.2.size : Int) > 40
        · clear HP
          go_wp2
          go_ret
          exact ⟨false, rfl, rfl, fun h => absurd h (by simp)⟩
        · have HP1 := HP x.1
          clear HP
          go_wp2_with fail
          refine HP1.mono ?_; rintro o w1 ⟨k, rfl, rfl, hk⟩
          have hk := hid hk
          by_cases hki : k = (i : Int)
          · have q1 : (k != (i : Int)) = false := by simp [hki]
            have q2 : (k == (i : Int)) = true := by simp [hki]
            have hki := hid hki
            go_wp2
            go_roundw
            case rel =>
              refine ⟨i + 1, by omega, by simp, by trivial, hid fun j y hj hy => ?_⟩
              by_cases e : j = i
              · subst e
                rw [hx.out] at hy
                obtain rfl := Option.some.inj hy
                exact ⟨by omega, by omega, fun j' y' hj' hy' => hk.out j hki.out j' y' hj' hy'⟩
              · exact K.out j y (by omega) hy
            case measure => simp [intOf]; omega
          · have q1 : (k != (i : Int)) = true := by simp [hki]
            have q2 : (k == (i : Int)) = false := by simp [hki]
            clear hki
            go_wp2
            go_ret
            exact ⟨false, rfl, rfl, fun h => absurd h (by simp)⟩

set_option maxHeartbeats 1000000 in
set_option maxRecDepth 100000 in
theorem Few_calls (w : World) (a : Option Addr) (cap : Nat) (l : List GDoc) (R : RowG w a l) (hl : l.length < 9223372036854775808) :
    Calls Tryz.prog 7 #[.slice a l.length cap] w fun o w' => Tells w (FewGood l ∧ dsum l l.length ≤ 60) o w' := by
  have HM := ModelRight_calls w a cap l R hl
  have R := hid R
  generalize hn : l.length = n at *
  have hn := hid hn
  go_enter Tryz.func7, Tryz.ntmps7
  go_wp2
  go_loopw [3, 7] (fun c3 c wr => ∃ i : Nat, i ≤ n ∧ c = .int .i64 i ∧ c3 = .int .i64 (wsum l i) ∧ wr = w) (fun _ c _ => n - (intOf c).toNat)
  case atStart => exact ⟨0, by omega, rfl, rfl, rfl⟩
  case round =>
    obtain ⟨i, hin, rfl, rfl, rfl⟩ := hrel
    by_cases hil : i = n
    · subst hil
      have hW := hid (wsum_eq (l := l))
      generalize hs : wsum l i = s at *
      have hs := hid hs
      by_cases h1 : (i : Int) ≤ 12
      · by_cases h2 : s ≤ 60
        · go_wp2_with fail
          refine HM.mono ?_; rintro o w1 ⟨b, rfl, rfl, hb⟩
          have hb := hid hb
          go_wp2
          go_ret
          refine ⟨b, rfl, rfl, fun h => ?_⟩
          have G := hb.out h
          have := (hW.out G i (by rw [hn.out]; omega)).1
          rw [hs.out] at this
          exact ⟨G, by omega⟩
        · clear HM
          go_wp2
          go_ret
          exact ⟨false, rfl, rfl, fun h => absurd h (by simp)⟩
      · clear HM
        go_wp2
        go_ret
        exact ⟨false, rfl, rfl, fun h => absurd h (by simp)⟩
    · have hlt : i < n := by omega
      have hlt' : (i : Int) < (n : Nat) := by omega
      obtain ⟨x, hx⟩ : ∃ x, l[i]? = some x := ⟨l[i]'(by rw [hn.out]; exact hlt), List.getElem?_eq_getElem _⟩
      have R1 := R.out
      obtain ⟨g, off, rfl, _, z1, z2⟩ := R1 i x hx
      have wi : IntKind.i64.wrap ((i : Int) + 1) = (i : Int) + 1 := by rw [show (i : Int) + 1 = ((i + 1 : Nat) : Int) by omega]; exact i64_nat (by omega)
      have ew := hid (show IntKind.i64.wrap (wsum l i + (x.2.size : Int)) = wsum l (i + 1) by
        simp only [wsum]; rw [List.getD_eq_getElem?_getD, hx]; rfl)
      clear R1 HM hx
      generalize wsum l i = s at *
      go_wp2
      go_roundw
      case rel => exact ⟨i + 1, by omega, by simp, congrArg (Value.int .i64) ((Go.IntWalk.i64_left _).symm.trans ew.out), by trivial⟩
      case measure => simp [intOf]; omega
end Go.Proofs.YtngfalbabgpnnaaGreat

namespace Go.Proofs.YtngfalbabgpnnaaGreat
open Go.RowKit St

theorem refs_pos {S : St} (W : S.WF) {g k : Int} (u : S.used g = true) (h : 0 < kc (S.node g) k) : 0 < S.refs k := by
  obtain ⟨i, hi, rfl⟩ := used_range W u
  have := le_sumTo (g := fun i => if S.used ((i : Int) + 1) then kc (S.node ((i : Int) + 1)) k else 0) hi
  simp only [u, if_true] at this
  unfold St.refs
  omega

/-- The used ones, as a list. -/
def usedL (S : St) : List Int := ((List.range S.n).filter fun (i : Nat) => S.used ((i : Int) + 1)).map fun (i : Nat) => (i : Int) + 1
theorem mem_usedL {S : St} (W : S.WF) {x : Int} : x ∈ usedL S ↔ S.used x = true := by
  unfold usedL
  simp only [List.mem_map, List.mem_filter, List.mem_range]
  constructor
  · rintro ⟨i, ⟨_, h⟩, rfl⟩; exact h
  · intro h
    obtain ⟨i, hi, rfl⟩ := used_range W h
    exact ⟨i, ⟨hi, h⟩, rfl⟩
theorem usedL_length (S : St) : (usedL S).length = S.usedN := by
  have e : ∀ k, sumTo (fun i => if S.used ((i : Int) + 1) then 1 else 0) k = (((List.range k).filter fun (i : Nat) => S.used ((i : Int) + 1)).map fun (i : Nat) => (i : Int) + 1).length := by
    intro k
    induction k with
    | zero => rfl
    | succ k ih =>
      simp only [sumTo, ih, List.length_map, List.range_succ, List.filter_append, List.length_append, List.filter_cons, List.filter_nil]
      split <;> simp
  unfold usedL St.usedN
  rw [e]

/-- Of what is held once no node has the held one as a kid. -/
theorem no_parent {S : St} {h : Int} (I : S.Inv (more h noneHeld)) (hw : S.wait = []) (hl : S.used h = true) : ∀ y, S.used y = true → kc (S.node y) h = 0 := by
  obtain ⟨rk, hr⟩ := I.rank
  have h0 : h ≠ 0 := by have := used_range I.wf hl; omega
  have all := I.all_used hw (L := (usedL S).filter fun x => decide (rk x ≤ rk h)) (fun x x0 p => by
    simp only [more, noneHeld] at p
    have : x = h := by
      by_cases e : x = h
      · exact e
      · rw [if_neg e] at p; omega
    subst this
    exact List.mem_filter.2 ⟨(mem_usedL I.wf).2 hl, by simp⟩) (fun g hg k k0 hk => by
      obtain ⟨h1, h2⟩ := List.mem_filter.1 hg
      have u := (mem_usedL I.wf).1 h1
      have := hr g u k k0 hk
      simp only [decide_eq_true_eq] at h2
      exact List.mem_filter.2 ⟨(mem_usedL I.wf).2 (I.kids g u k k0 hk), by simp only [decide_eq_true_eq]; omega⟩)
  intro y u
  have := (List.mem_filter.1 (all y u)).2
  simp only [decide_eq_true_eq] at this
  by_cases p : 0 < kc (S.node y) h
  · have := hr y u h h0 p
    omega
  · omega

/-- The first one dropped, and the work done: as many are used as were. -/
theorem shares {S : St} {h r : Int} (I : S.Inv (more h noneHeld)) (hw : S.wait = []) (hl : S.live h) (hr : S.used r = false) (hr1 : 1 ≤ r) (I2 : (S.put r (S.node h)).Inv (more r (more h noneHeld))) (u2 : (S.put r (S.node h)).usedN = S.usedN + 1) :
    ∃ m S5, ((S.put r (S.node h)).drop h).work 99999 1073741824 0 = some (m, S5) ∧ S5.Inv (more r noneHeld) ∧ S5.wait = [] ∧ S5.n = S.n ∧ S5.usedN = S.usedN ∧ Shr ((S.put r (S.node h)).drop h) S5 := by
  have hne : h ≠ r := by rintro rfl; rw [hl.1] at hr; cases hr
  have h0 : h ≠ 0 := by have := (live.ne I.wf hl).1; omega
  have np := no_parent I hw hl.1
  have nph := np h hl.1
  generalize hx : S.node h = x at *
  generalize hS2 : S.put r x = S2 at *
  have n2 : S2.n = S.n := by subst hS2; exact put_n _ _ _
  have nd2 : ∀ y, S2.node y = if y = r then x else S.node y := fun y => by subst hS2; exact put_node _ _ _ _
  have us2 : ∀ y, S2.used y = if y = r then true else S.used y := fun y => by subst hS2; exact put_used _ _ _ _
  have I4 : (S2.drop h).Inv (more r noneHeld) := by rw [more_comm] at I2; exact I2.drop
  have e4u : (S2.drop h).used = S2.used := drop_used _ _
  have e4n : (S2.drop h).node = S2.node := drop_node _ _
  have e4N : (S2.drop h).usedN = S.usedN + 1 := by rw [BSt.usedDrop]; exact u2
  have e4m : (S2.drop h).n = S.n := by rw [drop_n]; exact n2
  generalize S2.drop h = S4 at *
  have uh : S4.used h = true := by rw [e4u, us2, if_neg hne]; exact hl.1
  have rh : S4.refs h = 0 := by
    by_cases p : 0 < S4.refs h
    · obtain ⟨y, uy, ky⟩ := refs_of_pos p
      rw [e4n, nd2] at ky
      rw [e4u, us2] at uy
      by_cases e : y = r
      · rw [if_pos e] at ky; omega
      · rw [if_neg e] at ky uy; have := np y uy; omega
    · omega
  have ch : S4.cnt h = 0 := by
    rw [I4.cnt h h0 uh, rh]
    simp [more, noneHeld, hne]
  have hwt : S4.wait ≠ [] := fun q => by have := I4.wait h uh ch; rw [q] at this; simp at this
  have sl : slack (more r noneHeld) 4 := fun x => by simp only [more, noneHeld]; unfold big; split <;> omega
  have hle := S4.usedN_le
  have hnn := I4.wf.nle
  obtain ⟨I5, eu, sh1⟩ := Inv.work1 I4 sl hwt
  obtain ⟨m, S5, w5, I5', hw5, sh5, le5⟩ := Inv.work sl 99998 S4.work1 1 I5 (by omega) (by omega) (by omega)
  have sh := sh1.trans sh5
  refine ⟨m, S5, ?_, I5', hw5, sh.n.trans e4m, ?_, sh⟩
  · unfold St.work
    rw [if_neg (by omega), if_neg hwt, Inv.wrap_id (x := 0 + 1) (by omega) (by omega)]
    exact w5
  · have r0 : r ≠ 0 := by omega
    have ur : S5.used r = true := I5'.held r r0 (by rw [more_self]; omega)
    have nr : S5.node r = x := by rw [(sh.used r ur).2, e4n, nd2, if_pos rfl]
    have mr : r ∈ usedL S5 := (mem_usedL I5'.wf).2 ur
    have low : S.usedN ≤ (h :: (usedL S5).erase r).length := by
      refine usedN_le_length (I.all_used hw (fun y y0 p => ?_) fun y hy k k0 hk => ?_)
      · simp only [more, noneHeld] at p
        by_cases e : y = h
        · rw [e]; exact List.mem_cons_self ..
        · rw [if_neg e] at p; omega
      · have fin : S5.used k = true → k ≠ r → k ∈ h :: (usedL S5).erase r := fun u e => List.mem_cons_of_mem _ ((List.mem_erase_of_ne e).2 ((mem_usedL I5'.wf).2 u))
        rcases List.mem_cons.1 hy with rfl | hy
        · rw [hx] at hk
          refine fin (I5'.kids r ur k k0 (by rw [nr]; exact hk)) ?_
          rintro rfl
          have := I.kids y hl.1 k k0 (by rw [hx]; exact hk)
          rw [hr] at this; cases this
        · have u5 := (mem_usedL I5'.wf).1 (List.mem_of_mem_erase hy)
          by_cases uy : S.used y = true
          · have yr : y ≠ r := by rintro rfl; rw [hr] at uy; cases uy
            have ny : S5.node y = S.node y := by rw [(sh.used y u5).2, e4n, nd2, if_neg yr]
            refine fin (I5'.kids y u5 k k0 (by rw [ny]; exact hk)) ?_
            rintro rfl
            have := I.kids y uy k k0 hk
            rw [hr] at this; cases this
          · have : S.used y = false := by cases q : S.used y <;> simp_all
            rw [(I.wf.free y this).1, kc_zero k k0] at hk
            omega
    rw [List.length_cons, List.length_erase_of_mem mr, usedL_length] at low
    have pos : 0 < S5.usedN := by rw [← usedL_length]; exact List.length_pos_of_mem mr
    omega
end Go.Proofs.YtngfalbabgpnnaaGreat

namespace Go.Proofs.YtngfalbabgpnnaaGreat
open Go.RowKit St

/-- The arena's blocks lie at B or behind it. -/
def Up (p B : Nat) (w : World) : Prop := ∀ b, Foot w p b → B ≤ b
theorem Up.fr {p B : Nat} {w w' : World} (U : Up p B w) (F : Fr [] p w w') (h : B ≤ w.heap.size) : Up p B w' := fun b hb => by
  rcases F.foot b hb with q | q
  · exact U b q
  · omega
theorem Up.below {p B : Nat} {w w' : World} {S : St} (U : Up p B w) (H : Ar w p S) (hb : Below w.heap.size w w') : Up p B w' := fun b h => U b ((Foot.congr (hb.block p H.lt)).1 h)
theorem fr_below {p B : Nat} {w w' : World} (U : Up p B w) (F : Fr [] p w w') (h : B ≤ w.heap.size) : Below B w w' := F.below h U (by simp)
theorem Up.loc {p B b : Nat} {w : World} (U : Up p B w) (h : b < B) (h2 : B ≤ w.heap.size) : Loc p w b := ⟨by omega, fun q => by have := U b q; omega⟩
theorem rowv_fr {p : Nat} {w w' : World} {v : Value} {size n : Nat} {xs : List Value} (R : RowV w v size n xs) (hl : ∀ g off cap, v = .slice (some ⟨g, off, none⟩) n cap → Loc p w g) (F : Fr [] p w w') : RowV w' v size n xs := by
  obtain ⟨h1, h2 | ⟨g, off, cap, e, hg, hc⟩⟩ := R
  · exact ⟨h1, Or.inl h2⟩
  · obtain ⟨l, q⟩ := F.loc (hl g off cap e) (by simp)
    exact ⟨h1, Or.inr ⟨g, off, cap, e, l.1, fun j x h => (World.cell?_of_block (a := ⟨g, off + j, none⟩) q).trans (hc j x h)⟩⟩

def abT : ByteArray := { data := #[97, 98] }
theorem ab_syms : symsOf (textsOf [(1, abT)]) = [99, 0, 98] := by decide
theorem ab_rows : (allRows (textsOf [(1, abT)])).length = 3 := by decide

set_option maxHeartbeats 4000000 in
set_option maxRecDepth 100000 in
theorem alive12_calls (w : World) : Calls Tryz.prog 8 #[] w fun o w' => o = .returned (.bool true) ∧ Below w.heap.size w w' := by
  have HN := New_calls w 2000 (by omega) (by omega)
  have hr3 : (rsort (textsOf [(1, abT)])).length = 3 := by rw [rsort_length]; exact ab_rows
  have hb : (2000 : Int) = ((2000 : Nat) : Int) := rfl
  have HN : Calls Tryz.prog 9 #[.int .i64 2000] w (SomeArena w 2000) := HN
  clear hb
  go_enter Tryz.func8, Tryz.ntmps8
  go_wp2_with fail
  refine HN.mono ?_; rintro o w1 ⟨p, rfl, H1, hb1, hf1⟩
  clear HN
  have HB := fun W (hbW : Below w1.heap.size w1 W) (g : Nat) (hg1 : w1.heap.size ≤ g) (hg2 : g < W.heap.size) (c0 : W.cell? ⟨g, 0, none⟩ = some (.int .i64 1)) (c1 : W.cell? ⟨g, 1, none⟩ = some (.string abT)) =>
    build_calls W p (St.new 2000) (.slice (some ⟨g, 0, none⟩) 1 1) [(1, abT)] 2 (H1.below hbW) (BSt.new (by omega) (by omega)) rfl
      ⟨rfl, Or.inr ⟨g, 0, 1, rfl, hg2, fun j x h => by
        match j, h with
        | 0, h => simp [docV] at h; subst h; exact c0
        | 1, h => simp [docV] at h; subst h; exact c1⟩⟩
      (fun g' off cap e => by simp at e; obtain ⟨⟨rfl, _⟩, _⟩ := e; exact H1.newer hbW hg1 hg2)
      (by omega) (by omega) (by decide) (by simp) (by simp; decide) (by simp) (by simp) (by rw [ab_rows]; omega) (by rw [hr3]; show _ ≤ 2000; omega) (by show 2000 ≤ 6000; omega)
  have HB := hid HB
  have hr3 := hid hr3
  go_wp2_with fail
  generalize hW : World.alloc _ _ = W
  have bW : Below w1.heap.size w1 W := by subst hW; exact (by repeat (first | with_reducible exact Below.refl _ _ | with_reducible assumption | with_reducible refine bel_drewN ?_ | with_reducible refine bel_drew ?_ | with_reducible refine bel_alloc ?_ _ | with_reducible refine bel_set ?_ _ ?_ | with_reducible refine bel_trans ?_ (by with_reducible assumption) | ((try dsimp only); omega)))
  have sW : W.heap.size = w1.heap.size + 1 := by subst hW; simp
  have HB1 := HB.out W bW w1.heap.size (Nat.le_refl _) (by omega) (by subst hW; go_simp) (by subst hW; unfold abT; go_simp)
  have HW := H1.below bW
  have UW : Up p w.heap.size W := Up.below hf1 H1 bW
  have BW := bel_trans hb1 bW
  have sBW := BW.size
  clear HB hW hf1
  refine HB1.mono ?_; rintro o w2 ⟨h, S', rfl, H2, F2, I2, V2, hwt, hn2⟩
  clear HB1
  have B2 : Below w.heap.size w w2 := BW.trans (fr_below UW F2 sBW)
  rw [ab_syms] at V2
  have h0 : h ≠ 0 := by
    obtain ⟨_, _, _, _, hl, _⟩ := V2
    have := (live.ne H2.2 hl).1
    omega
  have q0 : (h != 0) = true := by simp [h0]
  have q1 : (h == 0) = false := by simp [h0]
  have HX := vNext_calls w2 p S' h _ _ _ _ 0 99 H2 V2 (by simp) (by simp) rfl (by omega)
  have e2 : (lessN 99 [99, 0, 98] + ([99, 0, 98].take 0).count 99) = 2 := by decide
  rw [e2] at HX
  have HR := fun w' (hb : Below w2.heap.size w2 w') => vRows_calls w' p S' h _ _ _ _ (H2.below hb) V2 (by simp)
  have HD := fun w' (hb : Below w2.heap.size w2 w') => vDocs_calls w' p S' h _ _ _ _ (H2.below hb) V2 (by simp [tableOf])
  have HZ := fun w' (hb : Below w2.heap.size w2 w') => vRows_zero w' p S' (H2.below hb)
  have HC := fun w' (hb : Below w2.heap.size w2 w') (g : Nat) (hg2 : g < w'.heap.size) (c0 : w'.cell? ⟨g, 0, none⟩ = some (.int .i64 1)) (c1 : w'.cell? ⟨g, 1, none⟩ = some (.string abT)) =>
    vCheck_calls w' p S' h _ _ _ _ (.slice (some ⟨g, 0, none⟩) 1 1) [(1, abT)] 2 (H2.below hb) V2
      ⟨rfl, Or.inr ⟨g, 0, 1, rfl, hg2, fun j x h => by
        match j, h with
        | 0, h => simp [docV] at h; subst h; exact c0
        | 1, h => simp [docV] at h; subst h; exact c1⟩⟩
      (by omega) (by omega) (by simp) (by simp) (by simp; decide) (by simp) (by simp) (by decide) (by decide) (by decide) (by simp) (by rw [ab_rows]; omega)
  rw [ab_syms] at HC
  simp only [beq_self_eq_true, Bool.and_true] at HC
  have HC := hid HC
  have HX := hid HX
  have B2 := hid B2
  clear V2 I2 F2 HW UW BW bW h0
  go_wp2_with fail
  refine HX.out.mono ?_; rintro o w3 ⟨rfl, hb3⟩
  clear HX
  go_wp2_with fail
  refine (HR _ (by repeat (first | with_reducible exact Below.refl _ _ | with_reducible assumption | with_reducible refine bel_drewN ?_ | with_reducible refine bel_drew ?_ | with_reducible refine bel_alloc ?_ _ | with_reducible refine bel_set ?_ _ ?_ | with_reducible refine bel_trans ?_ (by with_reducible assumption) | ((try dsimp only); omega)))).mono ?_; rintro o w4 ⟨rfl, hb4⟩
  have hb34 := bel_trans hb3 hb4
  clear HR
  go_wp2_with fail
  refine (HD _ (by repeat (first | with_reducible exact Below.refl _ _ | with_reducible assumption | with_reducible refine bel_drewN ?_ | with_reducible refine bel_drew ?_ | with_reducible refine bel_alloc ?_ _ | with_reducible refine bel_set ?_ _ ?_ | with_reducible refine bel_trans ?_ (by with_reducible assumption) | ((try dsimp only); omega)))).mono ?_; rintro o w5 ⟨rfl, hb5⟩
  have hb35 := bel_trans hb34 hb5
  clear HD
  go_wp2_with fail
  generalize hW : World.alloc _ _ = W5
  have b5 : Below w5.heap.size w5 W5 := by subst hW; exact (by repeat (first | with_reducible exact Below.refl _ _ | with_reducible assumption | with_reducible refine bel_drewN ?_ | with_reducible refine bel_drew ?_ | with_reducible refine bel_alloc ?_ _ | with_reducible refine bel_set ?_ _ ?_ | with_reducible refine bel_trans ?_ (by with_reducible assumption) | ((try dsimp only); omega)))
  have HC1 := HC.out W5 (bel_trans hb35 b5) w5.heap.size (by subst hW; simp) (by subst hW; go_simp) (by subst hW; unfold abT; go_simp)
  clear hW HC
  refine HC1.mono ?_; rintro o w6 ⟨rfl, hb6⟩
  have hb26 := bel_trans (bel_trans hb35 b5) hb6
  clear HC1
  go_wp2_with fail
  refine (HZ _ (by repeat (first | with_reducible exact Below.refl _ _ | with_reducible assumption | with_reducible refine bel_drewN ?_ | with_reducible refine bel_drew ?_ | with_reducible refine bel_alloc ?_ _ | with_reducible refine bel_set ?_ _ ?_ | with_reducible refine bel_trans ?_ (by with_reducible assumption) | ((try dsimp only); omega)))).mono ?_; rintro o w7 ⟨rfl, hb7⟩
  have hb27 := bel_trans hb26 hb7
  have B2' := B2.out
  clear B2
  go_wp2
  go_ret
  exact ⟨rfl, B2'.trans (hb27.mono B2'.size)⟩
end Go.Proofs.YtngfalbabgpnnaaGreat

namespace Go.Proofs.YtngfalbabgpnnaaGreat
open Go.RowKit St

def docsOf (l : List GDoc) : List Doc := l.map fun x => (x.1.toNat, x.2)
theorem docs_len (l : List GDoc) : (docsOf l).length = l.length := by simp [docsOf]
theorem FewGood.mem {l : List GDoc} (h : FewGood l) {x : GDoc} (hx : x ∈ l) : 1 ≤ x.1 ∧ x.2.size ≤ 40 := by
  obtain ⟨i, hi, rfl⟩ := List.mem_iff_getElem.1 hx
  have := h.doc i _ (List.getElem?_eq_getElem hi)
  exact ⟨this.1, this.2.1⟩
theorem docs_flat {l : List GDoc} (h : FewGood l) : l.flatMap gdocV = (docsOf l).flatMap docV := by
  have : ∀ x ∈ l, gdocV x = docV (x.1.toNat, x.2) := fun x hx => by
    have := (h.mem hx).1
    simp only [gdocV, docV]
    rw [Int.toNat_of_nonneg (by omega)]
  unfold docsOf
  rw [List.flatMap_map]
  simp only [List.flatMap_def]
  rw [List.map_congr_left this]
theorem docs_sizes {l : List GDoc} (h : FewGood l) : ∀ x ∈ docsOf l, x.2.size ≤ 40 := fun x hx => by
  obtain ⟨y, hy, rfl⟩ := List.mem_map.1 hx
  exact (h.mem hy).2
theorem docs_ids {l : List GDoc} (h : FewGood l) (hw : ∀ x ∈ l, x.1 < 9223372036854775808) : ∀ x ∈ docsOf l, 1 ≤ x.1 ∧ x.1 < 9223372036854775808 := fun x hx => by
  obtain ⟨y, hy, rfl⟩ := List.mem_map.1 hx
  have := (h.mem hy).1
  have := hw y hy
  simp only
  omega
theorem docs_nodup {l : List GDoc} (h : FewGood l) : ((docsOf l).map (·.1)).Nodup := by
  unfold docsOf List.Nodup
  rw [List.map_map, List.pairwise_iff_getElem]
  intro i j hi hj hij
  simp only [List.length_map] at hi hj
  have a := h.doc j _ (List.getElem?_eq_getElem hj)
  have b := h.doc i _ (List.getElem?_eq_getElem hi)
  have c := a.2.2 i _ hij (List.getElem?_eq_getElem hi)
  simp only [List.getElem_map, Function.comp]
  omega
theorem docs_rows (l : List GDoc) : (allRows (textsOf (docsOf l))).length = dsum l l.length + l.length := by
  have : ∀ i, i ≤ l.length → (rowsFrom 0 ((textsOf (docsOf l)).take i)).length = dsum l i + i := by
    intro i
    induction i with
    | zero => intro _; rfl
    | succ i ih =>
      intro hi
      have e : (textsOf (docsOf l))[i]? = some (l[i]'(by omega)).2 := by simp [textsOf, docsOf, List.getElem?_eq_getElem (show i < l.length by omega)]
      rw [rowsFrom_take e, List.length_append, ih (by omega), List.length_map, List.length_range]
      simp only [dsum, List.getD_eq_getElem?_getD, List.getElem?_eq_getElem (show i < l.length by omega), Option.getD_some]
      omega
  have h := this l.length (Nat.le_refl _)
  rw [List.take_of_length_le (by simp [textsOf, docsOf])] at h
  exact h

theorem dropE_live {S : St} {h : Int} (hl : S.live h) : S.dropE h = 0 := by unfold St.dropE; rw [if_neg (by have := hl.2; omega)]
theorem parts_live {S : St} {f : Int → Nat} (I : S.Inv f) {h a b c d : Int} (hl : S.live h) (e : S.node h = rootNd a b c d) : ∀ k, k ≠ 0 → 0 < kc (rootNd a b c d) k → S.live k := fun k k0 hk => I.kid_pos hl.1 k0 (by rw [e]; exact hk)

set_option maxHeartbeats 8000000 in
set_option maxRecDepth 100000 in
theorem vShares_calls (w : World) (a : Option Addr) (cap : Nat) (l : List GDoc) (r : Int) (R : RowG w a l) (hl : l.length < 9223372036854775808) (hids : ∀ x ∈ l, x.1 < 9223372036854775808) :
    Calls Tryz.prog 3 #[.slice a l.length cap, .int .i64 r] w fun o w' => o = .returned (.bool true) ∧ Below w.heap.size w w' := by
  have HF := Few_calls w a cap l R hl
  have HA := alive12_calls w
  have R := hid R
  have hids := hid hids
  generalize hn : l.length = n at *
  have hn := hid hn
  go_enter Tryz.func3, Tryz.ntmps3
  go_wp2_with fail
  refine HF.mono ?_; rintro o w0 ⟨b, rfl, rfl, hb⟩
  clear HF
  have hb := hid hb
  cases b with
  | false =>
    go_wp2_with fail
    refine HA.mono ?_; rintro o w1 ⟨rfl, hb1⟩
    go_wp2
    go_ret
    exact ⟨rfl, hb1⟩
  | true =>
  by_cases hn0 : n = 0
  · subst hn0
    go_wp2_with fail
    refine HA.mono ?_; rintro o w1 ⟨rfl, hb1⟩
    go_wp2
    go_ret
    exact ⟨rfl, hb1⟩
  have hn1 : ((n : Int) == 0) = false := by simp; omega
  by_cases hr1 : r < 1
  · go_wp2_with fail
    refine HA.mono ?_; rintro o w1 ⟨rfl, hb1⟩
    go_wp2
    go_ret
    exact ⟨rfl, hb1⟩
  by_cases hr2 : r > 16
  · go_wp2_with fail
    refine HA.mono ?_; rintro o w1 ⟨rfl, hb1⟩
    go_wp2
    go_ret
    exact ⟨rfl, hb1⟩
  go_wp2_with fail
  refine HA.mono ?_; rintro o w1 ⟨rfl, hb1⟩
  clear HA
  have HN : Calls Tryz.prog 9 #[.int .i64 5000] w1 (SomeArena w1 5000) := New_calls w1 5000 (by omega) (by omega)
  go_wp2_with fail
  refine HN.mono ?_; rintro o w2 ⟨p, rfl, H2, hb2, hf2⟩
  clear HN
  obtain ⟨G, hd60⟩ := hb.out (by trivial)
  obtain ⟨rate, rfl⟩ : ∃ k : Nat, r = k := ⟨r.toNat, by omega⟩
  have UP : Up p w1.heap.size w2 := hf2
  have s12 := hb2.size
  have s01 := hb1.size
  have hdl : (docsOf l).length = n := by rw [docs_len]; exact hn.out
  have hsz := docs_sizes G
  have hid2 := docs_ids G hids.out
  have hno := docs_nodup G
  have hrw := docs_rows l
  have hrs : (rsort (textsOf (docsOf l))).length = (allRows (textsOf (docsOf l))).length := rsort_length _
  have hl10 := G.len
  have hdn : docsOf l ≠ [] := fun q => by rw [q] at hdl; simp at hdl; omega
  have hlc : ∀ w' : World, ∀ g off c, (Value.slice a n cap) = .slice (some ⟨g, off, none⟩) (docsOf l).length c → g < w0.heap.size := fun _ g off c e => by
    have R1 := R.out
    obtain ⟨g', off', e', hg', _⟩ := R1 0 (l[0]'(by rw [hn.out]; omega)) (List.getElem?_eq_getElem _)
    rw [e'] at e
    simp only [Value.slice.injEq, Option.some.injEq, Addr.mk.injEq] at e
    omega
  have R2 : RowV w0 (.slice a n cap) 2 (docsOf l).length ((docsOf l).flatMap docV) := by rw [hdl, ← docs_flat G, ← hn.out]; exact R.out.rowv (fun q => by have := hn.out; rw [q] at this; simp at this; omega) cap
  generalize docsOf l = docs at *
  rw [hn.out] at hl10 hrw
  have HB := build_calls w2 p (St.new 5000) (.slice a n cap) docs rate H2 (BSt.new (by omega) (by omega)) rfl ((R2.below hb1).below hb2) (fun g off c e => UP.loc (by have := hlc w0 g off c e; omega) s12) (by omega) (by omega) (by omega) hdn hsz hid2 hno (by omega) (by show _ ≤ 5000; omega) (by show 5000 ≤ 6000; omega)
  have R2 := hid R2
  have hsz := hid hsz
  have hid2 := hid hid2
  have hno := hid hno
  have hdn := hid hdn
  have hlc := hid hlc
  clear hb R hids
  go_wp2_with fail
  refine HB.mono ?_; rintro o w3 ⟨h, S1, rfl, H3, F3, I1, V1, hw1, hn1'⟩
  clear HB
  have hn1'' : S1.n = 5000 := hn1'
  obtain ⟨va, vb, vc, vd, hlv, hnd, p1, p2, p3, p4⟩ := V1
  have hub : S1.usedN ≤ 31 * 70 + 100 := by
    have V : S1.vr h _ _ _ _ := ⟨va, vb, vc, vd, hlv, hnd, p1, p2, p3, p4⟩
    refine Nat.le_trans (I1.usedN_cov hw1 (cov_more (cov_vr V) cov_none)) ?_
    have m1 : (marksOf docs rate).length = (rsort (textsOf docs)).length := by unfold marksOf; rw [List.length_map]
    have m2 : (spotsOf docs rate).length ≤ (rsort (textsOf docs)).length := by
      unfold spotsOf spotsTo
      rw [List.length_map]
      exact List.length_filter_le _ _
    have m3 : (symsOf (textsOf docs)).length = (rsort (textsOf docs)).length := by simp [symsOf]
    have m4 : (tableOf docs).length = docs.length := by simp [tableOf]
    omega
  have hva : va ≠ 0 := by
    intro q
    have m3 : (symsOf (textsOf docs)).length = (rsort (textsOf docs)).length := by simp [symsOf]
    rcases p1 with ⟨_, e⟩ | ⟨e, _⟩
    · rw [e] at m3; simp at m3; omega
    · subst q; have := (live.ne I1.wf e).1; omega
  have h0 : h ≠ 0 := by have := (live.ne I1.wf hlv).1; omega
  have HO := vOf_root w3 p S1 h va vb vc vd H3 hlv hnd
  have HM0 := fun w' (hH : Ar w' p S1) => vMake_walk w' p S1 va vb vc vd hH hva
  have HU := fun w' (hH : Ar w' p S1) => Used_calls w' p S1 hH
  rw [I1.busy] at HU
  obtain ⟨z, em, hz1, hzu, I2, u2⟩ : ∃ z, S1.make (rootNd va vb vc vd) = (z, 0, S1.put z (rootNd va vb vc vd)) ∧ 1 ≤ z ∧ S1.used z = false ∧ (S1.put z (rootNd va vb vc vd)).Inv (more z (more h noneHeld)) ∧ (S1.put z (rootNd va vb vc vd)).usedN = S1.usedN + 1 := by
    rcases I1.make (x := rootNd va vb vc vd) (by simp [rootNd]) (parts_live I1 hlv hnd) with ⟨_, q⟩ | ⟨z, a1, a2, a3, a4, _, a5⟩
    · omega
    · exact ⟨z, a1, a2, a3, a4, a5⟩
  rw [em] at HM0
  have SH := shares (r := z) I1 hw1 hlv hzu hz1 (by rw [hnd]; exact I2) (by rw [hnd]; exact u2)
  rw [hnd] at SH
  have hl2 : (S1.put z (rootNd va vb vc vd)).live h := I2.held_pos h0 (by have := more_le z h (more h noneHeld); rw [more_self] at this; omega)
  have hpn : ∀ y, (S1.put z (rootNd va vb vc vd)).node y = if y = z then rootNd va vb vc vd else S1.node y := fun y => put_node _ _ _ _
  have hpm := put_n S1 z (rootNd va vb vc vd)
  have hhz : h ≠ z := by rintro rfl; rw [hlv.1] at hzu; cases hzu
  generalize S1.put z (rootNd va vb vc vd) = S2 at *
  have HU2 := fun w' (hH : Ar w' p S2) => Used_calls w' p S2 hH
  rw [I2.busy, u2] at HU2
  obtain ⟨mm, S5, w5k, I5, hw5, hn5, hu5, sh5⟩ := SH
  have z0 : z ≠ 0 := by omega
  have hlz : S5.live z := I5.held_pos z0 (by rw [more_self]; omega)
  have hnz : S5.node z = rootNd va vb vc vd := by rw [(sh5.used z hlz.1).2, drop_node, hpn, if_pos rfl]
  have kp : Keeps S1 S5 := fun y u1 u5 => by
    have : y ≠ z := by rintro rfl; rw [u1] at hzu; cases hzu
    rw [(sh5.used y u5).2, drop_node, hpn, if_neg this]
  have pl := parts_live I5 hlz hnz
  have V5 : S5.vr z (symsOf (textsOf docs)) (marksOf docs rate) (spotsOf docs rate) (tableOf docs) :=
    ⟨va, vb, vc, vd, hlz, hnz, wv_kp kp I1 I5 (fun q => pl va q (kc_pos.2 (by simp [rootNd]))) p1, br_kp kp I1 I5 (fun q => pl vb q (kc_pos.2 (by simp [rootNd]))) p2, lr_kp kp I1 I5 (fun q => pl vc q (kc_pos.2 (by simp [rootNd]))) p3, lr_kp kp I1 I5 (fun q => pl vd q (kc_pos.2 (by simp [rootNd]))) p4⟩
  have HU5 := fun w' (hH : Ar w' p S5) => Used_calls w' p S5 hH
  rw [I5.busy, hu5] at HU5
  have V5 := hid V5
  have I5 := hid I5
  have I2 := hid I2
  have hdE := dropE_live hl2
  have w5k := hid w5k
  clear kp pl hlz hnz sh5 hn5 hu5 u2 hpn hpm em I1 hnd p1 p2 p3 p4 hl2 hw5 hlv hw1 hn1' hn1'' hzu
  generalize hUU : S1.usedN = U at *
  have wU : IntKind.i64.wrap ((U : Int) + 1) = (U : Int) + 1 := by rw [show (U : Int) + 1 = ((U + 1 : Nat) : Int) by omega]; exact i64_nat (by omega)
  rw [Int.natCast_add] at HU2
  go_wp2_with fail
  refine HO.mono ?_; rintro o w4 ⟨rfl, hb4⟩
  clear HO
  go_wp2_with fail
  generalize hW : World.alloc _ _ = W5
  have b45 : Below w4.heap.size w4 W5 := by subst hW; exact (by repeat (first | with_reducible exact Below.refl _ _ | with_reducible assumption | with_reducible refine bel_drewN ?_ | with_reducible refine bel_drew ?_ | with_reducible refine bel_alloc ?_ _ | with_reducible refine bel_set ?_ _ ?_ | with_reducible refine bel_trans ?_ (by with_reducible assumption) | ((try dsimp only); omega)))
  have y0 : W5.cell? ⟨w4.heap.size, 0, none⟩ = some (.int .i64 va) := by subst hW; go_simp
  have y1 : W5.cell? ⟨w4.heap.size, 1, none⟩ = some (.int .i64 vb) := by subst hW; go_simp
  have y2 : W5.cell? ⟨w4.heap.size, 2, none⟩ = some (.int .i64 vc) := by subst hW; go_simp
  have y3 : W5.cell? ⟨w4.heap.size, 3, none⟩ = some (.int .i64 vd) := by subst hW; go_simp
  have H5 := (H3.below hb4).below b45
  have F5 : Fr [] p w2 W5 := F3.trans (Fr.of_below H3 (bel_trans hb4 b45))
  clear hW b45 hb4 H3 F3
  refine (HU _ H5).mono ?_; rintro o w6 ⟨rfl, rfl⟩
  have HM := HM0 _ H5
  clear HU HM0
  go_wp2_with fail
  refine HM.mono ?_; rintro o w6 ⟨rfl, H6, F6⟩
  clear HM y0 y1 y2 y3
  go_wp2_with fail
  refine (HU2 _ H6).mono ?_; rintro o w7 ⟨rfl, rfl⟩
  clear HU2
  go_wp2_with fail
  generalize hW : World.alloc _ _ = W7
  have b67 : Below w6.heap.size w6 W7 := by subst hW; exact (by repeat (first | with_reducible exact Below.refl _ _ | with_reducible assumption | with_reducible refine bel_drewN ?_ | with_reducible refine bel_drew ?_ | with_reducible refine bel_alloc ?_ _ | with_reducible refine bel_set ?_ _ ?_ | with_reducible refine bel_trans ?_ (by with_reducible assumption) | ((try dsimp only); omega)))
  have y0 : W7.cell? ⟨w6.heap.size, 0, none⟩ = some (.int .i64 z) := by subst hW; go_simp
  have y1 : W7.cell? ⟨w6.heap.size, 1, none⟩ = some (.int .i64 h) := by subst hW; go_simp
  have s67 : w6.heap.size < W7.heap.size := by subst hW; simp
  clear hW
  have H7 := H6.below b67
  have HCt := Counted_calls W7 p S2 (more z (more h noneHeld)) (.slice (some ⟨w6.heap.size, 0, none⟩) 2 2) [z, h] H7 I2.out (fun x hx => by
      simp only [more, noneHeld, List.count_cons, List.count_nil, beq_iff_eq]
      by_cases e1 : x = z
      · subst e1; simp [hhz, Ne.symm hhz]
      · by_cases e2 : x = h
        · subst e2; simp [e1, Ne.symm e1]
        · simp [e1, e2, Ne.symm e1, Ne.symm e2])
    ⟨rfl, Or.inr ⟨w6.heap.size, 0, 2, rfl, s67, fun j x hj => by
      match j, hj with
      | 0, hj => simp at hj; subst hj; exact y0
      | 1, hj => simp at hj; subst hj; exact y1⟩⟩ (by simp) (by simp)
  have F7 := (F5.trans F6).trans (Fr.of_below H6 b67)
  clear F5 F6 y0 y1 H5 H6 b67
  refine HCt.mono ?_; rintro o w8 ⟨rfl, hb8⟩
  clear HCt
  have H8 := H7.below hb8
  have F8 := F7.trans (Fr.of_below H7 hb8)
  have HDr := Drop_calls w8 p S2 h H8
  rw [hdE] at HDr
  clear F7 hb8 H7
  go_wp2_with fail
  refine HDr.mono ?_; rintro o w9 ⟨rfl, H9, F9⟩
  clear HDr H8
  have HWk := Work_calls w9 p (S2.drop h) 1073741824 99999 mm S5 H9 w5k.out
  go_wp2_with fail
  refine HWk.mono ?_; rintro o w10 ⟨rfl, H10, F10⟩
  clear HWk H9
  have FF := (F8.trans F9).trans F10
  go_wp2_with fail
  refine (HU5 _ H10).mono ?_; rintro o w11 ⟨rfl, rfl⟩
  clear HU5
  have R10 := rowv_fr ((R2.out.below hb1).below hb2) (fun g off c e => UP.loc (by have := hlc.out w0 g off c e; omega) s12) FF
  have HCk := vCheck_calls w10 p S5 z _ _ _ _ (.slice a n cap) docs rate H10 V5.out R10 (by omega) (by omega) (by omega) hdn.out hsz.out (fun x hx => (hid2.out x hx).2)
    (by have m3 : (symsOf (textsOf docs)).length = (rsort (textsOf docs)).length := by simp [symsOf]
        omega)
    (by have m1 : (marksOf docs rate).length = (rsort (textsOf docs)).length := by unfold marksOf; rw [List.length_map]
        omega)
    (by have m2 : (spotsOf docs rate).length ≤ (rsort (textsOf docs)).length := by
          unfold spotsOf spotsTo
          rw [List.length_map]
          exact List.length_filter_le _ _
        omega)
    (by have m4 : (tableOf docs).length = docs.length := by simp [tableOf]
        omega) (fun x hx => symsOf_lt hx) (by omega)
  simp only [beq_self_eq_true, Bool.and_true] at HCk
  go_wp2_with fail
  refine HCk.mono ?_; rintro o w12 ⟨rfl, hb12⟩
  clear HCk
  have H12 := H10.below hb12
  have F12 := FF.trans (Fr.of_below H10 hb12)
  go_wp2_with fail
  generalize hW : World.alloc _ _ = W13
  have b13 : Below w12.heap.size w12 W13 := by subst hW; exact (by repeat (first | with_reducible exact Below.refl _ _ | with_reducible assumption | with_reducible refine bel_drewN ?_ | with_reducible refine bel_drew ?_ | with_reducible refine bel_alloc ?_ _ | with_reducible refine bel_set ?_ _ ?_ | with_reducible refine bel_trans ?_ (by with_reducible assumption) | ((try dsimp only); omega)))
  have y0 : W13.cell? ⟨w12.heap.size, 0, none⟩ = some (.int .i64 z) := by subst hW; go_simp
  have s13 : w12.heap.size < W13.heap.size := by subst hW; simp
  clear hW
  have H13 := H12.below b13
  have F13 := F12.trans (Fr.of_below H12 b13)
  have HCt := Counted_calls W13 p S5 (more z noneHeld) (.slice (some ⟨w12.heap.size, 0, none⟩) 1 1) [z] H13 I5.out (fun x hx => by
      simp only [more, noneHeld, List.count_cons, List.count_nil, beq_iff_eq]
      by_cases e1 : x = z
      · subst e1; simp
      · simp [e1, Ne.symm e1])
    ⟨rfl, Or.inr ⟨w12.heap.size, 0, 1, rfl, s13, fun j x hj => by
      match j, hj with
      | 0, hj => simp at hj; subst hj; exact y0⟩⟩ (by simp) (by simp)
  refine HCt.mono ?_; rintro o w14 ⟨rfl, hb14⟩
  clear HCt
  have F14 := F13.trans (Fr.of_below H13 hb14)
  have fin : Below w1.heap.size w1 w14 := hb2.trans (fr_below UP F14 s12)
  go_wp2
  go_ret
  exact ⟨rfl, bel_trans hb1 fin⟩
end Go.Proofs.YtngfalbabgpnnaaGreat

namespace Go.Proofs.YtngfalbabgpnnaaGreat
open Go.ChangeShapes Go.WideShapes Go.ChangeAt Go.RowKit

theorem own : ownKnob Tryz.prog.godebug = none := by kernel_rfl
theorem laidOut : laidOutB Tryz.prog = true := by kernel_rfl
theorem cellsDoc : Tryz.prog.cellsOf 45 = 2 := by kernel_rfl
theorem cellsInt : Tryz.prog.cellsOf 3 = 1 := by kernel_rfl
theorem cellsStr : Tryz.prog.cellsOf 9 = 1 := by kernel_rfl

/-- What a slice of documents is. -/
theorem open_docs {H : Type} {enc : TypeId × Value → H} {W : World} {a : Option Addr} {len cap : Nat} {d : DataW H} {p : List MemPlace} (h : DataW.Trod enc Tryz.prog W 0 (fun _ => true) true 22 (.slice a len cap) d p) (hlt : ∀ x ∈ p, x.block < W.heap.size) :
    ∃ l : List GDoc, l.length = len ∧ RowG W a l ∧ len < 9223372036854775808 ∧ ∀ x ∈ l, x.1 < 9223372036854775808 := by
  obtain ⟨fuel, hf⟩ := h
  rcases Go.Deep.open_slice_pairs Tryz.underlying22 Tryz.underlying45 cellsDoc rfl rfl cellsInt cellsStr hf with ⟨hc, hx⟩ | ⟨a', len', cap', m, k, V0, V1, D0, D1, P0, P1, hc, _, hl, hm, hmm, hx, hall⟩
  · simp only [Value.cells, List.cons.injEq, Value.slice.injEq, and_true] at hc
    obtain ⟨rfl, rfl, rfl⟩ := hc
    exact ⟨[], rfl, fun i x h => by simp at h, by omega, fun x h => by simp at h⟩
  · simp only [Value.cells, List.cons.injEq, Value.slice.injEq, and_true] at hc
    obtain ⟨rfl, rfl, rfl⟩ := hc
    simp only [if_true] at hmm
    subst hmm
    simp only [Prod.mk.injEq] at hx
    obtain ⟨_, rfl⟩ := hx
    have each : ∀ i, i < len → ∃ x : GDoc, V0 i = .int .i64 x.1 ∧ V1 i = .string x.2 ∧ (Lit.int .i64 x.1).wf = true := fun i hi => by
      obtain ⟨_, _, t0, t1⟩ := hall i (by omega)
      obtain ⟨n, e0, _, w0⟩ := DataW.trod_int Tryz.underlying3 t0
      obtain ⟨s, e1, _, _⟩ := DataW.trod_string Tryz.underlying9 t1
      exact ⟨(n, s), by simpa using e0, by simpa using e1, w0⟩
    obtain ⟨f, hf⟩ := Go.Deep.choose_lt each
    have hml : maxLen < 9223372036854775808 := by decide
    refine ⟨(List.range len).map f, by simp, fun i x hi => ?_, by omega, fun x hx => ?_⟩
    · rw [List.getElem?_map] at hi
      by_cases hil : i < len
      · rw [List.getElem?_range hil] at hi
        simp only [Option.map_some, Option.some.injEq] at hi
        subst hi
        obtain ⟨c0, c1, _, _⟩ := hall i (by omega)
        obtain ⟨e0, e1, _⟩ := hf i hil
        obtain ⟨b, off, spot⟩ := a'
        have hspot : spot = none := by simpa [Addr.add] using World.cell?_spot (hall 0 (by omega)).1
        subst hspot
        rw [e0] at c0
        rw [e1] at c1
        refine ⟨b, off, rfl, ?_, by rw [← add_plain]; exact c0, ?_⟩
        · exact hlt (.cell b off) (List.mem_append_left _ (MemPlace.mem_row.2 ⟨0, by omega, by simp⟩))
        · rw [add_plain] at c1; rw [Nat.add_assoc]; exact c1
      · rw [List.getElem?_eq_none (by simp; omega)] at hi
        cases hi
    · obtain ⟨i, hi, rfl⟩ := List.mem_map.1 hx
      have w0 := (hf i (List.mem_range.1 hi)).2.2
      simp only [Lit.wf, IntKind.min, IntKind.max, IntKind.signed, IntKind.bits, Bool.and_eq_true, decide_eq_true_eq] at w0
      simp at w0
      omega
end Go.Proofs.YtngfalbabgpnnaaGreat

namespace Go.Proofs.YtngfalbabgpnnaaGreat
open Go.ChangeShapes Go.WideShapes Go.ChangeAt Go.RowKit
set_option linter.unusedVariables false

set_option maxRecDepth 100000 in
theorem versionShares_lifted (os : Os) (started : os.Started) (H : Type) (enc : TypeId × Value → H) :
    ReturnsInHanded {} Tryz.checked os 3 .any (Rows.versionSharesSpec.pre6 enc Tryz.prog Tryz.f3 Rows.versionSharesRow.domain false) (Rows.versionSharesSpec.post enc Tryz.prog Tryz.f3 false true false false) := by
  refine returnsInHanded_of_change (C := Tryz.checked) own started (by kernel_rfl) Tryz.func3
    (ChangeSpec.witness6 (enc := enc) (C := Tryz.checked) false ⟨#[], #[.slice none 0 0, .int .i64 0], []⟩ 8 (by kernel_rfl) (by kernel_rfl) (by kernel_rfl) (by kernel_rfl)) ?_
  intro W base args ds gs before hval0 hW hcnd _
  have hval : ∀ (j : Nat) t v, Tryz.f3.params[j]? = some t → args[j]? = some v → Value.okWide Tryz.prog W .any base t v := hval0
  have hW' := hW
  obtain ⟨p, q, hA0, hV, rfl, hfz, hnd⟩ := hW
  have hA : DataW.TrodAll enc Tryz.prog W 0 (fun _ => true) true Tryz.f3.params.toList args.toList ds p := hA0
  rw [Tryz.params3] at hA hval
  obtain ⟨v0, vs0, d0, ds0, p0, q0, hargs, rfl, rfl, h0, r0⟩ := trodAll_cons hA
  obtain ⟨v1, vs1, d1, ds1, p1, q1, hargs1, rfl, rfl, h1, r1⟩ := trodAll_cons r0
  obtain ⟨rfl, rfl, rfl⟩ := trodAll_nil r1
  subst hargs1
  obtain rfl : args = #[v0, v1] := by cases args; simp_all
  obtain ⟨rfl, rfl⟩ := trodVars_none hV
  obtain ⟨a, len, cap, rfl⟩ := okWide_slice Tryz.underlying22 (hval 0 22 v0 rfl rfl)
  obtain ⟨r, rfl, rfl, rfl, w1⟩ := open_int Tryz.underlying3 (hval 1 3 v1 rfl rfl) h1
  clear hA0 hval0
  simp only [List.append_nil] at hW'
  have hlt : ∀ x ∈ p0, x.block < W.heap.size := fun x hx => by simpa using hW'.lt x hx
  obtain ⟨l, rfl, R, hl, hids⟩ := open_docs h0 hlt
  refine (vShares_calls W a cap l r R hl hids).mono fun e W' ⟨he, hb⟩ => ?_
  subst he
  have hr := Below.trod laidOut (by kernel_rfl) (of_decide_eq_true (by kernel_rfl)) h0 hb hlt
  have hr2 := trodAll_cons_mk hr (trodAll_cons_mk (shut_int Tryz.underlying3 w1) trodAll_mk0)
  simp only [List.append_nil] at hr2
  exact ⟨_, rfl, _, _, _, [], p0, [], hW', trodAll_mk1 (shut_bool Tryz.underlying4 true), hr2, rfl, hb.frame _, fun h => by cases h⟩

theorem versionShares_proved : Rows.VersionSharesSaid :=
  OpenClaim.holds_of_wide 3 Tryz.f3 rfl rfl rfl rfl rfl rfl rfl ⟨rfl, rfl, rfl, rfl, rfl⟩ rfl rfl rfl rfl rfl (by kernel_rfl) Tryz.func3 (by kernel_rfl)
    (of_decide_eq_true (by kernel_rfl)) (by unfold Func.isWrapper; first | (rw [if_pos (by decide +kernel)]; kernel_rfl) | (rw [if_neg (by decide +kernel)]; exact ⟨rfl, rfl⟩))
    (fun os started H enc _ => versionShares_lifted os started H enc)
end Go.Proofs.YtngfalbabgpnnaaGreat
