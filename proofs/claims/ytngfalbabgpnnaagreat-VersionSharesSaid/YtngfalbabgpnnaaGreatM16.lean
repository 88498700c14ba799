/-
  The walks of slices.Equal.
  The shelf's contract of slices.SortFunc laid at this program, in plain words (written by the kit's tool).
  slices.SortFunc at rows: what it leaves, by the shelf's contract.
  The walks of package rows: Sorted.
  The walks of package rows: Symbols.
  Documents: what a version of them has: plain facts.
-/
import Derived.Test.YtngfalbabgpnnaaGreatM3
import Derived.Test.YtngfalbabgpnnaaGreatM14
import Derived.Test.YtngfalbabgpnnaaGreatM15
import Derived.Shelf.SlSortCmp.WholeK
import Derived.Shelf.SlGeneric
import Derived.Test.YtngfalbabgpnnaaGreatProg
set_option linter.unusedVariables false
set_option linter.unusedSimpArgs false
namespace Go.Proofs.YtngfalbabgpnnaaGreat
open Go.RowKit

set_option maxHeartbeats 4000000 in
set_option maxRecDepth 100000 in
theorem eqInt_calls (w : World) (v1 v2 : Value) (l m : List Nat) (R1 : RowV w v1 1 l.length (l.map fun x : Nat => .int .i64 (x : Int))) (R2 : RowV w v2 1 m.length (m.map fun x : Nat => .int .i64 (x : Int))) (hl : l.length < 400000) (hm : m.length < 400000) :
    Calls Tryz.prog 55 #[v1, v2] w fun o w' => o = .returned (.bool (l == m)) ∧ Below w.heap.size w w' := by
  by_cases hlen : l.length = m.length
  · by_cases h0 : l.length = 0
    · obtain ⟨a1, c1, rfl⟩ := R1.shape
      obtain ⟨a2, c2, rfl⟩ := R2.shape
      have e1 : l = [] := List.length_eq_zero_iff.1 h0
      have e2 : m = [] := List.length_eq_zero_iff.1 (by omega)
      subst e1; subst e2
      clear R1 R2
      go_enter Tryz.func55, Tryz.ntmps55
      go_wp2
      go_loopw [13] (fun c wr => c = .int .i64 0 ∧ wr = w) (fun c _ => 0)
      case atStart => exact ⟨rfl, rfl⟩
      case round =>
        obtain ⟨rfl, rfl⟩ := hrel
        go_wp2
        go_ret
        exact ⟨rfl, Below.refl _ _⟩
    · obtain ⟨g1, o1, c1, rfl, hg1, hc1⟩ := R1.some h0
      obtain ⟨g2, o2, c2, rfl, hg2, hc2⟩ := R2.some (by omega)
      clear R1 R2
      have hc1 := hid hc1
      have hc2 := hid hc2
      have nle : ((l.length : Nat) : Int) = (m.length : Nat) := by omega
      have nlb : (((l.length : Nat) : Int) != (m.length : Nat)) = false := by simp [hlen]
      have hlen := hid hlen
      have nle := hid nle
      generalize hLM : (l == m) = LM
      have hLM := hid hLM
      generalize hnn : l.length = n at *
      have hnn := hid hnn
      have hmm := hid (show m.length = n from hlen.out.symm)
      rw [hmm.out] at nlb ⊢
      go_enter Tryz.func55, Tryz.ntmps55
      go_wp2
      go_loopw [13] (fun c wr => ∃ i : Nat, i ≤ n ∧ c = .int .i64 i ∧ Below w.heap.size w wr ∧ Hid (∀ j, j < i → l[j]? = m[j]?)) (fun c _ => n - (intOf c).toNat)
      case atStart => exact ⟨0, by omega, rfl, (by repeat (first | with_reducible exact Below.refl _ _ | with_reducible assumption | with_reducible refine bel_drewN ?_ | with_reducible refine bel_drew ?_ | with_reducible refine bel_alloc ?_ _ | with_reducible refine bel_set ?_ _ ?_ | with_reducible refine bel_trans ?_ (by with_reducible assumption) | ((try dsimp only); omega))), hid (fun j hj => by omega)⟩
      case round =>
        obtain ⟨i, hi, rfl, hb, hsame⟩ := hrel
        by_cases hil : i = n
        · have fin := hid (show true = LM by
            rw [← hLM.out]
            have : l = m := List.ext_getElem? fun j => by
              by_cases q : j < i
              · exact hsame.out j q
              · rw [List.getElem?_eq_none (by rw [hnn.out]; omega), List.getElem?_eq_none (by rw [hmm.out]; omega)]
            subst this
            simp)
          subst hil
          go_wp2
          go_ret
          exact ⟨by rw [← fin.out]; rfl, hb⟩
        · have hlt : i < n := by omega
          have hlt' : (i : Int) < (n : Nat) := by omega
          have hli : i < l.length := by rw [hnn.out]; exact hlt
          have hmi : i < m.length := by rw [hmm.out]; exact hlt
          obtain ⟨x, hx⟩ : ∃ x, l[i]? = some x := ⟨l[i], List.getElem?_eq_getElem hli⟩
          obtain ⟨y, hy⟩ : ∃ y, m[i]? = some y := ⟨m[i], List.getElem?_eq_getElem hmi⟩
          have wi : IntKind.i64.wrap ((i : Int) + 1) = (i : Int) + 1 := by rw [show (i : Int) + 1 = ((i + 1 : Nat) : Int) by omega]; exact i64_nat (by omega)
          have z1 : wr.cell? ⟨g1, o1 + i, none⟩ = some (.int .i64 (x : Int)) := ((bcell hb).1 g1 _ hg1).trans (hc1.out i _ (by simp [hx]))
          have z2 : wr.cell? ⟨g2, o2 + i, none⟩ = some (.int .i64 (y : Int)) := ((bcell hb).1 g2 _ hg2).trans (hc2.out i _ (by simp [hy]))
          have hx := hid hx
          have hy := hid hy
          by_cases e : x = y
          · have hs2 := hid (show ∀ j, j < i + 1 → l[j]? = m[j]? from fun j hj => by
              by_cases q : j = i
              · subst q; rw [hx.out, hy.out, e]
              · exact hsame.out j (by omega))
            have qn : ((x : Int) != (y : Int)) = false := by simp [e]
            have qe : ((x : Int) == (y : Int)) = true := by simp [e]
            clear hsame
            go_wp2
            refine wp_region_can (fun w' => ∀ x, w'.cell? x = wr.cell? x) [(0, false), (1, false), (2, false), (3, false), (4, false), (5, false), (6, false), (7, false), (8, false)] (by kernel_rfl) (by kernel_rfl) (fun _ d _ _ _ h => by cases d <;> exact h) ?_ ?_
            · exact fun _ => rfl
            repeat ((with_reducible refine wpCan_isq ?_); first | (apply wpCan_read rfl (by rfl); (· intro w' hS; go_simp; with_reducible rfl); (· try simp only [Act.put, List.setIfInBounds_toArray, List.set_cons_zero, List.set_cons_succ]; with_reducible rfl)) | (apply wpCan_no rfl (by rfl); (· try simp only [Act.put, List.setIfInBounds_toArray, List.set_cons_zero, List.set_cons_succ]; with_reducible rfl)))
            refine wpCan_nil ?_
            go_wp2
            go_roundw
            case rel => exact ⟨i + 1, by omega, by simp, bel_drew hb, hs2⟩
            case measure => simp [intOf]; omega
          · have fin := hid (show false = LM by
              rw [← hLM.out]
              symm
              rw [beq_eq_false_iff_ne]
              intro q
              subst q
              rw [hx.out] at hy
              exact e (Option.some.inj hy.out))
            have qn : ((x : Int) != (y : Int)) = true := by simp; omega
            have qe : ((x : Int) == (y : Int)) = false := by simp; omega
            all_goals
              go_wp2
              refine wp_region_can (fun w' => ∀ x, w'.cell? x = wr.cell? x) [(0, false), (1, false), (2, false), (3, false), (4, false), (5, false), (6, false), (7, false), (8, false)] (by kernel_rfl) (by kernel_rfl) (fun _ d _ _ _ h => by cases d <;> exact h) ?_ ?_
              · exact fun _ => rfl
              repeat ((with_reducible refine wpCan_isq ?_); first | (apply wpCan_read rfl (by rfl); (· intro w' hS; go_simp; with_reducible rfl); (· try simp only [Act.put, List.setIfInBounds_toArray, List.set_cons_zero, List.set_cons_succ]; with_reducible rfl)) | (apply wpCan_no rfl (by rfl); (· try simp only [Act.put, List.setIfInBounds_toArray, List.set_cons_zero, List.set_cons_succ]; with_reducible rfl)))
              refine wpCan_nil ?_
              go_wp2
              go_ret
              exact ⟨by rw [← fin.out]; rfl, bel_drew hb⟩
  · have e : (l == m) = false := by
      rw [beq_eq_false_iff_ne]; intro q; exact hlen (by rw [q])
    rw [e]
    obtain ⟨a1, c1, rfl⟩ := R1.shape
    obtain ⟨a2, c2, rfl⟩ := R2.shape
    have nlb : (((l.length : Nat) : Int) != (m.length : Nat)) = true := by simp; omega
    have nlc : (((l.length : Nat) : Int) == (m.length : Nat)) = false := by simp; omega
    clear R1 R2 e
    generalize l.length = n1 at *
    generalize m.length = n2 at *
    go_enter Tryz.func55, Tryz.ntmps55
    go_wp2
    go_ret
    exact ⟨rfl, Below.refl _ _⟩

set_option maxHeartbeats 4000000 in
set_option maxRecDepth 100000 in
theorem eqBool_calls (w : World) (v1 v2 : Value) (l m : List Bool) (R1 : RowV w v1 1 l.length (l.map Value.bool)) (R2 : RowV w v2 1 m.length (m.map Value.bool)) (hl : l.length < 400000) (hm : m.length < 400000) :
    Calls Tryz.prog 58 #[v1, v2] w fun o w' => o = .returned (.bool (l == m)) ∧ Below w.heap.size w w' := by
  by_cases hlen : l.length = m.length
  · by_cases h0 : l.length = 0
    · obtain ⟨a1, c1, rfl⟩ := R1.shape
      obtain ⟨a2, c2, rfl⟩ := R2.shape
      have e1 : l = [] := List.length_eq_zero_iff.1 h0
      have e2 : m = [] := List.length_eq_zero_iff.1 (by omega)
      subst e1; subst e2
      clear R1 R2
      go_enter Tryz.func58, Tryz.ntmps58
      go_wp2
      go_loopw [13] (fun c wr => c = .int .i64 0 ∧ wr = w) (fun c _ => 0)
      case atStart => exact ⟨rfl, rfl⟩
      case round =>
        obtain ⟨rfl, rfl⟩ := hrel
        go_wp2
        go_ret
        exact ⟨rfl, Below.refl _ _⟩
    · obtain ⟨g1, o1, c1, rfl, hg1, hc1⟩ := R1.some h0
      obtain ⟨g2, o2, c2, rfl, hg2, hc2⟩ := R2.some (by omega)
      clear R1 R2
      have hc1 := hid hc1
      have hc2 := hid hc2
      have nle : ((l.length : Nat) : Int) = (m.length : Nat) := by omega
      have nlb : (((l.length : Nat) : Int) != (m.length : Nat)) = false := by simp [hlen]
      have hlen := hid hlen
      have nle := hid nle
      generalize hLM : (l == m) = LM
      have hLM := hid hLM
      generalize hnn : l.length = n at *
      have hnn := hid hnn
      have hmm := hid (show m.length = n from hlen.out.symm)
      rw [hmm.out] at nlb ⊢
      go_enter Tryz.func58, Tryz.ntmps58
      go_wp2
      go_loopw [13] (fun c wr => ∃ i : Nat, i ≤ n ∧ c = .int .i64 i ∧ Below w.heap.size w wr ∧ Hid (∀ j, j < i → l[j]? = m[j]?)) (fun c _ => n - (intOf c).toNat)
      case atStart => exact ⟨0, by omega, rfl, (by repeat (first | with_reducible exact Below.refl _ _ | with_reducible assumption | with_reducible refine bel_drewN ?_ | with_reducible refine bel_drew ?_ | with_reducible refine bel_alloc ?_ _ | with_reducible refine bel_set ?_ _ ?_ | with_reducible refine bel_trans ?_ (by with_reducible assumption) | ((try dsimp only); omega))), hid (fun j hj => by omega)⟩
      case round =>
        obtain ⟨i, hi, rfl, hb, hsame⟩ := hrel
        by_cases hil : i = n
        · have fin := hid (show true = LM by
            rw [← hLM.out]
            have : l = m := List.ext_getElem? fun j => by
              by_cases q : j < i
              · exact hsame.out j q
              · rw [List.getElem?_eq_none (by rw [hnn.out]; omega), List.getElem?_eq_none (by rw [hmm.out]; omega)]
            subst this
            simp)
          subst hil
          go_wp2
          go_ret
          exact ⟨by rw [← fin.out]; rfl, hb⟩
        · have hlt : i < n := by omega
          have hlt' : (i : Int) < (n : Nat) := by omega
          have hli : i < l.length := by rw [hnn.out]; exact hlt
          have hmi : i < m.length := by rw [hmm.out]; exact hlt
          obtain ⟨x, hx⟩ : ∃ x, l[i]? = some x := ⟨l[i], List.getElem?_eq_getElem hli⟩
          obtain ⟨y, hy⟩ : ∃ y, m[i]? = some y := ⟨m[i], List.getElem?_eq_getElem hmi⟩
          have wi : IntKind.i64.wrap ((i : Int) + 1) = (i : Int) + 1 := by rw [show (i : Int) + 1 = ((i + 1 : Nat) : Int) by omega]; exact i64_nat (by omega)
          have z1 : wr.cell? ⟨g1, o1 + i, none⟩ = some (.bool x) := ((bcell hb).1 g1 _ hg1).trans (hc1.out i _ (by simp [hx]))
          have z2 : wr.cell? ⟨g2, o2 + i, none⟩ = some (.bool y) := ((bcell hb).1 g2 _ hg2).trans (hc2.out i _ (by simp [hy]))
          have hx := hid hx
          have hy := hid hy
          by_cases e : x = y
          · have hs2 := hid (show ∀ j, j < i + 1 → l[j]? = m[j]? from fun j hj => by
              by_cases q : j = i
              · subst q; rw [hx.out, hy.out, e]
              · exact hsame.out j (by omega))
            have qn : (x != y) = false := by simp [e]
            have qe : (x == y) = true := by simp [e]
            clear hsame
            go_wp2
            refine wp_region_can (fun w' => ∀ x, w'.cell? x = wr.cell? x) [(0, false), (1, false), (2, false), (3, false), (4, false), (5, false), (6, false), (7, false), (8, false)] (by kernel_rfl) (by kernel_rfl) (fun _ d _ _ _ h => by cases d <;> exact h) ?_ ?_
            · exact fun _ => rfl
            repeat ((with_reducible refine wpCan_isq ?_); first | (apply wpCan_read rfl (by rfl); (· intro w' hS; go_simp; with_reducible rfl); (· try simp only [Act.put, List.setIfInBounds_toArray, List.set_cons_zero, List.set_cons_succ]; with_reducible rfl)) | (apply wpCan_no rfl (by rfl); (· try simp only [Act.put, List.setIfInBounds_toArray, List.set_cons_zero, List.set_cons_succ]; with_reducible rfl)))
            refine wpCan_nil ?_
            go_wp2
            go_roundw
            case rel => exact ⟨i + 1, by omega, by simp, bel_drew hb, hs2⟩
            case measure => simp [intOf]; omega
          · have fin := hid (show false = LM by
              rw [← hLM.out]
              symm
              rw [beq_eq_false_iff_ne]
              intro q
              subst q
              rw [hx.out] at hy
              exact e (Option.some.inj hy.out))
            have qn : (x != y) = true := by simpa using e
            have qe : (x == y) = false := by simpa using e
            all_goals
              go_wp2
              refine wp_region_can (fun w' => ∀ x, w'.cell? x = wr.cell? x) [(0, false), (1, false), (2, false), (3, false), (4, false), (5, false), (6, false), (7, false), (8, false)] (by kernel_rfl) (by kernel_rfl) (fun _ d _ _ _ h => by cases d <;> exact h) ?_ ?_
              · exact fun _ => rfl
              repeat ((with_reducible refine wpCan_isq ?_); first | (apply wpCan_read rfl (by rfl); (· intro w' hS; go_simp; with_reducible rfl); (· try simp only [Act.put, List.setIfInBounds_toArray, List.set_cons_zero, List.set_cons_succ]; with_reducible rfl)) | (apply wpCan_no rfl (by rfl); (· try simp only [Act.put, List.setIfInBounds_toArray, List.set_cons_zero, List.set_cons_succ]; with_reducible rfl)))
              refine wpCan_nil ?_
              go_wp2
              go_ret
              exact ⟨by rw [← fin.out]; rfl, bel_drew hb⟩
  · have e : (l == m) = false := by
      rw [beq_eq_false_iff_ne]; intro q; exact hlen (by rw [q])
    rw [e]
    obtain ⟨a1, c1, rfl⟩ := R1.shape
    obtain ⟨a2, c2, rfl⟩ := R2.shape
    have nlb : (((l.length : Nat) : Int) != (m.length : Nat)) = true := by simp; omega
    have nlc : (((l.length : Nat) : Int) == (m.length : Nat)) = false := by simp; omega
    clear R1 R2 e
    generalize l.length = n1 at *
    generalize m.length = n2 at *
    go_enter Tryz.func58, Tryz.ntmps58
    go_wp2
    go_ret
    exact ⟨rfl, Below.refl _ _⟩

set_option maxHeartbeats 4000000 in
set_option maxRecDepth 100000 in
theorem eqItem_calls (w : World) (v1 v2 : Value) (l m : List (Nat × Nat)) (R1 : RowV w v1 2 l.length (l.flatMap itemV)) (R2 : RowV w v2 2 m.length (m.flatMap itemV)) (hl : l.length < 400000) (hm : m.length < 400000) :
    Calls Tryz.prog 53 #[v1, v2] w fun o w' => o = .returned (.bool (l == m)) ∧ Below w.heap.size w w' := by
  by_cases hlen : l.length = m.length
  · by_cases h0 : l.length = 0
    · obtain ⟨a1, c1, rfl⟩ := R1.shape
      obtain ⟨a2, c2, rfl⟩ := R2.shape
      have e1 : l = [] := List.length_eq_zero_iff.1 h0
      have e2 : m = [] := List.length_eq_zero_iff.1 (by omega)
      subst e1; subst e2
      clear R1 R2
      go_enter Tryz.func53, Tryz.ntmps53
      go_wp2
      go_loopw [13] (fun c wr => c = .int .i64 0 ∧ wr = w) (fun c _ => 0)
      case atStart => exact ⟨rfl, rfl⟩
      case round =>
        obtain ⟨rfl, rfl⟩ := hrel
        go_wp2
        go_ret
        exact ⟨rfl, Below.refl _ _⟩
    · obtain ⟨g1, o1, c1, rfl, hg1, hc1⟩ := R1.some h0
      obtain ⟨g2, o2, c2, rfl, hg2, hc2⟩ := R2.some (by omega)
      clear R1 R2
      have hc1 := hid hc1
      have hc2 := hid hc2
      have nle : ((l.length : Nat) : Int) = (m.length : Nat) := by omega
      have nlb : (((l.length : Nat) : Int) != (m.length : Nat)) = false := by simp [hlen]
      have hlen := hid hlen
      have nle := hid nle
      generalize hLM : (l == m) = LM
      have hLM := hid hLM
      generalize hnn : l.length = n at *
      have hnn := hid hnn
      have hmm := hid (show m.length = n from hlen.out.symm)
      rw [hmm.out] at nlb ⊢
      go_enter Tryz.func53, Tryz.ntmps53
      go_wp2
      go_loopw [13] (fun c wr => ∃ i : Nat, i ≤ n ∧ c = .int .i64 i ∧ Below w.heap.size w wr ∧ Hid (∀ j, j < i → l[j]? = m[j]?)) (fun c _ => n - (intOf c).toNat)
      case atStart => exact ⟨0, by omega, rfl, (by repeat (first | with_reducible exact Below.refl _ _ | with_reducible assumption | with_reducible refine bel_drewN ?_ | with_reducible refine bel_drew ?_ | with_reducible refine bel_alloc ?_ _ | with_reducible refine bel_set ?_ _ ?_ | with_reducible refine bel_trans ?_ (by with_reducible assumption) | ((try dsimp only); omega))), hid (fun j hj => by omega)⟩
      case round =>
        obtain ⟨i, hi, rfl, hb, hsame⟩ := hrel
        by_cases hil : i = n
        · have fin := hid (show true = LM by
            rw [← hLM.out]
            have : l = m := List.ext_getElem? fun j => by
              by_cases q : j < i
              · exact hsame.out j q
              · rw [List.getElem?_eq_none (by rw [hnn.out]; omega), List.getElem?_eq_none (by rw [hmm.out]; omega)]
            subst this
            simp)
          subst hil
          go_wp2
          go_ret
          exact ⟨by rw [← fin.out]; rfl, hb⟩
        · have hlt : i < n := by omega
          have hlt' : (i : Int) < (n : Nat) := by omega
          have hli : i < l.length := by rw [hnn.out]; exact hlt
          have hmi : i < m.length := by rw [hmm.out]; exact hlt
          obtain ⟨x, hx⟩ : ∃ x, l[i]? = some x := ⟨l[i], List.getElem?_eq_getElem hli⟩
          obtain ⟨y, hy⟩ : ∃ y, m[i]? = some y := ⟨m[i], List.getElem?_eq_getElem hmi⟩
          have wi : IntKind.i64.wrap ((i : Int) + 1) = (i : Int) + 1 := by rw [show (i : Int) + 1 = ((i + 1 : Nat) : Int) by omega]; exact i64_nat (by omega)
          obtain ⟨f1, f2⟩ := flat2 hx
          obtain ⟨f3, f4⟩ := flat2 hy
          have z1 : wr.cell? ⟨g1, o1 + i * 2, none⟩ = some (.int .i64 (x.1 : Int)) := ((bcell hb).1 g1 _ hg1).trans (hc1.out _ _ f1)
          have z2 : wr.cell? ⟨g1, o1 + i * 2 + 1, none⟩ = some (.int .i64 (x.2 : Int)) := ((bcell hb).1 g1 _ hg1).trans (hc1.out _ _ f2)
          have z3 : wr.cell? ⟨g2, o2 + i * 2, none⟩ = some (.int .i64 (y.1 : Int)) := ((bcell hb).1 g2 _ hg2).trans (hc2.out _ _ f3)
          have z4 : wr.cell? ⟨g2, o2 + i * 2 + 1, none⟩ = some (.int .i64 (y.2 : Int)) := ((bcell hb).1 g2 _ hg2).trans (hc2.out _ _ f4)
          clear f1 f2 f3 f4
          have hx := hid hx
          have hy := hid hy
          by_cases e : x = y
          · have hs2 := hid (show ∀ j, j < i + 1 → l[j]? = m[j]? from fun j hj => by
              by_cases q : j = i
              · subst q; rw [hx.out, hy.out, e]
              · exact hsame.out j (by omega))
            have qe : ((x.1 : Int) == (y.1 : Int)) = true := by simp [e]
            have qf : ((x.2 : Int) == (y.2 : Int)) = true := by simp [e]
            clear hsame
            go_wp2
            refine wp_region_can (fun w' => ∀ x, w'.cell? x = wr.cell? x) [(0, false), (1, false), (2, false), (3, false), (4, false), (5, false), (6, false), (7, false), (8, false)] (by kernel_rfl) (by kernel_rfl) (fun _ d _ _ _ h => by cases d <;> exact h) ?_ ?_
            · exact fun _ => rfl
            repeat ((with_reducible refine wpCan_isq ?_); first | (apply wpCan_read rfl (by rfl); (· intro w' hS; go_simp; with_reducible rfl); (· try simp only [Act.put, List.setIfInBounds_toArray, List.set_cons_zero, List.set_cons_succ]; with_reducible rfl)) | (apply wpCan_no rfl (by rfl); (· try simp only [Act.put, List.setIfInBounds_toArray, List.set_cons_zero, List.set_cons_succ]; with_reducible rfl)))
            refine wpCan_nil ?_
            go_wp2
            go_roundw
            case rel => exact ⟨i + 1, by omega, by simp, bel_drew hb, hs2⟩
            case measure => simp [intOf]; omega
          · have fin := hid (show false = LM by
              rw [← hLM.out]
              symm
              rw [beq_eq_false_iff_ne]
              intro q
              subst q
              rw [hx.out] at hy
              exact e (Option.some.inj hy.out))
            have hor : ((x.1 : Int) == (y.1 : Int)) = false ∨ (((x.1 : Int) == (y.1 : Int)) = true ∧ ((x.2 : Int) == (y.2 : Int)) = false) := by
              by_cases q : x.1 = y.1
              · right; have : x.2 ≠ y.2 := fun r => e (Prod.ext q r)
                exact ⟨by simp [q], by simp; omega⟩
              · left; simp; omega
            rcases hor with qe | ⟨qe, qf⟩
            all_goals
              go_wp2
              refine wp_region_can (fun w' => ∀ x, w'.cell? x = wr.cell? x) [(0, false), (1, false), (2, false), (3, false), (4, false), (5, false), (6, false), (7, false), (8, false)] (by kernel_rfl) (by kernel_rfl) (fun _ d _ _ _ h => by cases d <;> exact h) ?_ ?_
              · exact fun _ => rfl
              repeat ((with_reducible refine wpCan_isq ?_); first | (apply wpCan_read rfl (by rfl); (· intro w' hS; go_simp; with_reducible rfl); (· try simp only [Act.put, List.setIfInBounds_toArray, List.set_cons_zero, List.set_cons_succ]; with_reducible rfl)) | (apply wpCan_no rfl (by rfl); (· try simp only [Act.put, List.setIfInBounds_toArray, List.set_cons_zero, List.set_cons_succ]; with_reducible rfl)))
              refine wpCan_nil ?_
              go_wp2
              go_ret
              exact ⟨by rw [← fin.out]; rfl, bel_drew hb⟩
  · have e : (l == m) = false := by
      rw [beq_eq_false_iff_ne]; intro q; exact hlen (by rw [q])
    rw [e]
    obtain ⟨a1, c1, rfl⟩ := R1.shape
    obtain ⟨a2, c2, rfl⟩ := R2.shape
    have nlb : (((l.length : Nat) : Int) != (m.length : Nat)) = true := by simp; omega
    have nlc : (((l.length : Nat) : Int) == (m.length : Nat)) = false := by simp; omega
    clear R1 R2 e
    generalize l.length = n1 at *
    generalize m.length = n2 at *
    go_enter Tryz.func53, Tryz.ntmps53
    go_wp2
    go_ret
    exact ⟨rfl, Below.refl _ _⟩
end Go.Proofs.YtngfalbabgpnnaaGreat

namespace Go.Proofs.YtngfalbabgpnnaaGreat
open Go.Shelf
def sortRow_ren : Go.Shelf.Ren := ⟨fun | 6 => 98 | 15 => 112 | 14 => 132 | 28 => 146 | 29 => 147 | 20 => 158 | 21 => 159 | 22 => 160 | 23 => 161 | 24 => 162 | 25 => 163 | 26 => 164 | 27 => 165 | 46 => 175 | 47 => 169 | 48 => 170 | 49 => 176 | 50 => 177 | 57 => 180 | n => n, fun | 22 => 71 | 24 => 76 | 25 => 137 | 3 => 3 | 39 => 151 | 0 => 0 | 53 => 181 | 55 => 82 | 4 => 4 | 46 => 175 | 45 => 174 | 50 => 27 | 5 => 5 | 9 => 9 | 66 => 195 | 70 => 155 | 76 => 203 | 77 => 167 | n => n, fun | n => n⟩
theorem sortRow : Go.Proofs.SlLaysF0.n6 Tryz.prog sortRow_ren := {
  mixed := by kernel_rfl
  f6 := ⟨Tryz.f98.name, by decide, Tryz.func98.trans (congrArg some (by kernel_rfl))⟩
  f14 := ⟨Tryz.f132.name, by decide, Tryz.func132.trans (congrArg some (by kernel_rfl))⟩
  f15 := Tryz.func112.trans (congrArg some (by kernel_rfl))
  f20 := ⟨Tryz.f158.name, by decide, Tryz.func158.trans (congrArg some (by kernel_rfl))⟩
  f21 := ⟨Tryz.f159.name, by decide, Tryz.func159.trans (congrArg some (by kernel_rfl))⟩
  f22 := ⟨Tryz.f160.name, by decide, Tryz.func160.trans (congrArg some (by kernel_rfl))⟩
  f23 := ⟨Tryz.f161.name, by decide, Tryz.func161.trans (congrArg some (by kernel_rfl))⟩
  f24 := ⟨Tryz.f162.name, by decide, Tryz.func162.trans (congrArg some (by kernel_rfl))⟩
  f25 := ⟨Tryz.f163.name, by decide, Tryz.func163.trans (congrArg some (by kernel_rfl))⟩
  f26 := ⟨Tryz.f164.name, by decide, Tryz.func164.trans (congrArg some (by kernel_rfl))⟩
  f27 := ⟨Tryz.f165.name, by decide, Tryz.func165.trans (congrArg some (by kernel_rfl))⟩
  f28 := Tryz.func146.trans (congrArg some (by kernel_rfl))
  f29 := Tryz.func147.trans (congrArg some (by kernel_rfl))
  f46 := ⟨Tryz.f175.name, by decide, Tryz.func175.trans (congrArg some (by kernel_rfl))⟩
  f47 := Tryz.func169.trans (congrArg some (by kernel_rfl))
  f48 := Tryz.func170.trans (congrArg some (by kernel_rfl))
  f49 := ⟨Tryz.f176.name, by decide, Tryz.func176.trans (congrArg some (by kernel_rfl))⟩
  f50 := ⟨Tryz.f177.name, by decide, Tryz.func177.trans (congrArg some (by kernel_rfl))⟩
  f57 := ⟨Tryz.f180.name, by decide, Tryz.func180.trans (congrArg some (by kernel_rfl))⟩
  t0 := Tryz.underlying0
  a0 := Tryz.isAgg0
  z0 := Tryz.sizeOf0
  v0 := Tryz.zeroValue0
  t3 := Tryz.underlying3
  a3 := Tryz.isAgg3
  z3 := Tryz.sizeOf3
  v3 := Tryz.zeroValue3
  t4 := Tryz.underlying4
  a4 := Tryz.isAgg4
  z4 := Tryz.sizeOf4
  v4 := Tryz.zeroValue4
  t5 := Tryz.underlying5
  a5 := Tryz.isAgg5
  z5 := Tryz.sizeOf5
  v5 := Tryz.zeroValue5
  t9 := Tryz.underlying9
  a9 := Tryz.isAgg9
  z9 := Tryz.sizeOf9
  v9 := Tryz.zeroValue9
  t22 := Tryz.underlying71
  a22 := Tryz.isAgg71
  z22 := Tryz.sizeOf71
  v22 := Tryz.zeroValue71
  t25 := Tryz.underlying137
  a25 := Tryz.isAgg137
  z25 := Tryz.sizeOf137
  v25 := Tryz.zeroValue137
  t39 := Tryz.underlying151
  a39 := Tryz.isAgg151
  z39 := Tryz.sizeOf151
  v39 := Tryz.zeroValue151
  t45 := Tryz.underlying174
  a45 := Tryz.isAgg174
  z45 := Tryz.sizeOf174
  v45 := Tryz.zeroValue174
  t46 := Tryz.underlying175
  a46 := Tryz.isAgg175
  z46 := Tryz.sizeOf175
  v46 := Tryz.zeroValue175
  t50 := Tryz.underlying27
  a50 := Tryz.isAgg27
  z50 := Tryz.sizeOf27
  v50 := Tryz.zeroValue27
  t53 := Tryz.underlying181
  a53 := Tryz.isAgg181
  z53 := Tryz.sizeOf181
  v53 := Tryz.zeroValue181
  t55 := Tryz.underlying82
  a55 := Tryz.isAgg82
  z55 := Tryz.sizeOf82
  v55 := Tryz.zeroValue82
  t66 := Tryz.underlying195
  a66 := Tryz.isAgg195
  z66 := Tryz.sizeOf195
  v66 := Tryz.zeroValue195
  t70 := Tryz.underlying155
  a70 := Tryz.isAgg155
  z70 := Tryz.sizeOf155
  v70 := Tryz.zeroValue155
  t76 := Tryz.underlying203
  a76 := Tryz.isAgg203
  z76 := Tryz.sizeOf203
  v76 := Tryz.zeroValue203
  t77 := Tryz.underlying167
  a77 := Tryz.isAgg167
  z77 := Tryz.sizeOf167
  v77 := Tryz.zeroValue167 }
end Go.Proofs.YtngfalbabgpnnaaGreat

namespace Go.Proofs.YtngfalbabgpnnaaGreat
open Go.RowKit

structure RowT (ts : List ByteArray) : Type where
  val : Nat × Nat
  ok : rowOk ts val
def encR {ts : List ByteArray} (x : RowT ts) : List Value := itemV x.1
def cfR {ts : List ByteArray} (x y : RowT ts) : Int := if rowLess ts x.1 y.1 then -1 else 1
theorem ltOf_cfR {ts : List ByteArray} (x y : RowT ts) : ltOf (cfR (ts := ts)) x y = rowLess ts x.1 y.1 := by
  unfold ltOf cfR
  cases rowLess ts x.1 y.1 <;> simp
theorem swoR (ts : List ByteArray) : Sort.SWO (ltOf (cfR (ts := ts))) where
  irrefl x := by rw [ltOf_cfR]; exact rowLess_irrefl _ _
  trans x y z h1 h2 := by rw [ltOf_cfR] at *; exact rowLess_trans h1 h2
  ntrans x y z h1 h2 := by rw [ltOf_cfR] at *; exact rowLess_ntrans x.ok y.ok z.ok h1 h2

section
variable {ts : List ByteArray} [Inhabited (RowT ts)]
theorem flatK_at (d : Array (RowT ts)) (i : Nat) (hi : i < d.size) : (Sort.flatK encR 2 d)[i * 2]? = some (.int .i64 ((d[i].1.1 : Nat) : Int)) ∧ (Sort.flatK encR 2 d)[i * 2 + 1]? = some (.int .i64 ((d[i].1.2 : Nat) : Int)) := by
  have h : ∀ t, t < d.size * 2 → (Sort.flatK encR 2 d)[t]? = some (encR d[t / 2]!)[t % 2]! := fun t ht => by
    have := Sort.get_flatK encR 2 d t ht
    rw [← this, Array.getElem?_eq_getElem (by rw [Sort.size_flatK]; exact ht), getElem!_pos]
  constructor
  · rw [h _ (by omega), show i * 2 / 2 = i by omega, show i * 2 % 2 = 0 by omega, getElem!_pos d i hi]; rfl
  · rw [h _ (by omega), show (i * 2 + 1) / 2 = i by omega, show (i * 2 + 1) % 2 = 1 by omega, getElem!_pos d i hi]; rfl
theorem flatK_list (d : Array (RowT ts)) : (Sort.flatK encR 2 d).toList = (d.toList.map RowT.val).flatMap itemV := by
  apply List.ext_getElem?
  intro t
  by_cases ht : t < d.size * 2
  · have hi : t / 2 < d.size := by omega
    have e : (d.toList.map RowT.val)[t / 2]? = some d[t / 2].1 := by simp [hi]
    obtain ⟨a1, a2⟩ := flat2 e
    obtain ⟨b1, b2⟩ := flatK_at d (t / 2) hi
    rw [Array.getElem?_toList]
    by_cases q : t % 2 = 0
    · rw [show t = t / 2 * 2 by omega, a1, b1]
    · rw [show t = t / 2 * 2 + 1 by omega, a2, b2]
  · rw [List.getElem?_eq_none (by simp; omega), List.getElem?_eq_none]
    have : ∀ l : List (Nat × Nat), (l.flatMap itemV).length = l.length * 2 := fun l => by
      induction l with
      | nil => rfl
      | cons a r ih => rw [List.flatMap_cons, List.length_append, ih]; simp [itemV]; omega
    rw [this]; simp; omega
theorem holdsR {w : World} {base g n cap : Nat} {e : TypeId} {xs : List Value} {d : Array (RowT ts)} (ho : w.ownsRow base e 2 (.slice (some ⟨g, 0, none⟩) n cap) n xs) (hx : xs = (d.toList.map RowT.val).flatMap itemV) : Sort.HoldsK encR 2 w g 0 d := by
  obtain ⟨h1, h2 | ⟨g', cap', cur, hv, hb, hg, hn, _, hs, ht⟩⟩ := ho
  · cases h2.1
  · cases hv
    intro j hj
    rw [Sort.size_flatK] at hj
    rw [← flatK_list] at hx
    have hl : (Sort.flatK encR 2 d)[j]? = some (Sort.flatK encR 2 d)[j]! := by
      rw [getElem!_pos _ j (by rw [Sort.size_flatK]; exact hj), Array.getElem?_eq_getElem]
    have hc : cur[j]? = some (Sort.flatK encR 2 d)[j]! := by
      rw [← hl, ← Array.getElem?_toList, ← Array.getElem?_toList, ← hx, ← ht, List.getElem?_take, if_pos]
      have hq : xs.length = d.size * 2 := by rw [hx]; simp
      omega
    constructor
    · rw [World.cell?, hg]; simpa using hc
    · simp [World.frozen?, hg]
theorem own_after {w : World} {base g n cap m : Nat} {e : TypeId} {xs : List Value} {d : Array (RowT ts)} {os : Array Obj} (ho : w.ownsRow base e 2 (.slice (some ⟨g, 0, none⟩) n cap) n xs) (hd : d.size = n) :
    (sortWorldK encR 2 w g 0 m d os).ownsRow base e 2 (.slice (some ⟨g, 0, none⟩) n cap) n ((d.toList.map RowT.val).flatMap itemV) ∧ Below base w (sortWorldK encR 2 w g 0 m d os) := by
  obtain ⟨h1, h2 | ⟨g', cap', cur, hv, hb, hg, hn, hm, hs, ht⟩⟩ := ho
  · cases h2.1
  cases hv
  have hgs := (Array.getElem?_eq_some_iff.1 hg).1
  have hheap : (sortWorldK encR 2 w g 0 m d os).heap = w.heap.modify g (Sort.onCells (Sort.putCells id 0 (Sort.flatK encR 2 d))) ++ os := rfl
  have hsz : (Sort.putCells id 0 (Sort.flatK encR 2 d) cur).size = cur.size := by simp [Sort.putCells]
  rw [← flatK_list]
  refine ⟨⟨by simp [hd], Or.inr ⟨g, cap, Sort.putCells id 0 (Sort.flatK encR 2 d) cur, rfl, hb, ?_, hn, hm, by rw [hsz]; exact hs, ?_⟩⟩, rfl, rfl, rfl, ?_, fun b hlt => ?_⟩
  · rw [hheap, Array.getElem?_append_left (by simpa using hgs), Array.getElem?_modify, if_pos rfl, hg]
    rfl
  · apply List.ext_getElem?
    intro j
    rw [List.getElem?_take]
    by_cases hj : j < n * 2
    · rw [if_pos hj, Array.getElem?_toList, Array.getElem?_toList]
      have hjc : j < cur.size := by have := Nat.mul_le_mul_right 2 hn; omega
      have hjf : j < (Sort.flatK encR 2 d).size := by rw [Sort.size_flatK, hd]; exact hj
      unfold Sort.putCells
      rw [Array.getElem?_mapIdx, Array.getElem?_eq_getElem hjc]
      simp only [Option.map_some]
      rw [if_pos ⟨Nat.zero_le _, by omega⟩, Nat.sub_zero, getElem!_pos _ j hjf, Array.getElem?_eq_getElem hjf]
      rfl
    · rw [if_neg hj, List.getElem?_eq_none]
      simp [hd]; omega
  · rw [hheap]; simp
  · rw [hheap, Array.getElem?_append_left (by simp; omega), Array.getElem?_modify, if_neg (by omega)]
end

theorem runR (w : World) : (isAgg 76).run Tryz.prog w = .ok true w ∧ (Go.sizeOf 76).run Tryz.prog w = .ok 2 w := ⟨Tryz.isAgg76 w, Tryz.sizeOf76 w⟩

/-- SORTED: the rows, rising. -/
theorem rSortFunc_calls (w : World) (base b g cap : Nat) (v : Value) (ts : List ByteArray) (l : List (Nat × Nat)) (hne : l ≠ []) (ho : w.ownsRow base 76 2 (.slice (some ⟨g, 0, none⟩) l.length cap) l.length (l.flatMap itemV)) (hb : w.cell? ⟨b, 0, none⟩ = some v) (hbb : b < base) (R : RowV w v 1 ts.length (strs ts)) (hgv : v.ownBlock ≠ some g)
    (hn : ts.length < 1000) (hs : ∀ s ∈ ts, s.size < 1000000) (hl : l.Perm (allRows ts)) :
    Calls Tryz.prog 98 #[.slice (some ⟨g, 0, none⟩) l.length cap, .func (.func 99) #[] #[.pointer (some ⟨b, 0, none⟩)]] w fun o w' =>
      o = .returned (.tuple #[]) ∧ w'.ownsRow base 76 2 (.slice (some ⟨g, 0, none⟩) l.length cap) l.length ((rsort ts).flatMap itemV) ∧ Below base w w' := by
  have hok : ∀ r ∈ l, rowOk ts r := fun r hr => rowOk_iff.1 (hl.mem_iff.1 hr)
  obtain ⟨r0, hr0⟩ := List.exists_mem_of_ne_nil l hne
  haveI : Inhabited (RowT ts) := ⟨⟨r0, hok r0 hr0⟩⟩
  let d : Array (RowT ts) := (l.pmap (fun r h => (⟨r, h⟩ : RowT ts)) hok).toArray
  have hdl : d.toList.map RowT.val = l := by
    show (l.pmap (fun r h => (⟨r, h⟩ : RowT ts)) hok).map RowT.val = l
    rw [List.map_pmap]
    exact (List.pmap_eq_map hok).trans (List.map_id l)
  have hds : d.size = l.length := by show (l.pmap _ hok).toArray.size = _; rw [List.size_toArray, List.length_pmap]
  have hH := holdsR (d := d) ho (by rw [hdl])
  have hg : g < w.heap.size := by
    rcases own_cases ho with ⟨q, _⟩ | ⟨g', cap', q, _, hg, _⟩
    · cases q
    · cases q; exact hg
  have hbg : base ≤ g := by
    rcases own_cases ho with ⟨q, _⟩ | ⟨g', cap', q, hg, _⟩
    · cases q
    · cases q; exact hg
  have eg : ∀ args w, (callFunc 99 args).run Tryz.prog w = .ok (.enter 99 args) w := enters_of Tryz.func99 (by kernel_rfl) rfl
  have hcmp : CmpLays Tryz.prog 99 #[.pointer (some ⟨b, 0, none⟩)] (encR (ts := ts)) 2 cfR g 0 d.size w := by
    intro m os dk hdk x y
    have hc : ∀ a : Addr, a.block ≠ g → a.block < w.heap.size → (sortWorldK encR 2 w g 0 m dk os).cell? a = w.cell? a := fun a ha hlt => by
      have hheap : (sortWorldK encR 2 w g 0 m dk os).heap = w.heap.modify g (Sort.onCells (Sort.putCells id 0 (Sort.flatK encR 2 dk))) ++ os := rfl
      have : (sortWorldK encR 2 w g 0 m dk os).heap[a.block]? = w.heap[a.block]? := by
        rw [hheap, Array.getElem?_append_left (by simpa using hlt), Array.getElem?_modify, if_neg (fun q => ha q.symm)]
      exact World.cell?_of_block this
    have hsz : w.heap.size ≤ (sortWorldK encR 2 w g 0 m dk os).heap.size := by
      show w.heap.size ≤ (w.heap.modify g _ ++ os).size
      simp
    have hbw : b < w.heap.size := by omega
    have R' : RowV (sortWorldK encR 2 w g 0 m dk os) v 1 ts.length (strs ts) := by
      obtain ⟨q1, q2 | ⟨gv, off, cp, rfl, hgl, hcl⟩⟩ := R
      · exact ⟨q1, Or.inl q2⟩
      · refine ⟨q1, Or.inr ⟨gv, off, cp, rfl, by omega, fun j x hx => ?_⟩⟩
        rw [hc ⟨gv, off + j, none⟩ (fun q => hgv (by simp [Value.ownBlock]; exact q)) hgl]
        exact hcl j x hx
    have := rCmp_calls (sortWorldK encR 2 w g 0 m dk os) b v ts x.1 y.1 (by rw [hc ⟨b, 0, none⟩ (by (try dsimp only); omega) hbw]; exact hb) (by omega) R' hn hs x.ok y.ok
    refine this.mono ?_
    rintro o w' ⟨rfl, q, os', hq⟩
    exact ⟨rfl, q, os', hq⟩
  have hcon := AnyQ.slices_SortFunc sortRow 2 (fun w => (runR w).1) (fun w => (runR w).2) (encR (ts := ts)) (fun x => rfl) (fun x u hu => by
    simp only [encR, itemV, List.mem_cons, List.mem_nil_iff, or_false] at hu
    rcases hu with rfl | rfl <;> rfl) cfR (swoR ts) 99 #[.pointer (some ⟨b, 0, none⟩)] g 0 cap d w eg hcmp hH hg (by
      rw [hds, hl.length_eq]
      have : (allRows ts).length < 4611686018427387904 := by
        unfold allRows
        rw [length_rowsFrom]
        have : ∀ l : List ByteArray, (∀ s ∈ l, s.size < 1000000) → (l.map fun s => s.size + 1).sum ≤ l.length * 1000000 := by
          intro l
          induction l with
          | nil => intro _; simp
          | cons a r ih =>
            intro h
            have h1 := h a (by simp)
            have h2 := ih fun s hs => h s (List.mem_cons_of_mem _ hs)
            simp only [List.map_cons, List.sum_cons, List.length_cons, Nat.succ_mul]; omega
        have := this ts hs
        omega
      exact this)
  change Calls Tryz.prog 98 #[.slice (some ⟨g, 0, none⟩) d.size cap, _] w _ at hcon
  rw [hds] at hcon
  refine hcon.mono ?_
  rintro o w' ⟨rfl, d', n, os, hp, hsd, rfl⟩
  have hd's : d'.size = l.length := hp.1.trans hds
  obtain ⟨ho', hb'⟩ := own_after (m := n) (os := os) (d := d') ho hd's
  have hperm : (d'.toList.map RowT.val).Perm l := by
    have h1 := hp.2.2
    rw [← hds] at h1
    have e1 : d'.extract 0 d.size = d' := by rw [hds, ← hd's]; simp
    have e2 : d.extract 0 d.size = d := by simp
    rw [e1, e2] at h1
    have := h1.map RowT.val
    rw [hdl] at this
    exact this
  have hsorted : (d'.toList.map RowT.val).Pairwise fun a b => rowLess ts b a = false := by
    rw [List.pairwise_map, List.pairwise_iff_getElem]
    intro i j hi hj hij
    have := hsd i j (Nat.zero_le _) hij (by simp at hj; omega)
    rw [ltOf_cfR] at this
    simp only [Array.length_toList] at hi hj
    rw [getElem!_pos d' i hi, getElem!_pos d' j hj] at this
    simpa using this
  rw [rsort_unique (hperm.trans hl) hsorted] at ho'
  exact ⟨rfl, ho', hb'⟩
end Go.Proofs.YtngfalbabgpnnaaGreat

namespace Go.Proofs.YtngfalbabgpnnaaGreat
open Go.RowKit

theorem rowsFrom_append (a b : List ByteArray) : ∀ d, rowsFrom d (a ++ b) = rowsFrom d a ++ rowsFrom (d + a.length) b := by
  induction a with
  | nil => intro d; simp [rowsFrom]
  | cons s q ih => intro d; simp only [List.cons_append, rowsFrom, ih, List.length_cons, List.append_assoc]; congr 3; omega
theorem rowsFrom_take {ts : List ByteArray} {i : Nat} {s : ByteArray} (h : ts[i]? = some s) : rowsFrom 0 (ts.take (i + 1)) = rowsFrom 0 (ts.take i) ++ (List.range (s.size + 1)).map fun a => (i, a) := by
  have hi := (List.getElem?_eq_some_iff.1 h).1
  rw [List.take_add_one, h, rowsFrom_append]
  congr 1
  simp only [Option.toList_some, rowsFrom, List.append_nil, List.length_take]
  rw [show min i ts.length = i by omega, Nat.zero_add]
theorem rowsFrom_le (ts : List ByteArray) (i : Nat) : (rowsFrom 0 (ts.take i)).length ≤ (allRows ts).length := by
  unfold allRows
  conv => rhs; rw [← List.take_append_drop i ts]
  rw [rowsFrom_append, List.length_append]; omega
theorem flat_len (l : List (Nat × Nat)) : (l.flatMap itemV).length = l.length * 2 := by
  induction l with
  | nil => rfl
  | cons a r ih => rw [List.flatMap_cons, List.length_append, ih]; simp [itemV]; omega

theorem info_row : (Tryz.prog.info? 76).map (fun i => (i.zero, i.size, i.bytes)) = some (some (.agg #[.int .i64 0, .int .i64 0]), 2, 16) := by kernel_rfl

set_option maxHeartbeats 4000000 in
set_option maxRecDepth 100000 in
theorem rSorted_calls (w : World) (v : Value) (ts : List ByteArray) (R : RowV w v 1 ts.length (strs ts)) (hn : ts.length ≤ 10) (h0 : ts ≠ []) (hs : ∀ s ∈ ts, s.size ≤ 40) (hN : (allRows ts).length ≤ 1000) :
    Calls Tryz.prog 51 #[v] w fun o w' => ∃ v', o = .returned v' ∧ w'.ownsRow w.heap.size 76 2 v' (rsort ts).length ((rsort ts).flatMap itemV) ∧ Below w.heap.size w w' := by
  obtain ⟨i0, hi, hz0, hz1, hz2⟩ := info_parts info_row
  have hlp : 0 < ts.length := List.length_pos_iff.2 h0
  obtain ⟨g, off, cap, hv, hg, hc⟩ := R.some (by omega)
  have R0 := hid R
  have hvb := hid (show ∀ x, v.ownBlock = some x → x < w.heap.size by subst hv; intro x hx; simp [Value.ownBlock] at hx; omega)
  subst hv
  have HR := fun w' (hb : Below w.heap.size w w') => rRight_calls w' _ ts (R.below hb) hn hs
  have hs' := hid hs
  have hc := hid hc
  clear R hs
  go_enter Tryz.func51, Tryz.ntmps51
  go_wp2_with fail
  refine (HR _ (by repeat (first | with_reducible exact Below.refl _ _ | with_reducible assumption | with_reducible refine bel_drewN ?_ | with_reducible refine bel_drew ?_ | with_reducible refine bel_alloc ?_ _ | with_reducible refine bel_set ?_ _ ?_ | with_reducible refine bel_trans ?_ (by with_reducible assumption) | ((try dsimp only); omega)))).mono ?_; rintro o w1 ⟨rfl, rfl⟩
  clear HR
  go_wp2
  generalize hW : World.alloc _ _ = W
  have zb : W.cell? ⟨w.heap.size, 0, none⟩ = some (.slice (some ⟨g, off, none⟩) ts.length cap) := by subst hW; go_simp
  have hbW : Below w.heap.size w W := by subst hW; exact (by repeat (first | with_reducible exact Below.refl _ _ | with_reducible assumption | with_reducible refine bel_drewN ?_ | with_reducible refine bel_drew ?_ | with_reducible refine bel_alloc ?_ _ | with_reducible refine bel_set ?_ _ ?_ | with_reducible refine bel_trans ?_ (by with_reducible assumption) | ((try dsimp only); omega)))
  have hsW : w.heap.size < W.heap.size := by subst hW; simp
  clear hW
  go_loopw [3, 12] (fun v3 c wr => ∃ i : Nat, i ≤ ts.length ∧ c = .int .i64 i ∧ Below W.heap.size W wr ∧ wr.ownsRow W.heap.size 76 2 v3 (rowsFrom 0 (ts.take i)).length ((rowsFrom 0 (ts.take i)).flatMap itemV)) (fun _ c _ => ts.length - (intOf c).toNat)
  case atStart => exact ⟨0, by omega, rfl, Below.refl _ _, World.ownsRow_nil _ _ _ _⟩
  case round =>
    obtain ⟨i, hin, rfl, hb, hoo⟩ := hrel
    by_cases hil : i = ts.length
    · subst hil
      rw [List.take_length] at hoo
      have hane : allRows ts ≠ [] := by
        cases ts with
        | nil => exact absurd rfl h0
        | cons s q => simp [allRows, rowsFrom]
      have hal : (allRows ts).length ≠ 0 := fun q => hane (List.length_eq_zero_iff.1 q)
      have hoo : wr.ownsRow W.heap.size 76 2 u3 (allRows ts).length ((allRows ts).flatMap itemV) := hoo
      rcases own_cases hoo with ⟨_, q, _⟩ | ⟨g3, cap3, rfl, hg3, _, _, _⟩
      · exact absurd q hal
      have HS := rSortFunc_calls wr W.heap.size w.heap.size g3 cap3 _ ts (allRows ts) hane hoo (((bcell hb).1 _ _ (by omega)).trans zb) (by omega) ((R0.out.below hbW).below hb) (by simp [Value.ownBlock]; omega) (by omega) (fun s h => by have := hs'.out s h; omega) (List.Perm.refl _)
      have hlen := hid (rsort_length ts)
      clear hoo
      have hal2 := hid hal
      clear hal hane
      generalize hnn : (allRows ts).length = nn at *
      have hnn := hid hnn
      go_wp2_with fail
      refine HS.mono ?_; rintro o w2 ⟨rfl, ho2, hb2⟩
      clear HS
      go_wp2
      go_ret
      refine ⟨_, rfl, ?_, ?_⟩
      · rw [hlen.out]
        exact own_mono ho2 (by omega)
      · exact bel_trans hbW ((hb.mono (Nat.le_refl _)).trans (hb2.mono (Nat.le_refl _)))
    · have hlt : i < ts.length := by omega
      have hlt' : (i : Int) < (ts.length : Nat) := by omega
      obtain ⟨s, hsi⟩ : ∃ s, ts[i]? = some s := ⟨ts[i], List.getElem?_eq_getElem hlt⟩
      have z1 : wr.cell? ⟨g, off + i, none⟩ = some (.string s) := ((bcell hb).1 g _ (by omega)).trans (((bcell hbW).1 g _ hg).trans (hc.out i _ (strs_at hsi)))
      have hss := hs'.out s (List.mem_of_getElem? hsi)
      have ws : IntKind.i64.wrap ((s.size : Int) + 1) = (s.size : Int) + 1 := by rw [show (s.size : Int) + 1 = ((s.size + 1 : Nat) : Int) by omega]; exact i64_nat (by omega)
      have wi : IntKind.i64.wrap ((i : Int) + 1) = (i : Int) + 1 := by rw [show (i : Int) + 1 = ((i + 1 : Nat) : Int) by omega]; exact i64_nat (by omega)
      have etk := hid (rowsFrom_take hsi)
      have hbd := hid (rowsFrom_le ts (i + 1))
      clear hsi
      have hoo := hid hoo
      generalize hrf : rowsFrom 0 (ts.take i) = rf at *
      have hrf := hid hrf
      go_wp2
      go_loopw [3, 20] (fun v3 c wr2 => ∃ j : Nat, j ≤ s.size + 1 ∧ c = .int .i64 j ∧ Below W.heap.size W wr2 ∧ wr2.ownsRow W.heap.size 76 2 v3 (rf.length + j) ((rf ++ (List.range j).map fun a => (i, a)).flatMap itemV)) (fun _ c _ => s.size + 1 - (intOf c).toNat)
      case atStart => exact ⟨0, by omega, rfl, hb, by simpa using hoo.out⟩
      case round =>
        obtain ⟨j, hjn, rfl, hb2, ho2⟩ := hrel
        have hv := ho2.lt
        by_cases hjl : j = s.size + 1
        · have ejl : ¬ ((j : Int) < (s.size : Int) + 1) := by omega
          have fin := hid (show wr.ownsRow W.heap.size 76 2 u3 (rowsFrom 0 (ts.take (i + 1))).length ((rowsFrom 0 (ts.take (i + 1))).flatMap itemV) by
            rw [etk.out, ← hjl]; simpa using ho2)
          clear ho2
          go_wp2
          go_roundw
          case rel => exact ⟨i + 1, by omega, by simp, hb2, fin.out⟩
          case measure => simp [intOf]; omega
        · have hjlt : (j : Int) < (s.size : Int) + 1 := by omega
          have hs3 := hb2.size
          have wj : IntKind.i64.wrap ((j : Int) + 1) = (j : Int) + 1 := by rw [show (j : Int) + 1 = ((j + 1 : Nat) : Int) by omega]; exact i64_nat (by omega)
          have ejk := hid (show (rf ++ (List.range j).map fun a => (i, a)).flatMap itemV ++ [.int .i64 (i : Int), .int .i64 (j : Int)] = (rf ++ (List.range (j + 1)).map fun a => (i, a)).flatMap itemV by
            rw [List.range_succ, List.map_append, ← List.append_assoc, List.flatMap_append (ys := List.map _ [j])]; rfl)
          have hbl : rf.length + j + 1 ≤ 1000 := by
            have h1 := hbd.out
            rw [etk.out, List.length_append, List.length_map, List.length_range] at h1
            omega
          generalize (rf ++ (List.range j).map fun a => (i, a)).flatMap itemV = X at ho2 ejk
          have ho2 := hid ho2
          go_wp2_with (at_builtin; refine wpList_append_own _ rfl (.tmp 23) (.tmp 27) 71 rfl W.heap.size 76 i0 (.agg #[.int .i64 0, .int .i64 0]) 2 16 Tryz.underlying71 hi hz0 hz1 hz2 rfl (by decide) u3 (rf.length + j) _ rfl (ho2.out.alloc _) ⟨wr.heap.size, 0, none⟩ 1 1 [.int .i64 i, .int .i64 j] rfl rfl ?c1 ?c2 (by unfold maxLen; omega) (by omega) (by simp; omega) ?_)
          case c1 => intro j u hj; match j, hj with | 0, hj => (simp at hj; subst hj; simp only [Addr.add, if_true]; go_simp) | 1, hj => (simp at hj; subst hj; simp only [Addr.add, if_true]; go_simp)
          case c2 => intro u hu; simp at hu; rcases hu with rfl | rfl <;> rfl
          intro v' w3 ho3 hg3 _
          have hb4 := below_grown (bel_alloc hb2 _) (ho2.out.alloc _) hg3
          rw [ejk.out] at ho3
          clear hg3
          go_wp2
          go_roundw
          case rel => exact ⟨j + 1, by omega, by simp, hb4, by rw [← Nat.add_assoc]; exact ho3⟩
          case measure => simp [intOf]; omega
end Go.Proofs.YtngfalbabgpnnaaGreat

namespace Go.Proofs.YtngfalbabgpnnaaGreat
open Go.RowKit

set_option maxHeartbeats 1000000 in
theorem symOf_calls (w : World) (b : Nat) (h : b < 256) : Calls Tryz.prog 104 #[.int .u8 (b : Int)] w fun o w' => o = .returned (.int .i64 ((b + 1 : Nat) : Int)) ∧ w' = w := by
  have w1 : IntKind.i64.wrap (b : Int) = b := i64_nat (by omega)
  have w2 : IntKind.i64.wrap ((b : Int) + 1) = (b : Int) + 1 := by rw [show (b : Int) + 1 = ((b + 1 : Nat) : Int) by omega]; exact i64_nat (by omega)
  rw [Int.natCast_add]
  go_enter Tryz.func104, Tryz.ntmps104
  go_wp2
  go_ret
  exact ⟨rfl, rfl⟩

set_option maxHeartbeats 4000000 in
set_option maxRecDepth 100000 in
theorem rSymbols_calls (w : World) (v : Value) (ts : List ByteArray) (R : RowV w v 1 ts.length (strs ts)) (hn : ts.length ≤ 10) (h0 : ts ≠ []) (hs : ∀ s ∈ ts, s.size ≤ 40) (hN : (allRows ts).length ≤ 1000) :
    Calls Tryz.prog 57 #[v] w fun o w' => ∃ v', o = .returned v' ∧ w'.ownsRow w.heap.size 3 1 v' (symsOf ts).length ((symsOf ts).map fun x : Nat => .int .i64 (x : Int)) ∧ Below w.heap.size w w' := by
  obtain ⟨i0, hi, hz0, hz1, hz2⟩ := info_parts info_int
  have HS := rSorted_calls w v ts R hn h0 hs hN
  have hlp : 0 < ts.length := List.length_pos_iff.2 h0
  obtain ⟨g, off, cap, hv, hg, hc⟩ := R.some (by omega)
  subst hv
  have hs' := hid hs
  have hc := hid hc
  have hlen : (rsort ts).length ≤ 1000 := by rw [rsort_length]; exact hN
  have hsl : (symsOf ts).length = (rsort ts).length := by simp [symsOf]
  clear R hs
  go_enter Tryz.func57, Tryz.ntmps57
  go_wp2_with fail
  refine HS.mono ?_; rintro o w1 ⟨v', rfl, ho, hb1⟩
  clear HS
  rcases own_cases ho with ⟨_, q, _⟩ | ⟨gr, capr, rfl, hgr, hgrs, _, hcr⟩
  · have : allRows ts ≠ [] := by
      cases ts with
      | nil => exact absurd rfl h0
      | cons s q => simp [allRows, rowsFrom]
    have h2 := rsort_length ts
    exact absurd (List.length_eq_zero_iff.1 (h2 ▸ q)) this
  clear ho
  have hcr := hid hcr
  have hsl := hid hsl
  generalize hll : (rsort ts).length = n at *
  have hll := hid hll
  go_wp2
  go_loopw [3, 10] (fun v3 c wr => ∃ i : Nat, i ≤ n ∧ c = .int .i64 i ∧ Below w1.heap.size w1 wr ∧ wr.ownsRow w1.heap.size 3 1 v3 i (((symsOf ts).take i).map fun x : Nat => .int .i64 (x : Int))) (fun _ c _ => n - (intOf c).toNat)
  case atStart => exact ⟨0, by omega, rfl, Below.refl _ _, World.ownsRow_nil _ _ _ _⟩
  case round =>
    obtain ⟨i, hin, rfl, hb, hoo⟩ := hrel
    by_cases hil : i = n
    · have fin := hid (show wr.ownsRow w.heap.size 3 1 u3 (symsOf ts).length ((symsOf ts).map fun x : Nat => .int .i64 (x : Int)) by
        rw [List.take_of_length_le (by rw [hsl.out]; omega)] at hoo
        rw [hsl.out]
        have := own_mono hoo hb1.size
        rw [hil] at this
        exact this)
      clear hoo
      subst hil
      go_wp2
      go_ret
      exact ⟨_, rfl, fin.out, bel_trans hb1 hb⟩
    · have hlt : i < n := by omega
      have hlt' : (i : Int) < (n : Nat) := by omega
      obtain ⟨⟨d, a⟩, hri⟩ : ∃ r, (rsort ts)[i]? = some r := ⟨(rsort ts)[i]'(by rw [hll.out]; exact hlt), List.getElem?_eq_getElem _⟩
      obtain ⟨f1, f2⟩ := flat2 hri
      have z1 : wr.cell? ⟨gr, i * 2, none⟩ = some (.int .i64 d) := ((bcell hb).1 gr _ hgrs).trans (hcr.out _ _ f1)
      have z2 : wr.cell? ⟨gr, i * 2 + 1, none⟩ = some (.int .i64 a) := ((bcell hb).1 gr _ hgrs).trans (hcr.out _ _ f2)
      obtain ⟨ok1, ok2⟩ := rsort_ok (List.mem_of_getElem? hri)
      simp only at ok1 ok2
      have es : (symsOf ts)[i]? = some (symAt ts (d, a)) := by unfold symsOf; rw [List.getElem?_map, hri]; rfl
      have hv3 := hoo.lt
      have hgr2 : gr < wr.heap.size := Nat.lt_of_lt_of_le hgrs hb.size
      have hgg2 : g < wr.heap.size := by have := hb.size; have := hb1.size; omega
      have hs3 := hb.size
      have wi : IntKind.i64.wrap ((i : Int) + 1) = (i : Int) + 1 := by rw [show (i : Int) + 1 = ((i + 1 : Nat) : Int) by omega]; exact i64_nat (by omega)
      have etk := hid (show (((symsOf ts).take i).map fun x : Nat => Value.int .i64 (x : Int)) ++ [.int .i64 ((symAt ts (d, a) : Nat) : Int)] = ((symsOf ts).take (i + 1)).map fun x : Nat => Value.int .i64 (x : Int) by
        rw [List.take_add_one, es, List.map_append]; rfl)
      generalize ((symsOf ts).take i).map (fun x : Nat => Value.int .i64 (x : Int)) = X at hoo etk
      have hoo := hid hoo
      obtain ⟨s, hsd⟩ : ∃ s, ts[d]? = some s := ⟨ts[d], List.getElem?_eq_getElem ok1⟩
      have hgd : ts.getD d ByteArray.empty = s := by rw [List.getD_eq_getElem?_getD, hsd]; rfl
      rw [hgd] at ok2
      have z3 : wr.cell? ⟨g, off + d, none⟩ = some (.string s) := ((bcell hb).1 g _ (by have := hb1.size; omega)).trans (((bcell hb1).1 g _ hg).trans (hc.out d _ (strs_at hsd)))
      have hdn : (d : Int) < (ts.length : Nat) := by omega
      have hss := hs'.out s (List.mem_of_getElem? hsd)
      clear f1 f2 hri es hsd
      by_cases ha : a = 0
      · have eS : symAt ts (d, a) = 0 := by simp [symAt, ha]
        rw [eS] at etk
        subst ha
        clear eS hgd
        go_wp2_with (at_builtin; refine wpList_append_own _ rfl (.tmp 27) (.tmp 29) 50 rfl w1.heap.size 3 i0 (.int .i64 0) 1 8 Tryz.underlying50 hi hz0 hz1 hz2 rfl (by decide) u3 i _ rfl ((hoo.out.alloc _).alloc _) ⟨wr.heap.size + 1, 0, none⟩ 1 1 [.int .i64 0] rfl rfl ?c1 ?c2 (by unfold maxLen; omega) (by omega) (by simp; omega) ?_)
        case c1 => intro j u hj; match j, hj with | 0, hj => (simp at hj; subst hj; simp only [Addr.add, if_true]; go_simp)
        case c2 => intro u hu; simp at hu; subst hu; rfl
        intro v' w3 ho3 hg3 _
        have hb4 := below_grown (bel_alloc (bel_alloc hb _) _) ((hoo.out.alloc _).alloc _) hg3
        have etk := etk.out
        simp only [Int.natCast_zero] at etk
        rw [etk] at ho3
        clear hg3
        go_wp2
        go_roundw
        case rel => exact ⟨i + 1, by omega, by simp, hb4, ho3⟩
        case measure => simp [intOf]; omega
      · obtain ⟨k, rfl⟩ : ∃ k, a = k + 1 := ⟨a - 1, by omega⟩
        have hp : k < s.size := by omega
        have hpk : (k : Int) < (s.size : Nat) := by omega
        have wk : IntKind.i64.wrap (k : Int) = k := i64_nat (by omega)
        have eS : symAt ts (d, k + 1) = (s[k]).toNat + 1 := by
          simp only [symAt, if_neg ha, hgd]
          congr 1
          have : (bl s)[k]? = some s[k] := by
            rw [List.getElem?_eq_getElem (by rw [bl_length]; exact hp)]; rfl
          rw [Nat.add_sub_cancel, List.getD_eq_getElem?_getD, this]; rfl
        have hby := (s[k]).toNat_lt
        have HO := fun w' => symOf_calls w' (s[k]).toNat (by omega)
        rw [eS] at etk
        clear eS hgd
        go_wp2
        generalize hW : wr.alloc _ = W
        have hbW : Below wr.heap.size wr W := by subst hW; exact (by repeat (first | with_reducible exact Below.refl _ _ | with_reducible assumption | with_reducible refine bel_drewN ?_ | with_reducible refine bel_drew ?_ | with_reducible refine bel_alloc ?_ _ | with_reducible refine bel_set ?_ _ ?_ | with_reducible refine bel_trans ?_ (by with_reducible assumption) | ((try dsimp only); omega)))
        have y0 : W.cell? ⟨wr.heap.size, 0, none⟩ = some (.int .i64 d) := by subst hW; go_simp
        have y1 : W.cell? ⟨wr.heap.size, 1, none⟩ = some (.int .i64 ((k : Int) + 1)) := by subst hW; go_simp
        have y3 : W.cell? ⟨g, off + d, none⟩ = some (.string s) := by subst hW; go_simp
        have ho2 := hid (own_below hoo.out hbW)
        have hbw1 := bel_trans hb hbW
        clear hW z1 z2 z3
        refine wp_region_can (fun w' => ∀ x, w'.cell? x = W.cell? x) [(0, false), (1, false), (2, false), (3, false), (4, false), (5, false), (6, false), (7, false), (8, false), (9, true), (10, false)] (by kernel_rfl) (by kernel_rfl) (fun _ d _ _ _ h => by cases d <;> exact h) ?_ ?_
        · exact fun _ => rfl
        repeat ((with_reducible refine wpCan_isq ?_); first | (apply wpCan_read rfl (by rfl); (· intro w' hS; go_simp; with_reducible rfl); (· try simp only [Act.put, List.setIfInBounds_toArray, List.set_cons_zero, List.set_cons_succ]; with_reducible rfl)) | (apply wpCan_no rfl (by rfl); (· try simp only [Act.put, List.setIfInBounds_toArray, List.set_cons_zero, List.set_cons_succ]; with_reducible rfl)))
        (with_reducible refine wpCan_isl ?_); apply wpCan_call (HO _) rfl (by rfl); (· go_simp); rintro o a1 ⟨rfl, rfl⟩; apply wpCan_told; (· exact fun _ => rfl); (· try simp only [Act.put, List.setIfInBounds_toArray, List.set_cons_zero, List.set_cons_succ]; with_reducible rfl)
        repeat ((with_reducible refine wpCan_isq ?_); first | (apply wpCan_read rfl (by rfl); (· intro w' hS; go_simp; with_reducible rfl); (· try simp only [Act.put, List.setIfInBounds_toArray, List.set_cons_zero, List.set_cons_succ]; with_reducible rfl)) | (apply wpCan_no rfl (by rfl); (· try simp only [Act.put, List.setIfInBounds_toArray, List.set_cons_zero, List.set_cons_succ]; with_reducible rfl)))
        refine wpCan_nil ?_
        have ho3 := own_below ho2.out (bel_drew (Below.refl _ W))
        have ho3 := hid ho3
        have hsW := hbW.size
        have hbd := bel_drew hbw1
        go_wp2_with (at_builtin; refine wpList_append_own _ rfl (.tmp 27) (.tmp 29) 50 rfl w1.heap.size 3 i0 (.int .i64 0) 1 8 Tryz.underlying50 hi hz0 hz1 hz2 rfl (by decide) u3 i _ rfl (ho3.out.alloc _) ⟨W.heap.size, 0, none⟩ 1 1 [.int .i64 (((s[k]).toNat : Int) + 1)] rfl rfl ?c1 ?c2 (by unfold maxLen; omega) (by omega) (by simp; omega) ?_)
        case c1 => intro j u hj; match j, hj with | 0, hj => (simp at hj; subst hj; simp only [Addr.add, if_true]; go_simp)
        case c2 => intro u hu; simp at hu; subst hu; rfl
        intro v' w3 ho4 hg3 _
        have hb4 := below_grown (bel_alloc hbd _) (ho3.out.alloc _) hg3
        have etk := etk.out
        simp only [Int.natCast_add, Int.natCast_one] at etk
        rw [etk] at ho4
        clear hg3
        go_wp2
        go_roundw
        case rel => exact ⟨i + 1, by omega, by simp, hb4, ho4⟩
        case measure => simp [intOf]; omega
end Go.Proofs.YtngfalbabgpnnaaGreat

namespace Go.Proofs.YtngfalbabgpnnaaGreat
open Go.RowKit

/-- A document: its number, its text. -/
abbrev Doc := Nat × ByteArray
def docV (x : Doc) : List Value := [.int .i64 (x.1 : Int), .string x.2]
def textsOf (l : List Doc) : List ByteArray := l.map (·.2)
def tableOf (l : List Doc) : List (Nat × Nat) := l.map fun x => (x.1, x.2.size)
def marksOf (l : List Doc) (rate : Nat) : List Bool := (rsort (textsOf l)).map fun r => r.2 % rate == 0
def spotOf (l : List Doc) (r : Nat × Nat) : Nat × Nat := ((l.getD r.1 (0, ByteArray.empty)).1, r.2)
def spotsTo (l : List Doc) (rate : Nat) (rs : List (Nat × Nat)) : List (Nat × Nat) := (rs.filter fun r => r.2 % rate == 0).map (spotOf l)
def spotsOf (l : List Doc) (rate : Nat) : List (Nat × Nat) := spotsTo l rate (rsort (textsOf l))

theorem doc2 {l : List Doc} {i : Nat} {x : Doc} (h : l[i]? = some x) : (l.flatMap docV)[i * 2]? = some (.int .i64 (x.1 : Int)) ∧ (l.flatMap docV)[i * 2 + 1]? = some (.string x.2) := by
  induction l generalizing i with
  | nil => simp at h
  | cons a r ih =>
    cases i with
    | zero => simp at h; subst h; simp [docV]
    | succ i =>
      have := ih (i := i) (by simpa using h)
      rw [List.flatMap_cons]
      have e1 : (i + 1) * 2 = 2 + i * 2 := by omega
      have e2 : 2 + i * 2 + 1 = 2 + (i * 2 + 1) := by omega
      rw [e1, e2]
      constructor
      · rw [List.getElem?_append_right (by simp [docV])]; simpa [docV] using this.1
      · rw [List.getElem?_append_right (by simp [docV])]
        rw [show 2 + (i * 2 + 1) - (docV a).length = i * 2 + 1 by simp [docV]]
        exact this.2

theorem own_other {w w' : World} {base e1 e2 s1 s2 : Nat} {v1 v2 : Value} {n1 n2 : Nat} {xs1 xs2 : List Value} (h1 : w.ownsRow base e1 s1 v1 n1 xs1) (h2 : w.ownsRow base e2 s2 v2 n2 xs2) (hne : e1 ≠ e2) (g : w.grownBy w' v2.ownBlock) : w'.ownsRow base e1 s1 v1 n1 xs1 := by
  refine h1.kept g ?_
  obtain ⟨_, q1 | ⟨g1, c1, cur1, rfl, _, hg1, _⟩⟩ := h1
  · exact Or.inl (by rw [q1.1]; rfl)
  · obtain ⟨_, q2 | ⟨g2, c2, cur2, rfl, _, hg2, _⟩⟩ := h2
    · exact Or.inr (by rw [q2.1]; simp [Value.ownBlock])
    · refine Or.inr fun q => ?_
      simp only [Value.ownBlock, Option.some.injEq] at q
      subst q
      rw [hg1] at hg2
      simp only [Option.some.injEq, Obj.cells.injEq] at hg2
      exact hne hg2.2.1
end Go.Proofs.YtngfalbabgpnnaaGreat
