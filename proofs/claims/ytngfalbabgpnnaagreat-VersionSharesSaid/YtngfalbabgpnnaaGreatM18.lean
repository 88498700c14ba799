/-
  The walk of the reference: Sorted.
-/
import Derived.Test.YtngfalbabgpnnaaGreatM16
import Derived.Test.YtngfalbabgpnnaaGreatM17
import Derived.Laws.AppendOwnNone
set_option linter.unusedVariables false
set_option linter.unusedSimpArgs false
namespace Go.Proofs.YtngfalbabgpnnaaGreat
open Go.RowKit

theorem itemV_one (l : List (Nat × Nat)) : ∀ u ∈ l.flatMap itemV, u.oneCell' = true := by
  intro u hu
  obtain ⟨x, _, hx⟩ := List.mem_flatMap.1 hu
  simp only [itemV, List.mem_cons, List.mem_nil_iff, or_false] at hx
  rcases hx with rfl | rfl <;> rfl
theorem wp_append_none {P : Program} {w : World} {o : Oper} {a : Act} {K : Act → World → Prop} {Q : Exit → Act → World → Prop} (s x : Operand) (t : TypeId)
    (ho : o.op = .call { callee := .builtin .append, args := #[s, x], argTypes := #[t, t] })
    (base : Nat) (e : TypeId) (i : TypeInfo) (size : Nat) (ht : P.underlying t = some (.slice e)) (hi : P.info? e = some i)
    (v : Value) (n : Nat) (xs : List Value) (hs : a.eval s = v) (hown : w.ownsRow base e size v n xs) (hx : a.eval x = .slice none 0 0)
    (h : K (a.put o.dst v) w) : o.wp P a w K Q := by
  have hrun := run_append_owned_none (P := P) (w := w) base t o.type e i size ht hi v n xs hown
  unfold Oper.wp
  simp [execOp, ho, resolve, invoke, builtin, hs, hx, hrun, Result.andThen]
  exact h

theorem flat_take {L : List (Nat × Nat)} {k m : Nat} {u : Value} (h : ((L.take k).flatMap itemV)[m]? = some u) : (L.flatMap itemV)[m]? = some u := by
  have e : L.flatMap itemV = (L.take k).flatMap itemV ++ (L.drop k).flatMap itemV := by rw [← List.flatMap_append, List.take_append_drop]
  rw [e, List.getElem?_append_left (List.getElem?_eq_some_iff.1 h).1]; exact h
theorem flat_drop {L : List (Nat × Nat)} {k m : Nat} {u : Value} (hk : k ≤ L.length) (h : ((L.drop k).flatMap itemV)[m]? = some u) : (L.flatMap itemV)[k * 2 + m]? = some u := by
  have e : L.flatMap itemV = (L.take k).flatMap itemV ++ (L.drop k).flatMap itemV := by rw [← List.flatMap_append, List.take_append_drop]
  have e2 : ((L.take k).flatMap itemV).length = k * 2 := by rw [flat_len, List.length_take, Nat.min_eq_left hk]
  rw [e, List.getElem?_append_right (by omega), e2, Nat.add_sub_cancel_left]; exact h

/-- Where a row is put. -/
def rplace (ts : List ByteArray) (L : List (Nat × Nat)) (r : Nat × Nat) : Nat := (L.takeWhile fun x => rowLess ts x r).length
theorem rput_at (ts : List ByteArray) (L : List (Nat × Nat)) (r : Nat × Nat) (k : Nat) (h1 : k ≤ L.length) (h2 : ∀ j x, j < k → L[j]? = some x → rowLess ts x r = true) (h3 : ∀ x, L[k]? = some x → rowLess ts x r = false) : rput ts L r = L.take k ++ r :: L.drop k := by
  have e : L = L.take k ++ L.drop k := (List.take_append_drop k L).symm
  have a1 : ∀ x ∈ L.take k, rowLess ts x r = true := fun x hx => by
    obtain ⟨j, hj⟩ := List.mem_iff_getElem?.1 hx
    rw [List.getElem?_take] at hj
    split at hj
    · exact h2 j x (by assumption) hj
    · cases hj
  have tw : L.takeWhile (fun x => rowLess ts x r) = L.take k ∧ L.dropWhile (fun x => rowLess ts x r) = L.drop k := by
    have h4 : (L.drop k).takeWhile (fun x => rowLess ts x r) = [] ∧ (L.drop k).dropWhile (fun x => rowLess ts x r) = L.drop k := by
      cases hd : L.drop k with
      | nil => simp
      | cons y q =>
        have : L[k]? = some y := by rw [← List.head?_drop, hd]; rfl
        have := h3 y this
        simp [this]
    constructor
    · conv => lhs; rw [e]
      rw [List.takeWhile_append_of_pos a1, h4.1, List.append_nil]
    · conv => lhs; rw [e]
      rw [List.dropWhile_append_of_pos a1, h4.2]
  unfold rput
  rw [tw.1, tw.2]

set_option maxHeartbeats 8000000 in
set_option maxRecDepth 100000 in
theorem fSorted_calls (w : World) (v : Value) (ts : List ByteArray) (R : RowV w v 1 ts.length (strs ts)) (hn : ts.length ≤ 10) (h0 : ts ≠ []) (hs : ∀ s ∈ ts, s.size ≤ 40) (hN : (allRows ts).length ≤ 1000) :
    Calls Tryz.prog 41 #[v] w fun o w' => ∃ v', o = .returned v' ∧ w'.ownsRow w.heap.size 76 2 v' (rsort ts).length ((rsort ts).flatMap itemV) ∧ Below w.heap.size w w' := by
  obtain ⟨i0, hi, hz0, hz1, hz2⟩ := info_parts info_row
  have hlp : 0 < ts.length := List.length_pos_iff.2 h0
  obtain ⟨g, off, cap, hv, hg, hc⟩ := R.some (by omega)
  have R0 := hid R
  subst hv
  have HR := fRight_calls w _ ts R hn h0 hs
  have hs' := hid hs
  have hc := hid hc
  clear R hs
  go_enter Tryz.func41, Tryz.ntmps41
  go_wp2_with fail
  refine HR.mono ?_; rintro o w1 ⟨rfl, rfl⟩
  clear HR
  go_wp2
  go_loopw [3, 4] (fun v3 c wr => ∃ i : Nat, i ≤ ts.length ∧ c = .int .i64 i ∧ Below w1.heap.size w1 wr ∧ Hid (wr.ownsRow w1.heap.size 76 2 v3 ((rowsFrom 0 (ts.take i)).foldl (rput ts) []).length (((rowsFrom 0 (ts.take i)).foldl (rput ts) []).flatMap itemV))) (fun _ c _ => ts.length - (intOf c).toNat)
  case atStart => exact ⟨0, by omega, rfl, Below.refl _ _, hid (World.ownsRow_nil _ _ _ _)⟩
  case round =>
    obtain ⟨i, hin, rfl, hb, hoo⟩ := hrel
    by_cases hil : i = ts.length
    · subst hil
      rw [List.take_length] at hoo
      have hoo : Hid (wr.ownsRow w1.heap.size 76 2 u3 (rsort ts).length ((rsort ts).flatMap itemV)) := hoo
      go_wp2
      go_ret
      exact ⟨_, rfl, hoo.out, hb⟩
    · have hlt : i < ts.length := by omega
      have hlt' : (i : Int) < (ts.length : Nat) := by omega
      obtain ⟨s, hsi⟩ : ∃ s, ts[i]? = some s := ⟨ts[i], List.getElem?_eq_getElem hlt⟩
      have hss := hs'.out s (List.mem_of_getElem? hsi)
      have wi : IntKind.i64.wrap ((i : Int) + 1) = (i : Int) + 1 := by rw [show (i : Int) + 1 = ((i + 1 : Nat) : Int) by omega]; exact i64_nat (by omega)
      have etk := hid (show (rowsFrom 0 (ts.take (i + 1))).foldl (rput ts) [] = (((List.range (s.size + 1)).map fun a => (i, a))).foldl (rput ts) ((rowsFrom 0 (ts.take i)).foldl (rput ts) []) by rw [rowsFrom_take hsi, List.foldl_append])
      have hbd := hid (show (rowsFrom 0 (ts.take i)).length + (s.size + 1) ≤ 1000 by
        have := rowsFrom_le ts (i + 1)
        rw [rowsFrom_take hsi, List.length_append, List.length_map, List.length_range] at this
        omega)
      have hLr := hid (show ∀ x ∈ (rowsFrom 0 (ts.take i)).foldl (rput ts) [], rowOk ts x from fun x hx => by
        have h1 := (foldl_rput_perm ts (rowsFrom 0 (ts.take i)) []).mem_iff.1 hx
        rw [List.append_nil] at h1
        refine rowOk_iff.1 ?_
        have e : allRows ts = rowsFrom 0 (ts.take i) ++ rowsFrom (0 + (ts.take i).length) (ts.drop i) := by
          rw [← rowsFrom_append, List.take_append_drop]; rfl
        rw [e]
        exact List.mem_append_left _ h1)
      have hLl := hid (show ((rowsFrom 0 (ts.take i)).foldl (rput ts) []).length = (rowsFrom 0 (ts.take i)).length by
        have := (foldl_rput_perm ts (rowsFrom 0 (ts.take i)) []).length_eq
        simpa using this)
      have hgd : ts.getD i ByteArray.empty = s := by rw [List.getD_eq_getElem?_getD, hsi]; rfl
      have hbs := hb.size
      have hci := hid (hc.out i _ (strs_at hsi))
      clear hsi
      generalize (rowsFrom 0 (ts.take i)).foldl (rput ts) [] = L0 at hoo etk hLr hLl
      generalize (rowsFrom 0 (ts.take i)).length = n0 at hbd hLl
      go_wp2
      go_loopw [3, 5] (fun v3 c wr2 => ∃ j : Nat, j ≤ s.size + 1 ∧ c = .int .i64 j ∧ Below w1.heap.size w1 wr2 ∧ Hid (wr2.ownsRow w1.heap.size 76 2 v3 ((((List.range j).map fun a => (i, a))).foldl (rput ts) L0).length (((((List.range j).map fun a => (i, a))).foldl (rput ts) L0).flatMap itemV))) (fun _ c _ => s.size + 1 - (intOf c).toNat)
      case atStart => exact ⟨0, by omega, rfl, hb, hoo⟩
      case round =>
        obtain ⟨j, hjn, rfl, hb2, ho2⟩ := hrel
        have hb2s := hb2.size
        have z1 : wr.cell? ⟨g, off + i, none⟩ = some (.string s) := ((bcell hb2).1 g _ hg).trans hci.out
        by_cases hjl : j = s.size + 1
        · have ejl : ¬ ((j : Int) ≤ (s.size : Int)) := by omega
          have fin := hid (show wr.ownsRow w1.heap.size 76 2 u3 ((rowsFrom 0 (ts.take (i + 1))).foldl (rput ts) []).length (((rowsFrom 0 (ts.take (i + 1))).foldl (rput ts) []).flatMap itemV) by
            rw [etk.out, ← hjl]; exact ho2.out)
          clear ho2
          go_wp2
          go_roundw
          case rel => exact ⟨i + 1, by omega, by simp, hb2, fin⟩
          case measure => simp [intOf]; omega
        · have hjlt : (j : Int) ≤ (s.size : Int) := by omega
          have wj : IntKind.i64.wrap ((j : Int) + 1) = (j : Int) + 1 := by rw [show (j : Int) + 1 = ((j + 1 : Nat) : Int) by omega]; exact i64_nat (by omega)
          have ejk := hid (show (((List.range (j + 1)).map fun a => (i, a))).foldl (rput ts) L0 = rput ts ((((List.range j).map fun a => (i, a))).foldl (rput ts) L0) (i, j) by
            rw [List.range_succ, List.map_append, List.foldl_append]; rfl)
          have hLr2 := hid (show ∀ x ∈ (((List.range j).map fun a => (i, a))).foldl (rput ts) L0, rowOk ts x from fun x hx => by
            rcases List.mem_append.1 ((foldl_rput_perm ts _ L0).mem_iff.1 hx) with h | h
            · obtain ⟨a, ha, rfl⟩ := List.mem_map.1 h
              have := List.mem_range.1 ha
              exact ⟨hlt, by rw [hgd]; (try dsimp only); omega⟩
            · exact hLr.out x h)
          have hrok : rowOk ts (i, j) := ⟨hlt, by rw [hgd]; (try dsimp only); omega⟩
          have hLl2 := hid (show ((((List.range j).map fun a => (i, a))).foldl (rput ts) L0).length + 1 ≤ 1000 by
            have h1 := (foldl_rput_perm ts ((List.range j).map fun a => (i, a)) L0).length_eq
            rw [h1, List.length_append, List.length_map, List.length_range, hLl.out]
            have := hbd.out
            omega)
          generalize (((List.range j).map fun a => (i, a))).foldl (rput ts) L0 = L at ho2 ejk hLr2 hLl2
          have hrok := hid hrok
          rcases own_cases ho2.out with ⟨rfl, q, _⟩ | ⟨g3, c3, rfl, hg3, hg3s, hcap3, hc3⟩
          · have hL0 : L = [] := List.length_eq_zero_iff.1 q
            subst hL0
            have hput : rput ts [] (i, j) = [(i, j)] := rfl
            rw [hput] at ejk
            clear q hput
            have Hbx0 := hb2
            go_wp2
            generalize hWA : wr.alloc _ = WA
            have hbA : Below wr.heap.size wr WA := by subst hWA; exact (by repeat (first | with_reducible exact Below.refl _ _ | with_reducible assumption | with_reducible refine bel_drewN ?_ | with_reducible refine bel_drew ?_ | with_reducible refine bel_alloc ?_ _ | with_reducible refine bel_set ?_ _ ?_ | with_reducible refine bel_trans ?_ (by with_reducible assumption) | ((try dsimp only); omega)))
            have a0 : WA.cell? ⟨wr.heap.size, 0, none⟩ = some (.int .i64 i) := by subst hWA; go_simp
            have a1' : WA.cell? ⟨wr.heap.size, 1, none⟩ = some (.int .i64 j) := by subst hWA; go_simp
            have hAs : wr.heap.size < WA.heap.size := by subst hWA; simp
            have Hb2A := bel_trans hb2 hbA
            clear hWA z1 ho2
            generalize hBq : wr.heap.size = B at *
            have hBq := hid hBq
            go_loopw [7] (fun c wr3 => c = .int .i64 0 ∧ Below WA.heap.size WA wr3) (fun c _ => 0)
            case atStart => exact ⟨rfl, Below.refl _ _⟩
            case round =>
              obtain ⟨rfl, hb3⟩ := hrel
              have b0 : wr.cell? ⟨B, 0, none⟩ = some (.int .i64 i) := ((bcell hb3).1 B _ hAs).trans a0
              have b1 : wr.cell? ⟨B, 1, none⟩ = some (.int .i64 j) := ((bcell hb3).1 B _ hAs).trans a1'
              have hAr : B < wr.heap.size := Nat.lt_of_lt_of_le hAs hb3.size
              have Hb3 := bel_trans Hb2A hb3
              go_wp2
              refine wp_region_can (fun w' => w'.cell? ⟨B, 0, none⟩ = some (.int .i64 i) ∧ w'.cell? ⟨B, 1, none⟩ = some (.int .i64 j)) [(0, false), (1, false), (2, false), (3, false), (4, false), (5, false), (6, false), (7, false), (8, false), (9, false), (10, false), (11, true), (12, false)] (by kernel_rfl) (by kernel_rfl) (fun _ d _ _ _ h => by cases d <;> exact h) ?_ ?_
              · exact ⟨b0, b1⟩
              repeat ((with_reducible refine wpCan_isq ?_); first | (apply wpCan_read rfl (by rfl); (· intro w' hS; go_simp; with_reducible rfl); (· try simp only [Act.put, List.setIfInBounds_toArray, List.set_cons_zero, List.set_cons_succ]; with_reducible rfl)) | (apply wpCan_no rfl (by rfl); (· try simp only [Act.put, List.setIfInBounds_toArray, List.set_cons_zero, List.set_cons_succ]; with_reducible rfl)))
              (with_reducible refine wpCan_isl ?_); apply wpCan_no_loud rfl (by rfl); (· try simp only [Act.put, List.setIfInBounds_toArray, List.set_cons_zero, List.set_cons_succ]; with_reducible rfl); (· exact ⟨b0, b1⟩)
              repeat ((with_reducible refine wpCan_isq ?_); first | (apply wpCan_read rfl (by rfl); (· intro w' hS; go_simp; with_reducible rfl); (· try simp only [Act.put, List.setIfInBounds_toArray, List.set_cons_zero, List.set_cons_succ]; with_reducible rfl)) | (apply wpCan_no rfl (by rfl); (· try simp only [Act.put, List.setIfInBounds_toArray, List.set_cons_zero, List.set_cons_succ]; with_reducible rfl)))
              refine wpCan_nil ?_
              generalize ha1 : wr.drew = a1
              have ga1 : Below wr.heap.size wr a1 := by subst ha1; exact bel_drew (Below.refl _ wr)
              have d0 : a1.cell? ⟨B, 0, none⟩ = some (.int .i64 i) := by subst ha1; exact b0
              have d1 : a1.cell? ⟨B, 1, none⟩ = some (.int .i64 j) := by subst ha1; exact b1
              have hBx := Nat.lt_of_lt_of_le hAr ga1.size
              have Hbx := bel_trans Hb3 ga1
              have hx1s := Hbx.size
              clear b0 b1 ha1
              go_wp2
              refine wp_region_fork (fun w' => w'.cell? ⟨B, 0, none⟩ = some (.int .i64 i) ∧ w'.cell? ⟨B, 1, none⟩ = some (.int .i64 j)) [(0, false), (1, false), (2, false), (4, false), (7, false), (8, false), (9, false)] 3 5 [(5, true), (6, true), (10, true), (11, false)] [(3, true), (6, true), (10, true), (11, false)] (by kernel_rfl) (by kernel_rfl) (fun _ d _ _ _ h => by cases d <;> exact h) ?_ ?_
              · exact ⟨d0, d1⟩
              repeat ((with_reducible refine wpCan_isq ?_); first | (apply wpCan_read rfl (by rfl); (· intro w' hS; go_simp; with_reducible rfl); (· try simp only [Act.put, List.setIfInBounds_toArray, List.set_cons_zero, List.set_cons_succ]; with_reducible rfl)) | (apply wpCan_no rfl (by rfl); (· try simp only [Act.put, List.setIfInBounds_toArray, List.set_cons_zero, List.set_cons_succ]; with_reducible rfl)))
              refine wpCan_nil ?_
              have cb : ∀ x, Below a1.heap.size a1 x → x.cell? ⟨B, 0, none⟩ = some (.int .i64 i) ∧ x.cell? ⟨B, 1, none⟩ = some (.int .i64 j) := fun x h => ⟨(h.cell (p := ⟨B, 0, none⟩) hBx).trans d0, (h.cell (p := ⟨B, 1, none⟩) hBx).trans d1⟩
              refine ⟨?_, ?_⟩
              · refine wpOp_wp rfl (by rfl) ?_
                refine wp_append_none (.const (.slice none 0 0)) (.tmp 46) 71 rfl a1.heap.size 76 i0 2 Tryz.underlying71 hi (.slice none 0 0) 0 _ rfl (World.ownsRow_nil _ _ _ _) rfl ?_
                refine ⟨cb _ (bel_drew (Below.refl _ _)), ?_⟩
                try simp only [Act.put, List.setIfInBounds_toArray, List.set_cons_zero, List.set_cons_succ]
                (with_reducible refine wpCan_isl ?_); apply wpCan_step rfl (by rfl); (· go_simp; first | with_reducible rfl | exact ⟨rfl, rfl⟩); (· try simp only [Act.put, List.setIfInBounds_toArray, List.set_cons_zero, List.set_cons_succ]; with_reducible rfl); (· exact cb _ (bel_drew (bel_alloc (Below.refl _ _) _)))
                generalize hWX : World.drew (World.alloc _ _) = X0
                have HX : Below a1.heap.size a1 X0 := by subst hWX; exact bel_drew (bel_alloc (Below.refl _ _) _)
                have r0 : X0.cell? ⟨a1.heap.size, 0, none⟩ = some (.int .i64 i) := by subst hWX; go_simp
                have r1 : X0.cell? ⟨a1.heap.size, 1, none⟩ = some (.int .i64 j) := by subst hWX; go_simp
                have HXs : a1.heap.size < X0.heap.size := by subst hWX; simp
                clear hWX
                (with_reducible refine wpCan_isl ?_); refine wpCan_loud (toL rfl) (wantedL_eq.symm.trans (by rfl)) ?_
                refine wp_append_own _ (.tmp 47) (.tmp 49) 71 rfl a1.heap.size 76 i0 (.agg #[.int .i64 0, .int .i64 0]) 2 16 Tryz.underlying71 hi hz0 hz1 hz2 rfl (by decide) (.slice none 0 0) 0 _ rfl (World.ownsRow_nil _ _ _ _) ⟨a1.heap.size, 0, none⟩ 1 1 [.int .i64 (i : Int), .int .i64 (j : Int)] rfl (by simp) ?ca1 (by intro u hu; simp at hu; rcases hu with rfl | rfl <;> rfl) (by unfold maxLen; omega) (by omega) (by first | omega | (simp; done) | (simp; omega)) ?_
                case ca1 => intro m u h; match m, h with | 0, h => (simp at h; subst h; exact r0) | 1, h => (simp at h; subst h; exact r1)
                intro v2 x2 o2 gr2 _
                have H2 := below_grown (e := 76) (size := 2) HX (World.ownsRow_nil _ _ _ _) gr2
                have H2s := H2.size
                clear gr2
                refine ⟨cb _ H2, ?_⟩
                rw [List.nil_append] at o2
                try simp only [Act.put, List.setIfInBounds_toArray, List.set_cons_zero, List.set_cons_succ]
                (with_reducible refine wpCan_isl ?_); refine wpCan_loud (toL rfl) (wantedL_eq.symm.trans (by rfl)) ?_
                refine wp_append_none (.tmp 50) (.tmp 53) 71 rfl a1.heap.size 76 i0 2 Tryz.underlying71 hi v2 1 _ rfl o2 rfl ?_
                refine ⟨cb _ H2, ?_⟩
                try simp only [Act.put, List.setIfInBounds_toArray, List.set_cons_zero, List.set_cons_succ]
                repeat ((with_reducible refine wpCan_isq ?_); first | (apply wpCan_read rfl (by rfl); (· intro w' hS; go_simp; with_reducible rfl); (· try simp only [Act.put, List.setIfInBounds_toArray, List.set_cons_zero, List.set_cons_succ]; with_reducible rfl)) | (apply wpCan_no rfl (by rfl); (· try simp only [Act.put, List.setIfInBounds_toArray, List.set_cons_zero, List.set_cons_succ]; with_reducible rfl)))
                refine wpCan_nil ?_
                go_wp2
                go_roundw
                case rel => exact ⟨j + 1, by omega, by simp, bel_trans Hbx H2, by rw [ejk.out]; exact hid (own_mono o2 (by omega))⟩
                case measure => simp [intOf]; omega
              · refine wpOp_step rfl (by rfl) (v := _) (w' := _) (by go_simp; first | with_reducible rfl | exact ⟨rfl, rfl⟩) ?_
                refine ⟨cb _ (bel_drew (bel_alloc (Below.refl _ _) _)), ?_⟩
                try simp only [Act.put, List.setIfInBounds_toArray, List.set_cons_zero, List.set_cons_succ]
                generalize hWX : World.drew (World.alloc _ _) = X0
                have HX : Below a1.heap.size a1 X0 := by subst hWX; exact bel_drew (bel_alloc (Below.refl _ _) _)
                have r0 : X0.cell? ⟨a1.heap.size, 0, none⟩ = some (.int .i64 i) := by subst hWX; go_simp
                have r1 : X0.cell? ⟨a1.heap.size, 1, none⟩ = some (.int .i64 j) := by subst hWX; go_simp
                have HXs : a1.heap.size < X0.heap.size := by subst hWX; simp
                clear hWX
                (with_reducible refine wpCan_isl ?_); refine wpCan_loud (toL rfl) (wantedL_eq.symm.trans (by rfl)) ?_
                refine wp_append_none (.const (.slice none 0 0)) (.tmp 46) 71 rfl a1.heap.size 76 i0 2 Tryz.underlying71 hi (.slice none 0 0) 0 _ rfl (World.ownsRow_nil _ _ _ _) rfl ?_
                refine ⟨cb _ HX, ?_⟩
                try simp only [Act.put, List.setIfInBounds_toArray, List.set_cons_zero, List.set_cons_succ]
                (with_reducible refine wpCan_isl ?_); refine wpCan_loud (toL rfl) (wantedL_eq.symm.trans (by rfl)) ?_
                refine wp_append_own _ (.tmp 47) (.tmp 49) 71 rfl a1.heap.size 76 i0 (.agg #[.int .i64 0, .int .i64 0]) 2 16 Tryz.underlying71 hi hz0 hz1 hz2 rfl (by decide) (.slice none 0 0) 0 _ rfl (World.ownsRow_nil _ _ _ _) ⟨a1.heap.size, 0, none⟩ 1 1 [.int .i64 (i : Int), .int .i64 (j : Int)] rfl (by simp) ?ca2 (by intro u hu; simp at hu; rcases hu with rfl | rfl <;> rfl) (by unfold maxLen; omega) (by omega) (by first | omega | (simp; done) | (simp; omega)) ?_
                case ca2 => intro m u h; match m, h with | 0, h => (simp at h; subst h; exact r0) | 1, h => (simp at h; subst h; exact r1)
                intro v2 x2 o2 gr2 _
                have H2 := below_grown (e := 76) (size := 2) HX (World.ownsRow_nil _ _ _ _) gr2
                have H2s := H2.size
                clear gr2
                refine ⟨cb _ H2, ?_⟩
                rw [List.nil_append] at o2
                try simp only [Act.put, List.setIfInBounds_toArray, List.set_cons_zero, List.set_cons_succ]
                (with_reducible refine wpCan_isl ?_); refine wpCan_loud (toL rfl) (wantedL_eq.symm.trans (by rfl)) ?_
                refine wp_append_none (.tmp 50) (.tmp 53) 71 rfl a1.heap.size 76 i0 2 Tryz.underlying71 hi v2 1 _ rfl o2 rfl ?_
                refine ⟨cb _ H2, ?_⟩
                try simp only [Act.put, List.setIfInBounds_toArray, List.set_cons_zero, List.set_cons_succ]
                repeat ((with_reducible refine wpCan_isq ?_); first | (apply wpCan_read rfl (by rfl); (· intro w' hS; go_simp; with_reducible rfl); (· try simp only [Act.put, List.setIfInBounds_toArray, List.set_cons_zero, List.set_cons_succ]; with_reducible rfl)) | (apply wpCan_no rfl (by rfl); (· try simp only [Act.put, List.setIfInBounds_toArray, List.set_cons_zero, List.set_cons_succ]; with_reducible rfl)))
                refine wpCan_nil ?_
                go_wp2
                go_roundw
                case rel => exact ⟨j + 1, by omega, by simp, bel_trans Hbx H2, by rw [ejk.out]; exact hid (own_mono o2 (by omega))⟩
                case measure => simp [intOf]; omega
          · skip
            have hc3 := hid hc3
            have hcap3 := hid hcap3
            go_wp2
            generalize hWA : wr.alloc _ = WA
            have hbA : Below wr.heap.size wr WA := by subst hWA; exact (by repeat (first | with_reducible exact Below.refl _ _ | with_reducible assumption | with_reducible refine bel_drewN ?_ | with_reducible refine bel_drew ?_ | with_reducible refine bel_alloc ?_ _ | with_reducible refine bel_set ?_ _ ?_ | with_reducible refine bel_trans ?_ (by with_reducible assumption) | ((try dsimp only); omega)))
            have a0 : WA.cell? ⟨wr.heap.size, 0, none⟩ = some (.int .i64 i) := by subst hWA; go_simp
            have a1 : WA.cell? ⟨wr.heap.size, 1, none⟩ = some (.int .i64 j) := by subst hWA; go_simp
            have hAs : wr.heap.size < WA.heap.size := by subst hWA; simp
            have RA := hid ((R0.out.below hb2).below hbA)
            have Hb2A := bel_trans hb2 hbA
            clear hWA z1
            have hcA := hid (show ∀ m u, (L.flatMap itemV)[m]? = some u → WA.cell? ⟨g3, m, none⟩ = some u from fun m u h => ((bcell hbA).1 g3 m hg3s).trans (hc3.out m u h))
            have hg3A := Nat.lt_trans hg3s hAs
            generalize hBq : wr.heap.size = B at *
            have hBq := hid hBq
            go_loopw [7] (fun c wr3 => ∃ k : Nat, k ≤ L.length ∧ c = .int .i64 k ∧ Below WA.heap.size WA wr3 ∧ Hid (∀ m x, m < k → L[m]? = some x → rowLess ts x (i, j) = true)) (fun c _ => L.length - (intOf c).toNat)
            case atStart => exact ⟨0, by omega, rfl, Below.refl _ _, hid (fun m x h => by omega)⟩
            case round =>
              obtain ⟨k, hkn, rfl, hb3, hless⟩ := hrel
              have wk : IntKind.i64.wrap ((k : Int) + 1) = (k : Int) + 1 := by rw [show (k : Int) + 1 = ((k + 1 : Nat) : Int) by omega]; exact i64_nat (by have := hLl2.out; omega)
              have b0 : wr.cell? ⟨B, 0, none⟩ = some (.int .i64 i) := ((bcell hb3).1 B _ hAs).trans a0
              have b1 : wr.cell? ⟨B, 1, none⟩ = some (.int .i64 j) := ((bcell hb3).1 B _ hAs).trans a1
              have hb3s := hb3.size
              have hAr : B < wr.heap.size := by omega
              have hg3r : g3 < wr.heap.size := by omega
              have hgr : g < wr.heap.size := by omega
              have RW := RA.out.below hb3
              have Hb3 := bel_trans Hb2A hb3
              have c3w : Hid (∀ m u, (L.flatMap itemV)[m]? = some u → wr.cell? ⟨g3, m, none⟩ = some u) := hid (fun m u h => ((bcell hb3).1 g3 m hg3A).trans (hcA.out m u h))
              by_cases hkl : k = L.length
              · have ekl : ¬ ((k : Int) < (L.length : Nat)) := by omega
                have hput := hid (rput_at ts L (i, j) k hkn hless.out (fun x hx => by rw [hkl] at hx; simp at hx))
                have ekn : ¬ k < L.length := by omega
                have hkl2 := hid hkl
                clear hkl
                have hcap := hcap3.out
                have hL1 := hLl2.out
                clear RW
                go_wp2
                refine wp_region_can (fun w' => w'.cell? ⟨B, 0, none⟩ = some (.int .i64 i) ∧ w'.cell? ⟨B, 1, none⟩ = some (.int .i64 j)) [(0, false), (1, false), (2, false), (3, false), (4, false), (5, false), (6, false), (7, false), (8, false), (9, false), (10, false), (11, true), (12, false)] (by kernel_rfl) (by kernel_rfl) (fun _ d _ _ _ h => by cases d <;> exact h) ?_ ?_
                · exact ⟨b0, b1⟩
                repeat ((with_reducible refine wpCan_isq ?_); first | (apply wpCan_read rfl (by rfl); (· intro w' hS; go_simp; with_reducible rfl); (· try simp only [Act.put, List.setIfInBounds_toArray, List.set_cons_zero, List.set_cons_succ]; with_reducible rfl)) | (apply wpCan_no rfl (by rfl); (· try simp only [Act.put, List.setIfInBounds_toArray, List.set_cons_zero, List.set_cons_succ]; with_reducible rfl)))
                (with_reducible refine wpCan_isl ?_); apply wpCan_no_loud rfl (by rfl); (· try simp only [Act.put, List.setIfInBounds_toArray, List.set_cons_zero, List.set_cons_succ]; with_reducible rfl); (· exact ⟨b0, b1⟩)
                repeat ((with_reducible refine wpCan_isq ?_); first | (apply wpCan_read rfl (by rfl); (· intro w' hS; go_simp; with_reducible rfl); (· try simp only [Act.put, List.setIfInBounds_toArray, List.set_cons_zero, List.set_cons_succ]; with_reducible rfl)) | (apply wpCan_no rfl (by rfl); (· try simp only [Act.put, List.setIfInBounds_toArray, List.set_cons_zero, List.set_cons_succ]; with_reducible rfl)))
                refine wpCan_nil ?_
                generalize ha1 : wr.drew = a1
                have ga1 : Below wr.heap.size wr a1 := by subst ha1; exact bel_drew (Below.refl _ wr)
                have d0 : a1.cell? ⟨B, 0, none⟩ = some (.int .i64 i) := by subst ha1; exact b0
                have d1 : a1.cell? ⟨B, 1, none⟩ = some (.int .i64 j) := by subst ha1; exact b1
                have c3x := hid (show ∀ m u, (L.flatMap itemV)[m]? = some u → a1.cell? ⟨g3, m, none⟩ = some u from fun m u h => by subst ha1; exact c3w.out m u h)
                have hg3x := Nat.lt_of_lt_of_le hg3r ga1.size
                have hBx := Nat.lt_of_lt_of_le hAr ga1.size
                have Hbx := bel_trans Hb3 ga1
                have hx1s := Hbx.size
                clear b0 b1 ha1 ekn ekl
                go_wp2
                have kc1 : (k : Int) ≤ (c3 : Nat) := by omega
                have kc2 : (k : Int) ≤ (L.length : Nat) := by omega
                have kc3 : k ≤ c3 := by omega
                have kc4 : (0 : Int) ≤ k := by omega
                have kc5 : ((L.length : Nat) : Int) ≤ (c3 : Nat) := by omega
                refine wp_region_fork (fun w' => w'.cell? ⟨B, 0, none⟩ = some (.int .i64 i) ∧ w'.cell? ⟨B, 1, none⟩ = some (.int .i64 j)) [(0, false), (1, false), (2, false), (4, false), (7, false), (8, false), (9, false)] 3 5 [(5, true), (6, true), (10, true), (11, false)] [(3, true), (6, true), (10, true), (11, false)] (by kernel_rfl) (by kernel_rfl) (fun _ d _ _ _ h => by cases d <;> exact h) ?_ ?_
                · exact ⟨d0, d1⟩
                repeat ((with_reducible refine wpCan_isq ?_); first | (apply wpCan_read rfl (by rfl); (· intro w' hS; go_simp; with_reducible rfl); (· try simp only [Act.put, List.setIfInBounds_toArray, List.set_cons_zero, List.set_cons_succ]; with_reducible rfl)) | (apply wpCan_no rfl (by rfl); (· try simp only [Act.put, List.setIfInBounds_toArray, List.set_cons_zero, List.set_cons_succ]; with_reducible rfl)))
                refine wpCan_nil ?_
                obtain ⟨AD, hAD, hADc⟩ : ∃ AD : Addr, (if c3 = k then some (⟨g3, 0, none⟩ : Addr) else some ⟨g3, k * 2, none⟩) = some AD ∧ ∀ m u, ((L.drop k).flatMap itemV)[m]? = some u → ∀ x, Below a1.heap.size a1 x → x.cell? (AD.add m) = some u := by
                  by_cases q : c3 = k
                  · refine ⟨⟨g3, 0, none⟩, if_pos q, fun m u h => ?_⟩
                    have : L.drop k = [] := List.drop_of_length_le (by omega)
                    rw [this] at h; simp at h
                  · refine ⟨⟨g3, k * 2, none⟩, if_neg q, fun m u h x hx => ?_⟩
                    rw [addr_add, hx.cell (p := ⟨g3, k * 2 + m, none⟩) hg3x]
                    exact c3x.out _ u (flat_drop hkn h)
                have hADc := hid hADc
                rw [hAD]
                clear hAD
                have cb : ∀ x, Below a1.heap.size a1 x → x.cell? ⟨B, 0, none⟩ = some (.int .i64 i) ∧ x.cell? ⟨B, 1, none⟩ = some (.int .i64 j) := fun x h => ⟨(h.cell (p := ⟨B, 0, none⟩) hBx).trans d0, (h.cell (p := ⟨B, 1, none⟩) hBx).trans d1⟩
                refine ⟨?_, ?_⟩
                · refine wpOp_wp rfl (by rfl) ?_
                  have HX := bel_drew (Below.refl _ a1)
                  refine wp_append_own _ (.const (.slice none 0 0)) (.tmp 46) 71 rfl a1.heap.size 76 i0 (.agg #[.int .i64 0, .int .i64 0]) 2 16 Tryz.underlying71 hi hz0 hz1 hz2 rfl (by decide) (.slice none 0 0) 0 _ rfl (World.ownsRow_nil _ _ _ _) ⟨g3, 0, none⟩ k c3 ((L.take k).flatMap itemV) rfl (by rw [flat_len, List.length_take, Nat.min_eq_left hkn]) ?cc1 (itemV_one _) (by unfold maxLen; omega) (by omega) (by first | omega | (simp; done) | (simp; omega)) ?_
                  case cc1 => intro m u h; rw [addr_add, Nat.zero_add, HX.cell (p := ⟨g3, m, none⟩) hg3x]; exact c3x.out m u (flat_take h)
                  intro v1 x1 o1 gr1 _
                  have H1 := below_grown (e := 76) (size := 2) HX (World.ownsRow_nil _ _ _ _) gr1
                  have H1s := H1.size
                  rw [List.nil_append, Nat.zero_add] at o1
                  clear gr1
                  have o1 := hid o1
                  have H1 := hid H1
                  refine ⟨cb _ H1.out, ?_⟩
                  try simp only [Act.put, List.setIfInBounds_toArray, List.set_cons_zero, List.set_cons_succ]
                  (with_reducible refine wpCan_isl ?_); apply wpCan_step rfl (by rfl); (· go_simp; first | with_reducible rfl | exact ⟨rfl, rfl⟩); (· try simp only [Act.put, List.setIfInBounds_toArray, List.set_cons_zero, List.set_cons_succ]; with_reducible rfl); (· exact cb _ (bel_alloc H1.out _))
                  (with_reducible refine wpCan_isl ?_); refine wpCan_loud (toL rfl) (wantedL_eq.symm.trans (by rfl)) ?_
                  refine wp_append_own _ (.tmp 47) (.tmp 49) 71 rfl a1.heap.size 76 i0 (.agg #[.int .i64 0, .int .i64 0]) 2 16 Tryz.underlying71 hi hz0 hz1 hz2 rfl (by decide) v1 k _ rfl (o1.out.alloc _) ⟨x1.heap.size, 0, none⟩ 1 1 [.int .i64 (i : Int), .int .i64 (j : Int)] rfl (by simp) ?cc2 (by intro u hu; simp at hu; rcases hu with rfl | rfl <;> rfl) (by unfold maxLen; omega) (by omega) (by first | omega | (simp; done) | (simp; omega)) ?_
                  case cc2 => intro m u h; match m, h with | 0, h => (simp at h; subst h; simp only [Addr.add, if_true]; go_simp) | 1, h => (simp at h; subst h; simp only [Addr.add, if_true]; go_simp)
                  intro v2 x2 o2 gr2 _
                  have H2 := below_grown (bel_alloc H1.out _) (o1.out.alloc _) gr2
                  have H2s := H2.size
                  clear gr2
                  have o2 := hid o2
                  have H2 := hid H2
                  refine ⟨cb _ H2.out, ?_⟩
                  try simp only [Act.put, List.setIfInBounds_toArray, List.set_cons_zero, List.set_cons_succ]
                  (with_reducible refine wpCan_isl ?_); refine wpCan_loud (toL rfl) (wantedL_eq.symm.trans (by rfl)) ?_
                  have HX := H2.out
                  refine wp_append_own _ (.tmp 50) (.tmp 53) 71 rfl a1.heap.size 76 i0 (.agg #[.int .i64 0, .int .i64 0]) 2 16 Tryz.underlying71 hi hz0 hz1 hz2 rfl (by decide) v2 (k + 1) _ rfl o2.out AD (L.length - k) (c3 - k) ((L.drop k).flatMap itemV) rfl (by rw [flat_len, List.length_drop]) ?cc3 (itemV_one _) (by unfold maxLen; omega) (by omega) (by first | omega | (simp; done) | (simp; omega)) ?_
                  case cc3 => intro m u h; exact hADc.out m u h _ HX
                  intro v3 x3 o3 gr3 _
                  have H3 := below_grown HX o2.out gr3
                  clear gr3
                  have o3 := hid (show x3.ownsRow a1.heap.size 76 2 v3 (rput ts L (i, j)).length ((rput ts L (i, j)).flatMap itemV) by
                    rw [hput.out]
                    have e1 : (L.take k ++ (i, j) :: L.drop k).length = k + 1 + (L.length - k) := by rw [List.length_append, List.length_cons, List.length_take, List.length_drop, Nat.min_eq_left hkn]; omega
                    have e2 : (L.take k ++ (i, j) :: L.drop k).flatMap itemV = (L.take k).flatMap itemV ++ [.int .i64 (i : Int), .int .i64 (j : Int)] ++ (L.drop k).flatMap itemV := by rw [List.flatMap_append, List.flatMap_cons, List.append_assoc]; rfl
                    rw [e1, e2]; exact o3)
                  refine ⟨cb _ H3, ?_⟩
                  try simp only [Act.put, List.setIfInBounds_toArray, List.set_cons_zero, List.set_cons_succ]
                  repeat ((with_reducible refine wpCan_isq ?_); first | (apply wpCan_read rfl (by rfl); (· intro w' hS; go_simp; with_reducible rfl); (· try simp only [Act.put, List.setIfInBounds_toArray, List.set_cons_zero, List.set_cons_succ]; with_reducible rfl)) | (apply wpCan_no rfl (by rfl); (· try simp only [Act.put, List.setIfInBounds_toArray, List.set_cons_zero, List.set_cons_succ]; with_reducible rfl)))
                  refine wpCan_nil ?_
                  go_wp2
                  go_roundw
                  case rel => exact ⟨j + 1, by omega, by simp, bel_trans Hbx (H3.mono (Nat.le_refl _)), by rw [ejk.out]; exact hid (own_mono o3.out (by omega))⟩
                  case measure => simp [intOf]; omega
                · have HX0 := bel_drew (Below.refl _ a1)
                  refine wpOp_step rfl (by rfl) (v := _) (w' := _) (by go_simp; first | with_reducible rfl | exact ⟨rfl, rfl⟩) ?_
                  refine ⟨cb _ (by first | exact bel_drew (bel_alloc (Below.refl _ _) _) | exact bel_alloc HX0 _), ?_⟩
                  try simp only [Act.put, List.setIfInBounds_toArray, List.set_cons_zero, List.set_cons_succ]
                  generalize hWX : World.drew (World.alloc _ _) = X0
                  have HX : Below a1.heap.size a1 X0 := by subst hWX; exact bel_drew (bel_alloc (Below.refl _ _) _)
                  have r0 : X0.cell? ⟨a1.heap.size, 0, none⟩ = some (.int .i64 i) := by subst hWX; go_simp
                  have r1 : X0.cell? ⟨a1.heap.size, 1, none⟩ = some (.int .i64 j) := by subst hWX; go_simp
                  have HXs : a1.heap.size < X0.heap.size := by subst hWX; simp
                  clear hWX
                  (with_reducible refine wpCan_isl ?_); refine wpCan_loud (toL rfl) (wantedL_eq.symm.trans (by rfl)) ?_
                  refine wp_append_own _ (.const (.slice none 0 0)) (.tmp 46) 71 rfl a1.heap.size 76 i0 (.agg #[.int .i64 0, .int .i64 0]) 2 16 Tryz.underlying71 hi hz0 hz1 hz2 rfl (by decide) (.slice none 0 0) 0 _ rfl (World.ownsRow_nil _ _ _ _) ⟨g3, 0, none⟩ k c3 ((L.take k).flatMap itemV) rfl (by rw [flat_len, List.length_take, Nat.min_eq_left hkn]) ?cc4 (itemV_one _) (by unfold maxLen; omega) (by omega) (by first | omega | (simp; done) | (simp; omega)) ?_
                  case cc4 => intro m u h; rw [addr_add, Nat.zero_add, HX.cell (p := ⟨g3, m, none⟩) hg3x]; exact c3x.out m u (flat_take h)
                  intro v1 x1 o1 gr1 _
                  have H1 := below_grown (e := 76) (size := 2) HX (World.ownsRow_nil _ _ _ _) gr1
                  have H1s := H1.size
                  have gs := gr1.size
                  have rb := gr1.block a1.heap.size HXs (by simp [Value.ownBlock])
                  have r0 := (World.cell?_of_block (a := ⟨a1.heap.size, 0, none⟩) rb).trans r0
                  have r1 := (World.cell?_of_block (a := ⟨a1.heap.size, 1, none⟩) rb).trans r1
                  rw [List.nil_append, Nat.zero_add] at o1
                  clear gr1 rb
                  have o1 := hid o1
                  have H1 := hid H1
                  refine ⟨cb _ H1.out, ?_⟩
                  try simp only [Act.put, List.setIfInBounds_toArray, List.set_cons_zero, List.set_cons_succ]
                  (with_reducible refine wpCan_isl ?_); refine wpCan_loud (toL rfl) (wantedL_eq.symm.trans (by rfl)) ?_
                  refine wp_append_own _ (.tmp 47) (.tmp 49) 71 rfl a1.heap.size 76 i0 (.agg #[.int .i64 0, .int .i64 0]) 2 16 Tryz.underlying71 hi hz0 hz1 hz2 rfl (by decide) v1 k _ rfl o1.out ⟨a1.heap.size, 0, none⟩ 1 1 [.int .i64 (i : Int), .int .i64 (j : Int)] rfl (by simp) ?cc5 (by intro u hu; simp at hu; rcases hu with rfl | rfl <;> rfl) (by unfold maxLen; omega) (by omega) (by first | omega | (simp; done) | (simp; omega)) ?_
                  case cc5 => intro m u h; match m, h with | 0, h => (simp at h; subst h; exact r0) | 1, h => (simp at h; subst h; exact r1)
                  intro v2 x2 o2 gr2 _
                  have H2 := below_grown H1.out o1.out gr2
                  have H2s := H2.size
                  clear gr2
                  have o2 := hid o2
                  have H2 := hid H2
                  refine ⟨cb _ H2.out, ?_⟩
                  try simp only [Act.put, List.setIfInBounds_toArray, List.set_cons_zero, List.set_cons_succ]
                  (with_reducible refine wpCan_isl ?_); refine wpCan_loud (toL rfl) (wantedL_eq.symm.trans (by rfl)) ?_
                  have HX := H2.out
                  refine wp_append_own _ (.tmp 50) (.tmp 53) 71 rfl a1.heap.size 76 i0 (.agg #[.int .i64 0, .int .i64 0]) 2 16 Tryz.underlying71 hi hz0 hz1 hz2 rfl (by decide) v2 (k + 1) _ rfl o2.out AD (L.length - k) (c3 - k) ((L.drop k).flatMap itemV) rfl (by rw [flat_len, List.length_drop]) ?cc6 (itemV_one _) (by unfold maxLen; omega) (by omega) (by first | omega | (simp; done) | (simp; omega)) ?_
                  case cc6 => intro m u h; exact hADc.out m u h _ HX
                  intro v3 x3 o3 gr3 _
                  have H3 := below_grown HX o2.out gr3
                  clear gr3
                  have o3 := hid (show x3.ownsRow a1.heap.size 76 2 v3 (rput ts L (i, j)).length ((rput ts L (i, j)).flatMap itemV) by
                    rw [hput.out]
                    have e1 : (L.take k ++ (i, j) :: L.drop k).length = k + 1 + (L.length - k) := by rw [List.length_append, List.length_cons, List.length_take, List.length_drop, Nat.min_eq_left hkn]; omega
                    have e2 : (L.take k ++ (i, j) :: L.drop k).flatMap itemV = (L.take k).flatMap itemV ++ [.int .i64 (i : Int), .int .i64 (j : Int)] ++ (L.drop k).flatMap itemV := by rw [List.flatMap_append, List.flatMap_cons, List.append_assoc]; rfl
                    rw [e1, e2]; exact o3)
                  refine ⟨cb _ H3, ?_⟩
                  try simp only [Act.put, List.setIfInBounds_toArray, List.set_cons_zero, List.set_cons_succ]
                  repeat ((with_reducible refine wpCan_isq ?_); first | (apply wpCan_read rfl (by rfl); (· intro w' hS; go_simp; with_reducible rfl); (· try simp only [Act.put, List.setIfInBounds_toArray, List.set_cons_zero, List.set_cons_succ]; with_reducible rfl)) | (apply wpCan_no rfl (by rfl); (· try simp only [Act.put, List.setIfInBounds_toArray, List.set_cons_zero, List.set_cons_succ]; with_reducible rfl)))
                  refine wpCan_nil ?_
                  go_wp2
                  go_roundw
                  case rel => exact ⟨j + 1, by omega, by simp, bel_trans Hbx (H3.mono (Nat.le_refl _)), by rw [ejk.out]; exact hid (own_mono o3.out (by omega))⟩
                  case measure => simp [intOf]; omega
              · have hklt : k < L.length := by omega
                have hklt' : (k : Int) < (L.length : Nat) := by omega
                obtain ⟨⟨d, a⟩, hx⟩ : ∃ x, L[k]? = some x := ⟨L[k], List.getElem?_eq_getElem hklt⟩
                obtain ⟨f1, f2⟩ := flat2 hx
                have z1 : wr.cell? ⟨g3, k * 2, none⟩ = some (.int .i64 d) := c3w.out _ _ f1
                have z2 : wr.cell? ⟨g3, k * 2 + 1, none⟩ = some (.int .i64 a) := c3w.out _ _ f2
                have HLs := fun w' (h : Below wr.heap.size wr w') => fLess_calls w' _ ts (d, a) (i, j) (RW.below h) (by omega) (fun s h => by have := hs'.out s h; omega) (hLr2.out _ (List.mem_of_getElem? hx)) hrok.out
                have hx := hid hx
                have RW := hid RW
                clear f1 f2
                simp only at HLs
                cases hcm : rowLess ts (d, a) (i, j) with
                | true =>
                  rw [hcm] at HLs
                  have hl2 := hid (show ∀ m x, m < k + 1 → L[m]? = some x → rowLess ts x (i, j) = true from fun m x h1 h2 => by
                    by_cases q : m = k
                    · subst q; rw [hx.out] at h2; rw [← Option.some.inj h2]; exact hcm
                    · exact hless.out m x (by omega) h2)
                  have hcm := hid hcm
                  go_wp2
                  refine wp_region_can (fun w' => w'.cell? ⟨g3, k * 2, none⟩ = some (.int .i64 d) ∧ w'.cell? ⟨g3, k * 2 + 1, none⟩ = some (.int .i64 a) ∧ w'.cell? ⟨B, 0, none⟩ = some (.int .i64 i) ∧ w'.cell? ⟨B, 1, none⟩ = some (.int .i64 j)) [(0, false), (1, false), (2, false), (3, false), (4, false), (5, false), (6, false), (7, false), (8, false), (9, false), (10, false), (11, true), (12, false)] (by kernel_rfl) (by kernel_rfl) (fun _ d _ _ _ h => by cases d <;> exact h) ?_ ?_
                  · exact ⟨z1, z2, b0, b1⟩
                  repeat ((with_reducible refine wpCan_isq ?_); first | (apply wpCan_read rfl (by rfl); (· intro w' hS; go_simp; with_reducible rfl); (· try simp only [Act.put, List.setIfInBounds_toArray, List.set_cons_zero, List.set_cons_succ]; with_reducible rfl)) | (apply wpCan_no rfl (by rfl); (· try simp only [Act.put, List.setIfInBounds_toArray, List.set_cons_zero, List.set_cons_succ]; with_reducible rfl)))
                  (with_reducible refine wpCan_isl ?_); apply wpCan_call (HLs _ (bel_drew (Below.refl _ _))) rfl (by rfl); (· go_simp); rintro o a1 ⟨rfl, ga⟩; apply wpCan_told; (· exact ⟨(ga.below.cell (p := ⟨g3, k * 2, none⟩) hg3r).trans z1, (ga.below.cell (p := ⟨g3, k * 2 + 1, none⟩) hg3r).trans z2, (ga.below.cell (p := ⟨B, 0, none⟩) hAr).trans b0, (ga.below.cell (p := ⟨B, 1, none⟩) hAr).trans b1⟩); (· try simp only [Act.put, List.setIfInBounds_toArray, List.set_cons_zero, List.set_cons_succ]; with_reducible rfl)
                  repeat ((with_reducible refine wpCan_isq ?_); first | (apply wpCan_read rfl (by rfl); (· intro w' hS; go_simp; with_reducible rfl); (· try simp only [Act.put, List.setIfInBounds_toArray, List.set_cons_zero, List.set_cons_succ]; with_reducible rfl)) | (apply wpCan_no rfl (by rfl); (· try simp only [Act.put, List.setIfInBounds_toArray, List.set_cons_zero, List.set_cons_succ]; with_reducible rfl)))
                  refine wpCan_nil ?_
                  go_wp2
                  go_roundw
                  case rel => exact ⟨k + 1, by omega, by simp, bel_trans (bel_drew hb3) ga.below, hl2⟩
                  case measure => simp [intOf]; omega
                | false =>
                  rw [hcm] at HLs
                  have hput := hid (rput_at ts L (i, j) k hkn hless.out (fun x h => by rw [hx.out] at h; rw [← Option.some.inj h]; exact hcm))
                  have hcm := hid hcm
                  go_wp2
                  refine wp_region_can (fun w' => w'.cell? ⟨g3, k * 2, none⟩ = some (.int .i64 d) ∧ w'.cell? ⟨g3, k * 2 + 1, none⟩ = some (.int .i64 a) ∧ w'.cell? ⟨B, 0, none⟩ = some (.int .i64 i) ∧ w'.cell? ⟨B, 1, none⟩ = some (.int .i64 j)) [(0, false), (1, false), (2, false), (3, false), (4, false), (5, false), (6, false), (7, false), (8, false), (9, false), (10, false), (11, true), (12, false)] (by kernel_rfl) (by kernel_rfl) (fun _ d _ _ _ h => by cases d <;> exact h) ?_ ?_
                  · exact ⟨z1, z2, b0, b1⟩
                  repeat ((with_reducible refine wpCan_isq ?_); first | (apply wpCan_read rfl (by rfl); (· intro w' hS; go_simp; with_reducible rfl); (· try simp only [Act.put, List.setIfInBounds_toArray, List.set_cons_zero, List.set_cons_succ]; with_reducible rfl)) | (apply wpCan_no rfl (by rfl); (· try simp only [Act.put, List.setIfInBounds_toArray, List.set_cons_zero, List.set_cons_succ]; with_reducible rfl)))
                  (with_reducible refine wpCan_isl ?_); apply wpCan_call (HLs _ (bel_drew (Below.refl _ _))) rfl (by rfl); (· go_simp); rintro o a1 ⟨rfl, ga⟩; apply wpCan_told; (· exact ⟨(ga.below.cell (p := ⟨g3, k * 2, none⟩) hg3r).trans z1, (ga.below.cell (p := ⟨g3, k * 2 + 1, none⟩) hg3r).trans z2, (ga.below.cell (p := ⟨B, 0, none⟩) hAr).trans b0, (ga.below.cell (p := ⟨B, 1, none⟩) hAr).trans b1⟩); (· try simp only [Act.put, List.setIfInBounds_toArray, List.set_cons_zero, List.set_cons_succ]; with_reducible rfl)
                  repeat ((with_reducible refine wpCan_isq ?_); first | (apply wpCan_read rfl (by rfl); (· intro w' hS; go_simp; with_reducible rfl); (· try simp only [Act.put, List.setIfInBounds_toArray, List.set_cons_zero, List.set_cons_succ]; with_reducible rfl)) | (apply wpCan_no rfl (by rfl); (· try simp only [Act.put, List.setIfInBounds_toArray, List.set_cons_zero, List.set_cons_succ]; with_reducible rfl)))
                  refine wpCan_nil ?_
                  have ga1 := bel_trans (bel_drew (Below.refl _ wr)) ga.below
                  have d0 : a1.cell? ⟨B, 0, none⟩ = some (.int .i64 i) := ((bcell ga1).1 B _ hAr).trans b0
                  have d1 : a1.cell? ⟨B, 1, none⟩ = some (.int .i64 j) := ((bcell ga1).1 B _ hAr).trans b1
                  have c3x := hid (show ∀ m u, (L.flatMap itemV)[m]? = some u → a1.cell? ⟨g3, m, none⟩ = some u from fun m u h => ((bcell ga1).1 g3 m hg3r).trans (c3w.out m u h))
                  have hg3x := Nat.lt_of_lt_of_le hg3r ga1.size
                  have hBx := Nat.lt_of_lt_of_le hAr ga1.size
                  have Hbx := bel_trans Hb3 ga1
                  have hcap := hcap3.out
                  have hx1s := Hbx.size
                  clear b0 b1 z1 z2 HLs
                  have hL1 := hLl2.out
                  go_wp2
                  have kc1 : (k : Int) ≤ (c3 : Nat) := by omega
                  have kc2 : (k : Int) ≤ (L.length : Nat) := by omega
                  have kc3 : k ≤ c3 := by omega
                  have kc4 : (0 : Int) ≤ k := by omega
                  have kc5 : ((L.length : Nat) : Int) ≤ (c3 : Nat) := by omega
                  refine wp_region_fork (fun w' => w'.cell? ⟨B, 0, none⟩ = some (.int .i64 i) ∧ w'.cell? ⟨B, 1, none⟩ = some (.int .i64 j)) [(0, false), (1, false), (2, false), (4, false), (7, false), (8, false), (9, false)] 3 5 [(5, true), (6, true), (10, true), (11, false)] [(3, true), (6, true), (10, true), (11, false)] (by kernel_rfl) (by kernel_rfl) (fun _ d _ _ _ h => by cases d <;> exact h) ?_ ?_
                  · exact ⟨d0, d1⟩
                  repeat ((with_reducible refine wpCan_isq ?_); first | (apply wpCan_read rfl (by rfl); (· intro w' hS; go_simp; with_reducible rfl); (· try simp only [Act.put, List.setIfInBounds_toArray, List.set_cons_zero, List.set_cons_succ]; with_reducible rfl)) | (apply wpCan_no rfl (by rfl); (· try simp only [Act.put, List.setIfInBounds_toArray, List.set_cons_zero, List.set_cons_succ]; with_reducible rfl)))
                  refine wpCan_nil ?_
                  obtain ⟨AD, hAD, hADc⟩ : ∃ AD : Addr, (if c3 = k then some (⟨g3, 0, none⟩ : Addr) else some ⟨g3, k * 2, none⟩) = some AD ∧ ∀ m u, ((L.drop k).flatMap itemV)[m]? = some u → ∀ x, Below a1.heap.size a1 x → x.cell? (AD.add m) = some u := by
                    by_cases q : c3 = k
                    · refine ⟨⟨g3, 0, none⟩, if_pos q, fun m u h => ?_⟩
                      have : L.drop k = [] := List.drop_of_length_le (by omega)
                      rw [this] at h; simp at h
                    · refine ⟨⟨g3, k * 2, none⟩, if_neg q, fun m u h x hx => ?_⟩
                      rw [addr_add, hx.cell (p := ⟨g3, k * 2 + m, none⟩) hg3x]
                      exact c3x.out _ u (flat_drop hkn h)
                  have hADc := hid hADc
                  rw [hAD]
                  clear hAD
                  have cb : ∀ x, Below a1.heap.size a1 x → x.cell? ⟨B, 0, none⟩ = some (.int .i64 i) ∧ x.cell? ⟨B, 1, none⟩ = some (.int .i64 j) := fun x h => ⟨(h.cell (p := ⟨B, 0, none⟩) hBx).trans d0, (h.cell (p := ⟨B, 1, none⟩) hBx).trans d1⟩
                  refine ⟨?_, ?_⟩
                  · refine wpOp_wp rfl (by rfl) ?_
                    have HX := bel_drew (Below.refl _ a1)
                    refine wp_append_own _ (.const (.slice none 0 0)) (.tmp 46) 71 rfl a1.heap.size 76 i0 (.agg #[.int .i64 0, .int .i64 0]) 2 16 Tryz.underlying71 hi hz0 hz1 hz2 rfl (by decide) (.slice none 0 0) 0 _ rfl (World.ownsRow_nil _ _ _ _) ⟨g3, 0, none⟩ k c3 ((L.take k).flatMap itemV) rfl (by rw [flat_len, List.length_take, Nat.min_eq_left hkn]) ?cc1 (itemV_one _) (by unfold maxLen; omega) (by omega) (by first | omega | (simp; done) | (simp; omega)) ?_
                    case cc1 => intro m u h; rw [addr_add, Nat.zero_add, HX.cell (p := ⟨g3, m, none⟩) hg3x]; exact c3x.out m u (flat_take h)
                    intro v1 x1 o1 gr1 _
                    have H1 := below_grown (e := 76) (size := 2) HX (World.ownsRow_nil _ _ _ _) gr1
                    have H1s := H1.size
                    rw [List.nil_append, Nat.zero_add] at o1
                    clear gr1
                    have o1 := hid o1
                    have H1 := hid H1
                    refine ⟨cb _ H1.out, ?_⟩
                    try simp only [Act.put, List.setIfInBounds_toArray, List.set_cons_zero, List.set_cons_succ]
                    (with_reducible refine wpCan_isl ?_); apply wpCan_step rfl (by rfl); (· go_simp; first | with_reducible rfl | exact ⟨rfl, rfl⟩); (· try simp only [Act.put, List.setIfInBounds_toArray, List.set_cons_zero, List.set_cons_succ]; with_reducible rfl); (· exact cb _ (bel_alloc H1.out _))
                    (with_reducible refine wpCan_isl ?_); refine wpCan_loud (toL rfl) (wantedL_eq.symm.trans (by rfl)) ?_
                    refine wp_append_own _ (.tmp 47) (.tmp 49) 71 rfl a1.heap.size 76 i0 (.agg #[.int .i64 0, .int .i64 0]) 2 16 Tryz.underlying71 hi hz0 hz1 hz2 rfl (by decide) v1 k _ rfl (o1.out.alloc _) ⟨x1.heap.size, 0, none⟩ 1 1 [.int .i64 (i : Int), .int .i64 (j : Int)] rfl (by simp) ?cc2 (by intro u hu; simp at hu; rcases hu with rfl | rfl <;> rfl) (by unfold maxLen; omega) (by omega) (by first | omega | (simp; done) | (simp; omega)) ?_
                    case cc2 => intro m u h; match m, h with | 0, h => (simp at h; subst h; simp only [Addr.add, if_true]; go_simp) | 1, h => (simp at h; subst h; simp only [Addr.add, if_true]; go_simp)
                    intro v2 x2 o2 gr2 _
                    have H2 := below_grown (bel_alloc H1.out _) (o1.out.alloc _) gr2
                    have H2s := H2.size
                    clear gr2
                    have o2 := hid o2
                    have H2 := hid H2
                    refine ⟨cb _ H2.out, ?_⟩
                    try simp only [Act.put, List.setIfInBounds_toArray, List.set_cons_zero, List.set_cons_succ]
                    (with_reducible refine wpCan_isl ?_); refine wpCan_loud (toL rfl) (wantedL_eq.symm.trans (by rfl)) ?_
                    have HX := H2.out
                    refine wp_append_own _ (.tmp 50) (.tmp 53) 71 rfl a1.heap.size 76 i0 (.agg #[.int .i64 0, .int .i64 0]) 2 16 Tryz.underlying71 hi hz0 hz1 hz2 rfl (by decide) v2 (k + 1) _ rfl o2.out AD (L.length - k) (c3 - k) ((L.drop k).flatMap itemV) rfl (by rw [flat_len, List.length_drop]) ?cc3 (itemV_one _) (by unfold maxLen; omega) (by omega) (by first | omega | (simp; done) | (simp; omega)) ?_
                    case cc3 => intro m u h; exact hADc.out m u h _ HX
                    intro v3 x3 o3 gr3 _
                    have H3 := below_grown HX o2.out gr3
                    clear gr3
                    have o3 := hid (show x3.ownsRow a1.heap.size 76 2 v3 (rput ts L (i, j)).length ((rput ts L (i, j)).flatMap itemV) by
                      rw [hput.out]
                      have e1 : (L.take k ++ (i, j) :: L.drop k).length = k + 1 + (L.length - k) := by rw [List.length_append, List.length_cons, List.length_take, List.length_drop, Nat.min_eq_left hkn]; omega
                      have e2 : (L.take k ++ (i, j) :: L.drop k).flatMap itemV = (L.take k).flatMap itemV ++ [.int .i64 (i : Int), .int .i64 (j : Int)] ++ (L.drop k).flatMap itemV := by rw [List.flatMap_append, List.flatMap_cons, List.append_assoc]; rfl
                      rw [e1, e2]; exact o3)
                    refine ⟨cb _ H3, ?_⟩
                    try simp only [Act.put, List.setIfInBounds_toArray, List.set_cons_zero, List.set_cons_succ]
                    repeat ((with_reducible refine wpCan_isq ?_); first | (apply wpCan_read rfl (by rfl); (· intro w' hS; go_simp; with_reducible rfl); (· try simp only [Act.put, List.setIfInBounds_toArray, List.set_cons_zero, List.set_cons_succ]; with_reducible rfl)) | (apply wpCan_no rfl (by rfl); (· try simp only [Act.put, List.setIfInBounds_toArray, List.set_cons_zero, List.set_cons_succ]; with_reducible rfl)))
                    refine wpCan_nil ?_
                    go_wp2
                    go_roundw
                    case rel => exact ⟨j + 1, by omega, by simp, bel_trans Hbx (H3.mono (Nat.le_refl _)), by rw [ejk.out]; exact hid (own_mono o3.out (by omega))⟩
                    case measure => simp [intOf]; omega
                  · have HX0 := bel_drew (Below.refl _ a1)
                    refine wpOp_step rfl (by rfl) (v := _) (w' := _) (by go_simp; first | with_reducible rfl | exact ⟨rfl, rfl⟩) ?_
                    refine ⟨cb _ (by first | exact bel_drew (bel_alloc (Below.refl _ _) _) | exact bel_alloc HX0 _), ?_⟩
                    try simp only [Act.put, List.setIfInBounds_toArray, List.set_cons_zero, List.set_cons_succ]
                    generalize hWX : World.drew (World.alloc _ _) = X0
                    have HX : Below a1.heap.size a1 X0 := by subst hWX; exact bel_drew (bel_alloc (Below.refl _ _) _)
                    have r0 : X0.cell? ⟨a1.heap.size, 0, none⟩ = some (.int .i64 i) := by subst hWX; go_simp
                    have r1 : X0.cell? ⟨a1.heap.size, 1, none⟩ = some (.int .i64 j) := by subst hWX; go_simp
                    have HXs : a1.heap.size < X0.heap.size := by subst hWX; simp
                    clear hWX
                    (with_reducible refine wpCan_isl ?_); refine wpCan_loud (toL rfl) (wantedL_eq.symm.trans (by rfl)) ?_
                    refine wp_append_own _ (.const (.slice none 0 0)) (.tmp 46) 71 rfl a1.heap.size 76 i0 (.agg #[.int .i64 0, .int .i64 0]) 2 16 Tryz.underlying71 hi hz0 hz1 hz2 rfl (by decide) (.slice none 0 0) 0 _ rfl (World.ownsRow_nil _ _ _ _) ⟨g3, 0, none⟩ k c3 ((L.take k).flatMap itemV) rfl (by rw [flat_len, List.length_take, Nat.min_eq_left hkn]) ?cc4 (itemV_one _) (by unfold maxLen; omega) (by omega) (by first | omega | (simp; done) | (simp; omega)) ?_
                    case cc4 => intro m u h; rw [addr_add, Nat.zero_add, HX.cell (p := ⟨g3, m, none⟩) hg3x]; exact c3x.out m u (flat_take h)
                    intro v1 x1 o1 gr1 _
                    have H1 := below_grown (e := 76) (size := 2) HX (World.ownsRow_nil _ _ _ _) gr1
                    have H1s := H1.size
                    have gs := gr1.size
                    have rb := gr1.block a1.heap.size HXs (by simp [Value.ownBlock])
                    have r0 := (World.cell?_of_block (a := ⟨a1.heap.size, 0, none⟩) rb).trans r0
                    have r1 := (World.cell?_of_block (a := ⟨a1.heap.size, 1, none⟩) rb).trans r1
                    rw [List.nil_append, Nat.zero_add] at o1
                    clear gr1 rb
                    have o1 := hid o1
                    have H1 := hid H1
                    refine ⟨cb _ H1.out, ?_⟩
                    try simp only [Act.put, List.setIfInBounds_toArray, List.set_cons_zero, List.set_cons_succ]
                    (with_reducible refine wpCan_isl ?_); refine wpCan_loud (toL rfl) (wantedL_eq.symm.trans (by rfl)) ?_
                    refine wp_append_own _ (.tmp 47) (.tmp 49) 71 rfl a1.heap.size 76 i0 (.agg #[.int .i64 0, .int .i64 0]) 2 16 Tryz.underlying71 hi hz0 hz1 hz2 rfl (by decide) v1 k _ rfl o1.out ⟨a1.heap.size, 0, none⟩ 1 1 [.int .i64 (i : Int), .int .i64 (j : Int)] rfl (by simp) ?cc5 (by intro u hu; simp at hu; rcases hu with rfl | rfl <;> rfl) (by unfold maxLen; omega) (by omega) (by first | omega | (simp; done) | (simp; omega)) ?_
                    case cc5 => intro m u h; match m, h with | 0, h => (simp at h; subst h; exact r0) | 1, h => (simp at h; subst h; exact r1)
                    intro v2 x2 o2 gr2 _
                    have H2 := below_grown H1.out o1.out gr2
                    have H2s := H2.size
                    clear gr2
                    have o2 := hid o2
                    have H2 := hid H2
                    refine ⟨cb _ H2.out, ?_⟩
                    try simp only [Act.put, List.setIfInBounds_toArray, List.set_cons_zero, List.set_cons_succ]
                    (with_reducible refine wpCan_isl ?_); refine wpCan_loud (toL rfl) (wantedL_eq.symm.trans (by rfl)) ?_
                    have HX := H2.out
                    refine wp_append_own _ (.tmp 50) (.tmp 53) 71 rfl a1.heap.size 76 i0 (.agg #[.int .i64 0, .int .i64 0]) 2 16 Tryz.underlying71 hi hz0 hz1 hz2 rfl (by decide) v2 (k + 1) _ rfl o2.out AD (L.length - k) (c3 - k) ((L.drop k).flatMap itemV) rfl (by rw [flat_len, List.length_drop]) ?cc6 (itemV_one _) (by unfold maxLen; omega) (by omega) (by first | omega | (simp; done) | (simp; omega)) ?_
                    case cc6 => intro m u h; exact hADc.out m u h _ HX
                    intro v3 x3 o3 gr3 _
                    have H3 := below_grown HX o2.out gr3
                    clear gr3
                    have o3 := hid (show x3.ownsRow a1.heap.size 76 2 v3 (rput ts L (i, j)).length ((rput ts L (i, j)).flatMap itemV) by
                      rw [hput.out]
                      have e1 : (L.take k ++ (i, j) :: L.drop k).length = k + 1 + (L.length - k) := by rw [List.length_append, List.length_cons, List.length_take, List.length_drop, Nat.min_eq_left hkn]; omega
                      have e2 : (L.take k ++ (i, j) :: L.drop k).flatMap itemV = (L.take k).flatMap itemV ++ [.int .i64 (i : Int), .int .i64 (j : Int)] ++ (L.drop k).flatMap itemV := by rw [List.flatMap_append, List.flatMap_cons, List.append_assoc]; rfl
                      rw [e1, e2]; exact o3)
                    refine ⟨cb _ H3, ?_⟩
                    try simp only [Act.put, List.setIfInBounds_toArray, List.set_cons_zero, List.set_cons_succ]
                    repeat ((with_reducible refine wpCan_isq ?_); first | (apply wpCan_read rfl (by rfl); (· intro w' hS; go_simp; with_reducible rfl); (· try simp only [Act.put, List.setIfInBounds_toArray, List.set_cons_zero, List.set_cons_succ]; with_reducible rfl)) | (apply wpCan_no rfl (by rfl); (· try simp only [Act.put, List.setIfInBounds_toArray, List.set_cons_zero, List.set_cons_succ]; with_reducible rfl)))
                    refine wpCan_nil ?_
                    go_wp2
                    go_roundw
                    case rel => exact ⟨j + 1, by omega, by simp, bel_trans Hbx (H3.mono (Nat.le_refl _)), by rw [ejk.out]; exact hid (own_mono o3.out (by omega))⟩
                    case measure => simp [intOf]; omega
end Go.Proofs.YtngfalbabgpnnaaGreat
