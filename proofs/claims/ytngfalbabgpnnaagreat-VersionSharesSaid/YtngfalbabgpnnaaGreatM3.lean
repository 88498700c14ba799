/-
  The walks of the arena's Get, Drop, free.
  The walks of the arena's Drop, free.
  The walk of the arena's Work.
  The walk of the arena's Make.
  The walk of arena.New.
-/
import Derived.Test.YtngfalbabgpnnaaGreatM1
import Derived.Test.YtngfalbabgpnnaaGreatM2
import Derived.BigRegion
set_option linter.unusedVariables false
set_option linter.unusedSimpArgs false
namespace Go.Proofs.YtngfalbabgpnnaaGreat
open Go.RowKit

set_option maxHeartbeats 1000000 in
theorem Get_calls (w : World) (p : Nat) (S : St) (h : Int) (H : Ar w p S) :
    Calls Tryz.prog 47 #[.pointer (some ⟨p, 0, none⟩), .int .i64 h] w fun e w' => e = .returned (.tuple #[.agg (S.node h).arr, .bool (S.used h)]) ∧ Below w.heap.size w w' := by
  have HS := fun w' (h : Below w.heap.size w w') => Size_calls w' p S (H.below h)
  obtain ⟨⟨bn, bc, bu, v, H⟩, W⟩ := H
  obtain ⟨c0, c1, c2, c3, c4, c5⟩ := H.hc
  have hn := W.nle
  have lp := H.head.lt
  have ln := H.nodes.lt
  have lu := H.useds.lt
  by_cases h1 : h < 1
  · have HO := hid (W.free h (W.out h (Or.inl h1))).1
    have HU := hid (W.out h (Or.inl h1))
    have k : ¬ (1 ≤ h) := by omega
    go_enter Tryz.func47, Tryz.ntmps47
    go_wp2
    refine bodyPost_ret (v := .tuple #[.agg Nd.zero.arr, .bool false]) (by simp [results, Tryz.results47, go_sem, Nd.arr, Nd.zero]) rfl ⟨by rw [HO.out, HU.out], ?_⟩
    exact (Below.refl _ _).alloc (Nat.le_refl _) _
  · by_cases h2 : (S.n : Int) < h
    · have HO := hid (W.free h (W.out h (Or.inr h2))).1
      have HU := hid (W.out h (Or.inr h2))
      go_enter Tryz.func47, Tryz.ntmps47
      go_wp2_with (go_at_call 50; refine (HS _ (by repeat (first | exact Below.refl _ _ | (refine Below.alloc ?_ (by simp) _)))).mono ?_; rintro e w' ⟨rfl, rfl⟩)
      refine bodyPost_ret (v := .tuple #[.agg Nd.zero.arr, .bool false]) (by simp [results, Tryz.results47, go_sem, Nd.arr, Nd.zero]) rfl ⟨by rw [HO.out, HU.out], ?_⟩
      exact (Below.refl _ _).alloc (Nat.le_refl _) _
    · obtain ⟨k, rfl⟩ := Int.eq_ofNat_of_zero_le (show 0 ≤ h by omega)
      have c6 := H.useds.cell k (by omega)
      obtain ⟨d0, d1, d2, d3, d4, d5, d6⟩ := H.nodeCells k (by omega)
      have hk : (k : Int) < ((S.n + 1 : Nat) : Int) := by omega
      cases hu : S.used (k : Int) with
      | false =>
        have HO := hid (W.free k hu).1
        rw [hu] at c6
        clear hu
        go_enter Tryz.func47, Tryz.ntmps47
        go_wp2_with (go_at_call 50; refine (HS _ (by repeat (first | exact Below.refl _ _ | (refine Below.alloc ?_ (by simp) _)))).mono ?_; rintro e w' ⟨rfl, rfl⟩)
        refine bodyPost_ret (v := .tuple #[.agg Nd.zero.arr, .bool false]) (by simp [results, Tryz.results47, go_sem, Nd.arr, Nd.zero]) rfl ⟨by rw [HO.out], ?_⟩
        exact (Below.refl _ _).alloc (Nat.le_refl _) _
      | true =>
        rw [hu] at c6
        clear hu
        go_enter Tryz.func47, Tryz.ntmps47
        go_wp2_with (go_at_call 50; refine (HS _ (by repeat (first | exact Below.refl _ _ | (refine Below.alloc ?_ (by simp) _)))).mono ?_; rintro e w' ⟨rfl, rfl⟩)
        refine bodyPost_ret (v := .tuple #[.agg (S.node k).arr, .bool true]) (by simp [results, Tryz.results47, go_sem, Nd.arr]) rfl ⟨rfl, ?_⟩
        exact (Below.refl _ _).alloc (Nat.le_refl _) _
end Go.Proofs.YtngfalbabgpnnaaGreat

namespace Go.Proofs.YtngfalbabgpnnaaGreat
open Go.RowKit

theorem info_int : (Tryz.prog.info? 3).map (fun i => (i.zero, i.size, i.bytes)) = some (some (.int .i64 0), 1, 8) := by kernel_rfl

/-- What the head and the rows are behind a.wait = append(a.wait, h): the arm with room. -/
theorem ArB.waitRoom {w : World} {p bn bc bu g off cap : Nat} {S : St} {k : Int} {l : List Int} (hl : S.wait = l) (H : ArB w p bn bc bu (.slice (some ⟨g, off, none⟩) l.length cap) S)
    (hr : l.length + 1 ≤ cap) :
    ArB ((w.setCell ⟨g, off + l.length, none⟩ (.int .i64 k)).setCell ⟨p, 3, none⟩ (.slice (some ⟨g, off, none⟩) (l.length + 1) cap)) p bn bc bu (.slice (some ⟨g, off, none⟩) (l.length + 1) cap) (S.setWait (l ++ [k])) := by
  subst hl
  have nv := H.nv g rfl
  rcases H.waits with ⟨h, _⟩ | ⟨g', off', cap', cur, T, h, hg, h1, h2, h3⟩
  · cases h
  · simp at h
    obtain ⟨⟨rfl, rfl⟩, rfl⟩ := h
    have hg' := heap_setCell_same w g (off + S.wait.length) cur T (.int .i64 k) hg
    have H1 : ArB (w.setCell ⟨g, off + S.wait.length, none⟩ (.int .i64 k)) p bn bc bu (.slice (some ⟨g, off, none⟩) S.wait.length cap) S := by
      refine ⟨H.head.other _ (Ne.symm nv.1), H.nodes.other _ (Ne.symm nv.2.1), H.cnts.other _ (Ne.symm nv.2.2.1), H.useds.other _ (Ne.symm nv.2.2.2), Or.inr ⟨g, off, cap, _, T, rfl, hg', h1, by simpa using h2, fun i x hx => ?_⟩, H.ne, H.nv⟩
      have : i < S.wait.length := (List.getElem?_eq_some_iff.1 hx).1
      rw [Array.getElem?_setIfInBounds, if_neg (by omega)]
      exact h3 i x hx
    refine H1.setWait _ _ (Or.inr ⟨g, off, cap, _, T, ?_, hg', by simpa using hr, by simpa using h2, fun i x hx => ?_⟩) (fun g' hg' => by simp [Value.ownBlock] at hg'; subst hg'; exact nv)
    · simp
    · rw [Array.getElem?_setIfInBounds]
      by_cases e : i < S.wait.length
      · rw [if_neg (by omega)]
        rw [List.getElem?_append_left e] at hx
        exact h3 i x hx
      · have hi : i = S.wait.length := by
          have := (List.getElem?_eq_some_iff.1 hx).1
          simp at this; omega
        subst hi
        simp at hx
        subst hx
        rw [if_pos rfl, if_pos (by omega)]

/-- The arm that grows: another row. -/
theorem ArB.waitGrow {w w1 : World} {p bn bc bu : Nat} {v v' : Value} {S : St} {k : Int} {base n : Nat} {T : TypeId} {xs : List Value} (H : ArB w p bn bc bu v S)
    (hw : ∀ b, Foot w p b → w1.heap[b]? = w.heap[b]?) (hb : w.heap.size ≤ base) (hn : n = S.wait.length + 1) (hxs : xs = S.wait.map (Value.int .i64) ++ [.int .i64 k]) (ho : w1.ownsRow base T 1 v' n xs) :
    ArB (w1.setCell ⟨p, 3, none⟩ v') p bn bc bu v' (S.setWait (S.wait ++ [k])) := by
  have H1 := H.of_heap hw
  subst hn; subst hxs
  obtain ⟨hl, h | ⟨g, cap, cur, rfl, hg, hh, hc, _, hs, ht⟩⟩ := ho
  · omega
  · refine H1.setWait _ _ (Or.inr ⟨g, 0, cap, cur, T, by simp, hh, by simpa using hc, by omega, fun i x hx => ?_⟩) (fun g' hg' => ?_)
    · have hi : i < S.wait.length + 1 := by have := (List.getElem?_eq_some_iff.1 hx).1; simpa using this
      have : (cur.toList.take ((S.wait.length + 1) * 1))[i]? = some (.int .i64 x) := by
        rw [ht, ← List.map_singleton (f := Value.int .i64), ← List.map_append, List.getElem?_map, hx]; rfl
      rw [List.getElem?_take, if_pos (by omega)] at this
      simpa using this
    · simp [Value.ownBlock] at hg'
      subst hg'
      have f := fun b hb => H.foot_lt b ((H.foot_iff b).2 hb)
      have a1 := f p (by simp)
      have a2 := f bn (by simp)
      have a3 := f bc (by simp)
      have a4 := f bu (by simp)
      omega

set_option maxHeartbeats 1000000 in
theorem Drop_calls (w : World) (p : Nat) (S : St) (h : Int) (H : Ar w p S) : Calls Tryz.prog 15 #[.pointer (some ⟨p, 0, none⟩), .int .i64 h] w fun e w' => e = .returned (.int .i64 (S.dropE h)) ∧ Ar w' p (S.drop h) ∧ Fr [] p w w' := by
  have HC := Count_calls w p S h H
  have HA := H
  obtain ⟨⟨bn, bc, bu, v, H⟩, W⟩ := H
  obtain ⟨c0, c1, c2, c3, c4, c5⟩ := H.hc
  have hn := W.nle
  by_cases hc : S.cnt h = 0
  · have hcb : (S.cnt h == 0) = true := by simp [hc]
    have E1 := hid (show S.dropE h = 9 by simp [St.dropE, hc])
    have E2 := hid (show S.drop h = S by simp [St.drop, hc])
    clear hc
    go_enter Tryz.func15, Tryz.ntmps15
    go_wp2_with (go_at_call 48; refine HC.mono ?_; rintro e w' ⟨rfl, rfl⟩)
    go_ret
    exact ⟨by rw [E1.out]; rfl, by rw [E2.out]; exact HA, Fr.refl _ _ _⟩
  · have hcb : (S.cnt h == 0) = false := by simp [hc]
    have E1 := hid (show S.dropE h = 0 by simp [St.dropE, hc])
    have hr : ¬ (h < 1 ∨ (S.n : Int) < h) := fun q => hc (W.free h (W.out h q)).2
    have WD := hid (W.drop h)
    have hl := W.wait_len
    obtain ⟨k, rfl⟩ := Int.eq_ofNat_of_zero_le (show 0 ≤ h by omega)
    have c6 := H.cnts.cell k (by omega)
    have f6 := H.cnts.frozen k
    have fp := H.hfz
    have hk : (k : Int) < ((S.n + 1 : Nat) : Int) := by omega
    have H1 := H.setCnt k (wrap64 (S.cnt k - 1))
    have F1 : Fr [] p w (w.setCell ⟨bc, k, none⟩ (.int .i64 (wrap64 (S.cnt k - 1)))) := Fr.setFoot _ ((H.foot_iff _).2 (by simp)) (Ne.symm H.ne.2.1)
    have n1 : bc ≠ p := Ne.symm H.ne.2.1
    have lp := H.head.lt
    by_cases hz : wrap64 (S.cnt k - 1) = 0
    · have hzb : (wrap64 (S.cnt k - 1) == 0) = true := by simp [hz]
      have E2 := hid (show S.drop k = (S.setCnt k (wrap64 (S.cnt k - 1))).setWait (S.wait ++ [(k : Int)]) by simp [St.drop, hc, hz])
      clear hz hc
      obtain ⟨i0, hi, hz0, hz1, hz2⟩ := info_parts info_int
      rcases H.waits with ⟨rfl, h0⟩ | ⟨g, off, cap, cur, T, rfl, hg, hlc, hoc, hcur⟩
      · have H0 := hid h0
        clear h0
        go_enter Tryz.func15, Tryz.ntmps15
        go_wp2_with (first | (go_at_call 48; refine HC.mono ?_; rintro e w' ⟨rfl, rfl⟩) | (at_builtin; refine wpList_append_grows _ rfl (.tmp 30) (.tmp 32) 50 rfl 3 i0 (.int .i64 0) 1 8 Tryz.underlying50 hi hz0 hz1 hz2 rfl (by decide) none 0 0 [] rfl (fun _ => ⟨rfl, rfl⟩) rfl (by intro _ _ _ _ h; simp at h) ⟨w.heap.size, 0, none⟩ 1 1 [.int .i64 k] rfl rfl ?c1 ?c2 (by omega) (by unfold maxLen; omega) (by omega) ?grow))
        case c1 => intro j u hj; match j, hj with | 0, hj => simp at hj; subst hj; simp only [Addr.add, if_true]; rw [World.cell?_alloc_at _ _ _ _ (by simp)]; rfl
        case c2 => intro u hu; simp at hu; subst hu; rfl
        case grow =>
          intro v' w1 hown hgrow
          have hb := hgrow.block
          obtain ⟨g, cap', rfl⟩ : ∃ g cap', v' = .slice (some ⟨g, 0, none⟩) (0 + 1) cap' := by
            rcases hown.2 with ⟨_, h⟩ | ⟨g, cap', _, h, _⟩
            · omega
            · exact ⟨g, cap', h⟩
          have k1 : ∀ b, b < w.heap.size → w1.heap[b]? = (w.setCell ⟨bc, k, none⟩ (.int .i64 (wrap64 (S.cnt k - 1)))).heap[b]? := fun b hb' =>
            (hb b (by simp; omega) (by simp)).trans (hao _ _ b (by simpa using hb'))
          have k2 := (World.cell?_of_block (a := ⟨p, 3, none⟩) (k1 p lp)).trans (H1.head.cell 3 (by omega))
          have k3 := (World.frozen?_of_block (a := ⟨p, 3, none⟩) (k1 p lp)).trans (H1.head.frozen 3)
          simp only [headF] at k2
          have F2 : Fr [] p w w1 := ⟨hgrow.os, hgrow.tape, hgrow.output, by have := hgrow.size; simp at this; omega, fun b h1 h2 _ => (k1 b h1).trans (F1.block b h1 h2 (by simp)), fun b hb => F1.foot b ((Foot.congr (k1 p lp)).1 hb)⟩
          have F3 := F2.setHead (i := 3) lp (.slice (some ⟨g, 0, none⟩) (0 + 1) cap') (fun g' hg' => by
            have e : g = g' := by simpa [Value.ownBlock] using hg'
            subst e
            rcases hown.2 with ⟨_, h⟩ | ⟨g', _, _, h, hge, _⟩
            · omega
            · have e : g = g' := by simpa using (Value.slice.inj h).1
              subst e
              exact Or.inr (by omega))
          have H2 := hid (H1.waitGrow (k := (k : Int)) (w1 := w1) (v' := .slice (some ⟨g, 0, none⟩) (0 + 1) cap') (fun b hb => k1 b (by have := H1.foot_lt b hb; simpa using this)) (by simp) (by simp [St.setCnt, H0.out]) (by simp [St.setCnt, H0.out]) hown)
          clear hown hgrow hb k1 F2
          go_wp2
          go_ret
          exact ⟨by rw [E1.out]; rfl, ⟨⟨_, _, _, _, by rw [E2.out]; exact H2.out⟩, WD.out⟩, F3⟩
      · have lg : g < w.heap.size := (Array.getElem?_eq_some_iff.1 hg).1
        have nv := H.nv g rfl
        have n2 : bc ≠ g := Ne.symm nv.2.2.1
        have n3 : g ≠ p := nv.1
        have fg : ∀ i, w.frozen? ⟨g, i, none⟩ = false := fun i => by simp [World.frozen?, hg]
        have cg : ∀ i, i < cap → (w.cell? ⟨g, off + i, none⟩).isSome = true := fun i hi => by simp [World.cell?, hg]; omega
        have og : ∀ j u, (S.wait.map (Value.int .i64))[j]? = some u → w.cell? ⟨g, off + j, none⟩ = some u := fun j u hu => by
          rw [List.getElem?_map] at hu
          cases hx : S.wait[j]? with
          | none => rw [hx] at hu; cases hu
          | some x =>
            rw [hx] at hu
            have := hcur j x hx
            simp [World.cell?, hg, this]
            simpa using hu
        go_enter Tryz.func15, Tryz.ntmps15
        go_wp2_with (first | (go_at_call 48; refine HC.mono ?_; rintro e w' ⟨rfl, rfl⟩) | (at_builtin; refine wpList_append_arg _ rfl (.tmp 30) (.tmp 32) 50 rfl 3 i0 (.int .i64 0) 1 8 Tryz.underlying50 hi hz0 hz1 hz2 rfl (by decide) g off S.wait.length cap (S.wait.map (Value.int .i64)) rfl ?lo ?olds ⟨w.heap.size, 0, none⟩ 1 1 [.int .i64 k] rfl rfl ?c1 ?c2 ?spare ?b1 ?b2 ?room ?grow))
        case lo => simp
        case olds =>
          intro j u hu
          rw [World.cell?_alloc_past _ _ _ (by simpa using lg), World.cell?_setCell_other _ _ _ _ (by simp only [ne_eq, Addr.mk.injEq]; exact fun h => n2 h.1)]
          exact og j u hu
        case c1 => intro j u hj; match j, hj with | 0, hj => simp at hj; subst hj; simp only [Addr.add, if_true]; rw [World.cell?_alloc_at _ _ _ _ (by simp)]; rfl
        case c2 => intro u hu; simp at hu; subst hu; rfl
        case spare =>
          intro hr j hj
          have hj0 : j = 0 := by simpa using hj
          subst hj0
          rw [World.cell?_alloc_past _ _ _ (by simpa using lg), World.frozen?_alloc_past _ _ _ (by simpa using lg), World.cell?_setCell_other _ _ _ _ (by simp only [ne_eq, Addr.mk.injEq]; exact fun h => n2 h.1), World.frozen?_setCell, Nat.mul_one, Nat.add_zero]
          exact ⟨cg _ (by omega), fg _⟩
        case b1 => unfold maxLen; omega
        case b2 => omega
        case room =>
          intro hr
          have H2 := hid (ArB.waitRoom (S := S.setCnt k (wrap64 (S.cnt k - 1))) (k := (k : Int)) (l := S.wait) rfl H1 hr)
          have F2 := F1.setOwnFoot (a := ⟨g, off + S.wait.length, none⟩) (.int .i64 k) (Or.inl ((H.foot_iff g).2 (by simp [Value.ownBlock]))) n3
          have F3 := F2.setHead (i := 3) lp (.slice (some ⟨g, off, none⟩) (S.wait.length + 1) cap) (fun g' hg' => Or.inl ((H.foot_iff g').2 (Or.inr (Or.inr (Or.inr (Or.inr hg'))))))
          simp only [World.setCells]
          have cgs := cg S.wait.length (by omega)
          obtain ⟨u, hu⟩ := Option.isSome_iff_exists.1 cgs
          have hu' : (w.setCell ⟨bc, k, none⟩ (.int .i64 (wrap64 (S.cnt k - 1)))).cell? ⟨g, off + S.wait.length, none⟩ = some u := by
            rw [World.cell?_setCell_other _ _ _ _ (by simp only [ne_eq, Addr.mk.injEq]; exact fun h => n2 h.1)]; exact hu
          clear cgs cg og hcur fg hlc
          go_wp2
          go_ret
          exact ⟨by rw [E1.out]; rfl, ⟨⟨_, _, _, _, by rw [E2.out]; have := H2.out.alloc (.cells #[.int .i64 k] 3); simpa using this⟩, WD.out⟩, by simpa using F3.alloc (by simpa using lp) (.cells #[.int .i64 k] 3)⟩
        case grow =>
          intro hgr v' w1 hown hgrow
          have hb := hgrow.block
          obtain ⟨g', cap', rfl⟩ : ∃ g' cap', v' = .slice (some ⟨g', 0, none⟩) (S.wait.length + 1) cap' := by
            rcases hown.2 with ⟨_, h⟩ | ⟨g', cap', _, h, _⟩
            · omega
            · exact ⟨g', cap', h⟩
          have k1 : ∀ b, b < w.heap.size → w1.heap[b]? = (w.setCell ⟨bc, k, none⟩ (.int .i64 (wrap64 (S.cnt k - 1)))).heap[b]? := fun b hb' =>
            (hb b (by simp; omega) (by simp)).trans (hao _ _ b (by simpa using hb'))
          have k2 := (World.cell?_of_block (a := ⟨p, 3, none⟩) (k1 p lp)).trans (H1.head.cell 3 (by omega))
          have k3 := (World.frozen?_of_block (a := ⟨p, 3, none⟩) (k1 p lp)).trans (H1.head.frozen 3)
          simp only [headF] at k2
          have F2 : Fr [] p w w1 := ⟨hgrow.os, hgrow.tape, hgrow.output, by have := hgrow.size; simp at this; omega, fun b h1 h2 _ => (k1 b h1).trans (F1.block b h1 h2 (by simp)), fun b hb => F1.foot b ((Foot.congr (k1 p lp)).1 hb)⟩
          have F3 := F2.setHead (i := 3) lp (.slice (some ⟨g', 0, none⟩) (S.wait.length + 1) cap') (fun g1 hg1 => by
            have e : g' = g1 := by simpa [Value.ownBlock] using hg1
            subst e
            rcases hown.2 with ⟨_, h⟩ | ⟨g', _, _, h, hge, _⟩
            · omega
            · have e := (Value.slice.inj h).1
              simp only [Option.some.injEq, Addr.mk.injEq] at e
              rw [e.1]
              exact Or.inr (by omega))
          have H2 := hid (H1.waitGrow (k := (k : Int)) (w1 := w1) (v' := .slice (some ⟨g', 0, none⟩) (S.wait.length + 1) cap') (fun b hb => k1 b (by have := H1.foot_lt b hb; simpa using this)) (by simp) (by simp [St.setCnt]) (by simp [St.setCnt]) hown)
          clear hown hgrow hb k1 F2 og cg fg hcur hgr
          go_wp2
          go_ret
          exact ⟨by rw [E1.out]; rfl, ⟨⟨_, _, _, _, by rw [E2.out]; exact H2.out⟩, WD.out⟩, F3⟩
    · have hzb : (wrap64 (S.cnt k - 1) == 0) = false := by simp [hz]
      have E2 := hid (show S.drop k = S.setCnt k (wrap64 (S.cnt k - 1)) by simp [St.drop, hc, hz])
      clear hz hc
      go_enter Tryz.func15, Tryz.ntmps15
      go_wp2_with (go_at_call 48; refine HC.mono ?_; rintro e w' ⟨rfl, rfl⟩)
      go_ret
      exact ⟨by rw [E1.out]; rfl, ⟨⟨_, _, _, _, by rw [E2.out]; exact H1⟩, WD.out⟩, F1⟩

theorem free_calls (w : World) (p : Nat) (S : St) (H : Ar w p S) : Calls Tryz.prog 97 #[.pointer (some ⟨p, 0, none⟩)] w fun e w' => e = .returned (.int .i64 S.free) ∧ w = w' := by
  have HS := Size_calls w p S H
  obtain ⟨⟨bn, bc, bu, v, H⟩, W⟩ := H
  obtain ⟨c0, c1, c2, c3, c4, c5⟩ := H.hc
  have hn := W.nle
  have hcell := fun (k : Nat) (hk : k < S.n + 1) => H.useds.cell k hk
  go_enter Tryz.func97, Tryz.ntmps97
  go_wp2
  go_loop [3] (fun i => ∃ k : Nat, k ≤ S.n ∧ i = .int .i64 ((k : Int) + 1) ∧ Hid (S.free = S.freeFrom (S.n - k) ((k : Int) + 1))) (fun i => S.n - (intOf i - 1).toNat)
  case atStart => exact ⟨0, Nat.zero_le _, rfl, hid rfl⟩
  case round =>
    obtain ⟨k, hk, rfl, hf⟩ := hrel
    by_cases hlt : k < S.n
    · have hc := hcell (k + 1) (by omega)
      have hlt' : (k : Int) + 1 ≤ (S.n : Int) := by omega
      have hi : (k : Int) + 1 < ((S.n + 1 : Nat) : Int) := by omega
      simp only [Int.natCast_add, Int.cast_ofNat_Int] at hc
      clear hcell
      cases hu : S.used ((k : Int) + 1) with
      | true =>
        rw [hu] at hc
        have hf' := hid (show S.free = S.freeFrom (S.n - (k + 1)) ((k : Int) + 1 + 1) by
          rw [hf.out, show S.n - k = (S.n - (k + 1)) + 1 by omega]; simp [St.freeFrom, hu])
        clear hu hf
        go_wp2_with (go_at_call 50; refine HS.mono ?_; rintro e w' ⟨rfl, rfl⟩)
        go_round
        case rel => exact ⟨k + 1, by omega, by go_num, hf'⟩
        case measure => simp [intOf]; omega
      | false =>
        rw [hu] at hc
        have hf' := hid (show S.free = (k : Int) + 1 by
          rw [hf.out, show S.n - k = (S.n - (k + 1)) + 1 by omega]; simp [St.freeFrom, hu])
        clear hu hf
        go_wp2_with (go_at_call 50; refine HS.mono ?_; rintro e w' ⟨rfl, rfl⟩)
        go_ret
        exact ⟨by rw [hf'.out]; rfl, rfl⟩
    · have hlt' : ¬ ((k : Int) + 1 ≤ (S.n : Int)) := by omega
      have hf' := hid (show S.free = 0 by rw [hf.out, show S.n - k = 0 by omega]; rfl)
      clear hf
      go_wp2_with (go_at_call 50; refine HS.mono ?_; rintro e w' ⟨rfl, rfl⟩)
      go_ret
      exact ⟨by rw [hf'.out]; rfl, rfl⟩
end Go.Proofs.YtngfalbabgpnnaaGreat

namespace Go.Proofs.YtngfalbabgpnnaaGreat
open Go.RowKit

theorem idx4 (x0 x1 x2 x3 : Int) : (∀ w, (Instr.index 81 (.agg #[.int .i64 x0, .int .i64 x1, .int .i64 x2, .int .i64 x3]) (.int .i64 0)).run Tryz.prog w = .ok (.int .i64 x0) w) ∧
    (∀ w, (Instr.index 81 (.agg #[.int .i64 x0, .int .i64 x1, .int .i64 x2, .int .i64 x3]) (.int .i64 1)).run Tryz.prog w = .ok (.int .i64 x1) w) ∧
    (∀ w, (Instr.index 81 (.agg #[.int .i64 x0, .int .i64 x1, .int .i64 x2, .int .i64 x3]) (.int .i64 2)).run Tryz.prog w = .ok (.int .i64 x2) w) ∧
    (∀ w, (Instr.index 81 (.agg #[.int .i64 x0, .int .i64 x1, .int .i64 x2, .int .i64 x3]) (.int .i64 3)).run Tryz.prog w = .ok (.int .i64 x3) w) :=
  ⟨fun _ => by kernel_rfl, fun _ => by kernel_rfl, fun _ => by kernel_rfl, fun _ => by kernel_rfl⟩

/-- The memory behind the round's stores. -/
theorem ArB.popped {w : World} {p bn bc bu g off cap j off' cap' : Nat} {cur : Array Value} {T TA : TypeId} {S : St} {l : List Int} {b x0 x1 x2 x3 : Int} (B : ArB w p bn bc bu (.slice (some ⟨g, off, none⟩) S.wait.length cap) S) (hw : S.wait = (j : Int) :: l)
    (hg : w.heap[g]? = some (.cells cur T (0, 0))) (hoc : off + cap ≤ cur.size) (hcur : ∀ i x, S.wait[i]? = some x → cur[off + i]? = some (.int .i64 x)) (hb : b = wrap64 (S.busy - 1))
    (h1 : l.length ≤ cap') (h2 : off' + cap' ≤ off + cap) (h3 : 0 < l.length → off' = off + 1) :
    ArB (((((((((((w.setCell ⟨p, 3, none⟩ (.slice (some ⟨g, off', none⟩) l.length cap')).setCell ⟨bn, j * 7, none⟩ (.int .i64 0)).setCell ⟨bn, j * 7 + 1, none⟩ (.int .i64 0)).setCell ⟨bn, j * 7 + 2, none⟩ (.int .i64 0)).setCell
      ⟨bn, j * 7 + 3, none⟩ (.int .i64 0)).setCell ⟨bn, j * 7 + 4, none⟩ (.int .i64 0)).setCell ⟨bn, j * 7 + 5, none⟩ (.int .u64 0)).setCell ⟨bn, j * 7 + 6, none⟩ (.int .u64 0)).setCell ⟨bu, j, none⟩ (.bool false)).setCell ⟨p, 4, none⟩ (.int .i64 b)).alloc (.cells #[.int .i64 x0, .int .i64 x1, .int .i64 x2, .int .i64 x3] TA)).drew
      p bn bc bu (.slice (some ⟨g, off', none⟩) l.length cap') (S.pop j l) := by
  subst hb
  have B1 := B.setWait (.slice (some ⟨g, off', none⟩) l.length cap') l (Or.inr ⟨g, off', cap', cur, T, rfl, hg, h1, by omega, fun i x hx => by
    have hi : i < l.length := (List.getElem?_eq_some_iff.1 hx).1
    have := hcur (i + 1) x (by rw [hw]; simpa using hx)
    rw [h3 (by omega), show off + 1 + i = off + (i + 1) by omega]
    exact this⟩) (fun g' hg' => B.nv g' hg')
  exact ((((B1.setNode j Nd.zero).setUsed j false).setBusy (wrap64 (S.busy - 1))).alloc _).drew

theorem Fr.popped {w : World} {p bn bc bu g off cap j off' cap' : Nat} {TA : TypeId} {S : St} {l : List Int} {b x0 x1 x2 x3 : Int} (B : ArB w p bn bc bu (.slice (some ⟨g, off, none⟩) S.wait.length cap) S)
    (B2 : ArB ((((((((((((w.setCell ⟨p, 3, none⟩ (.slice (some ⟨g, off', none⟩) l.length cap')).setCell ⟨bn, j * 7, none⟩ (.int .i64 0)).setCell ⟨bn, j * 7 + 1, none⟩ (.int .i64 0)).setCell ⟨bn, j * 7 + 2, none⟩ (.int .i64 0)).setCell
      ⟨bn, j * 7 + 3, none⟩ (.int .i64 0)).setCell ⟨bn, j * 7 + 4, none⟩ (.int .i64 0)).setCell ⟨bn, j * 7 + 5, none⟩ (.int .u64 0)).setCell ⟨bn, j * 7 + 6, none⟩ (.int .u64 0)).setCell ⟨bu, j, none⟩ (.bool false)).setCell ⟨p, 4, none⟩ (.int .i64 b)).alloc (.cells #[.int .i64 x0, .int .i64 x1, .int .i64 x2, .int .i64 x3] TA)).drew) p bn bc bu (.slice (some ⟨g, off', none⟩) l.length cap') (S.pop j l)) : Fr [] p w ((((((((((((w.setCell ⟨p, 3, none⟩ (.slice (some ⟨g, off', none⟩) l.length cap')).setCell ⟨bn, j * 7, none⟩ (.int .i64 0)).setCell ⟨bn, j * 7 + 1, none⟩ (.int .i64 0)).setCell ⟨bn, j * 7 + 2, none⟩ (.int .i64 0)).setCell
      ⟨bn, j * 7 + 3, none⟩ (.int .i64 0)).setCell ⟨bn, j * 7 + 4, none⟩ (.int .i64 0)).setCell ⟨bn, j * 7 + 5, none⟩ (.int .u64 0)).setCell ⟨bn, j * 7 + 6, none⟩ (.int .u64 0)).setCell ⟨bu, j, none⟩ (.bool false)).setCell ⟨p, 4, none⟩ (.int .i64 b)).alloc (.cells #[.int .i64 x0, .int .i64 x1, .int .i64 x2, .int .i64 x3] TA)).drew) := by
  refine Fr.of_arB B B2 (fun g h => Or.inl h) (by simp only [os_setCell, os_alloc, os_drew]) (by simp only [tape_setCell, tape_alloc, tape_drew]) (by simp only [output_setCell, output_alloc, output_drew]) (by simp) fun b h0 h1 h2 h3 h4 h5 => ?_
  rw [heap_drew, hao _ _ _ (by simpa using h0)]
  have e := fun (w : World) (a : Addr) (v : Value) (h : b ≠ a.block) => heap_setCell_other w a b v h
  rw [e _ _ _ (show b ≠ (⟨p, 4, none⟩ : Addr).block from h1), e _ _ _ (show b ≠ (⟨bu, j, none⟩ : Addr).block from h4)]
  rw [e _ ⟨bn, j * 7 + 6, none⟩ _ h2, e _ ⟨bn, j * 7 + 5, none⟩ _ h2, e _ ⟨bn, j * 7 + 4, none⟩ _ h2, e _ ⟨bn, j * 7 + 3, none⟩ _ h2, e _ ⟨bn, j * 7 + 2, none⟩ _ h2, e _ ⟨bn, j * 7 + 1, none⟩ _ h2, e _ ⟨bn, j * 7, none⟩ _ h2, e _ ⟨p, 3, none⟩ _ h1]

set_option maxHeartbeats 1000000 in
set_option maxRecDepth 100000 in
theorem Work_calls (w : World) (p : Nat) (S : St) (most : Int) (k : Nat) (r : Int) (S' : St) (H : Ar w p S) (hw : S.work k most 0 = some (r, S')) :
    Calls Tryz.prog 16 #[.pointer (some ⟨p, 0, none⟩), .int .i64 most] w fun e w' => e = .returned (.int .i64 r) ∧ Ar w' p S' ∧ Fr [] p w w' := by
  have HW := hid hw
  clear hw
  go_enter Tryz.func16, Tryz.ntmps16
  go_wp2
  refine wp_scope_fuel 0 (fun k a w' => ∃ (n : Int) (S1 : St), (∃ u : Nat → Value, a = { tmps := #[.pointer (some ⟨p, 0, none⟩), .int .i64 most, u 2, u 3, .int .i64 0, .int .i64 n, u 6, u 7, u 8, u 9, u 10, u 11, u 12, u 13, u 14, u 15, u 16, u 17, u 18, u 19, u 20, u 21, u 22, u 23, u 24, u 25, u 26, u 27, u 28, u 29, u 30, u 31, u 32, u 33, u 34, u 35, u 36, u 37, u 38, u 39, u 40, u 41, u 42, u 43, u 44, u 45, u 46, u 47, u 48, u 49, u 50, u 51, u 52, u 53, u 54, u 55, u 56, u 57, u 58, u 59, u 60, u 61, u 62, u 63, u 64, u 65, u 66, u 67, u 68, u 69, u 70], defers := [] }) ∧ Ar w' p S1 ∧ Fr [] p w w' ∧ Hid (S1.work k most n = some (r, S'))) rfl ?_ ?_
  · rintro k a w1 ⟨n, S1, ⟨u, rfl⟩, H1, F1, hk⟩
    obtain ⟨k, rfl⟩ : ∃ m, k = m + 1 := by
      cases k with
      | zero => exact absurd hk.out (by simp [St.work])
      | succ m => exact ⟨m, rfl⟩
    have HP := Pending_calls w1 p S1 H1
    by_cases h1 : most ≤ n
    · have E := hid (show n = r ∧ S1 = S' by have := hk.out; simpa [St.work, h1] using this)
      clear hk
      go_wp2
      simp only [Exit.jump]
      go_ret
      obtain ⟨rfl, rfl⟩ := E.out
      exact ⟨rfl, H1, F1⟩
    · cases hwt : S1.wait with
      | nil =>
        have E := hid (show n = r ∧ S1 = S' by have := hk.out; simpa [St.work, h1, hwt] using this)
        rw [hwt] at HP
        clear hk hwt
        go_wp2_with (go_at_call 24; refine HP.mono ?_; rintro e w' ⟨rfl, rfl⟩)
        simp only [Exit.jump]
        go_ret
        obtain ⟨rfl, rfl⟩ := E.out
        exact ⟨rfl, H1, F1⟩
      | cons h l =>
        rw [hwt] at HP
        have HP' : Calls Tryz.prog 24 #[.pointer (some ⟨p, 0, none⟩)] w1 fun e w' => e = .returned (.int .i64 ((l.length : Int) + 1)) ∧ w1 = w' := by simpa using HP
        have hne : ((l.length : Int) + 1 == 0) = false := by simp; omega
        have E := hid (show S1.work1.work k most (wrap64 (n + 1)) = some (r, S') by have := hk.out; simpa [St.work, h1, hwt] using this)
        have E1 := hid (St.work1_cons hwt)
        obtain ⟨⟨bn, bc, bu, v, B⟩, W⟩ := H1
        have hm : h ∈ S1.wait := by rw [hwt]; exact List.mem_cons_self
        have hh := W.win h hm
        have hr : ¬ (h < 1 ∨ (S1.n : Int) < h) := fun q => by rw [W.out h q] at hh; cases hh.1
        have WP := hid (W.pop hwt)
        have hl := W.wait_len
        rw [hwt] at hl
        obtain ⟨c0, c1, c2, c3, c4, c5⟩ := B.hc
        have fp := B.hfz
        have fn := fun i => B.nodes.frozen i
        have fu := fun i => B.useds.frozen i
        obtain ⟨j, rfl⟩ := Int.eq_ofNat_of_zero_le (show 0 ≤ h by omega)
        obtain ⟨d0, d1, d2, d3, d4, d5, d6⟩ := B.nodeCells j (by omega)
        have cu := B.useds.cell j (by omega)
        have hj : (j : Int) < ((S1.n + 1 : Nat) : Int) := by omega
        obtain ⟨n1, n2, n3, n4, n5, n6⟩ := B.ne
        have lp := B.head.lt
        have ln := B.nodes.lt
        have lu := B.useds.lt
        have hn := W.nle
        rcases B.waits with ⟨_, h0⟩ | ⟨g, off, cap, cur, T, rfl, hg, hlc, hoc, hcur⟩
        · rw [hwt] at h0; cases h0
        · have c6 : w1.cell? ⟨g, off, none⟩ = some (.int .i64 j) := by
            have := hcur 0 j (by rw [hwt]; rfl)
            simpa [World.cell?, hg] using this
          rw [hwt, List.length_cons] at c3 hlc
          have P1 := fun off' cap' (h1 : l.length ≤ cap') (h2 : off' + cap' ≤ off + cap) (h3 : 0 < l.length → off' = off + 1) => @ArB.popped w1 p bn bc bu g off cap j off' cap' cur T 81 S1 l (wrap64 (S1.busy - 1)) (S1.node j).k0 (S1.node j).k1 (S1.node j).k2 (S1.node j).k3 B hwt hg hoc hcur rfl h1 h2 h3
          have HP1 := hid P1
          have nv := B.nv g rfl
          clear hk HP hm hh hwt hcur P1
          by_cases hcap : cap = 1
          · subst hcap
            have hl0 : l.length = 0 := by omega
            obtain rfl : l = [] := List.length_eq_zero_iff.1 hl0
            simp only [List.length_nil] at c3 hne HP' hlc
            clear hl0 hlc
            go_wp2_with (go_at_call 24; refine HP'.mono ?_; rintro e w' ⟨rfl, rfl⟩)
            go_region
            go_wp2
            go_loopw [62] (fun c wr => ∃ i : Nat, i ≤ 4 ∧ c = .int .i64 i ∧ Ar wr p ((S1.pop j []).drops (S1.node j) i) ∧ Fr [] p w wr) (fun c _ => 4 - (intOf c).toNat)
            case atStart =>
              have B2 := HP1.out off 0 (by simp) (by omega) (fun h => by simp at h)
              have F2 := Fr.popped B B2
              simp only [List.length_nil] at B2 F2
              exact ⟨0, by omega, rfl, ⟨⟨_, _, _, _, B2⟩, WP.out⟩, F1.trans F2⟩
            case round =>
              obtain ⟨i, hi, rfl, HA, FA⟩ := hrel
              have DD := fun x => Drop_calls wr p _ x HA
              obtain ⟨i0, i1, i2, i3⟩ := idx4 (S1.node j).k0 (S1.node j).k1 (S1.node j).k2 (S1.node j).k3
              rcases (show i = 0 ∨ i = 1 ∨ i = 2 ∨ i = 3 ∨ i = 4 by omega) with rfl | rfl | rfl | rfl | rfl
              · go_wp2_with (go_at_call 15; refine (DD _).mono ?_; rintro e w' ⟨rfl, HA', FA'⟩)
                go_roundw
                case rel => exact ⟨1, by decide, rfl, HA', FA.trans FA'⟩
                case measure => simp [intOf]
              · go_wp2_with (go_at_call 15; refine (DD _).mono ?_; rintro e w' ⟨rfl, HA', FA'⟩)
                go_roundw
                case rel => exact ⟨2, by decide, rfl, HA', FA.trans FA'⟩
                case measure => simp [intOf]
              · go_wp2_with (go_at_call 15; refine (DD _).mono ?_; rintro e w' ⟨rfl, HA', FA'⟩)
                go_roundw
                case rel => exact ⟨3, by decide, rfl, HA', FA.trans FA'⟩
                case measure => simp [intOf]
              · go_wp2_with (go_at_call 15; refine (DD _).mono ?_; rintro e w' ⟨rfl, HA', FA'⟩)
                go_roundw
                case rel => exact ⟨4, by decide, rfl, HA', FA.trans FA'⟩
                case measure => simp [intOf]
              · clear DD
                go_wp2
                go_step3
                refine ⟨rfl, k, by omega, wrap64 (n + 1), _, mk_u (a := Act.mk _ _) rfl, HA, FA, ?_⟩
                rw [← E1.out]
                exact E
          · have hcap' : 1 < cap := by omega
            clear hcap
            go_wp2_with (go_at_call 24; refine HP'.mono ?_; rintro e w' ⟨rfl, rfl⟩)
            go_region
            go_wp2
            go_loopw [62] (fun c wr => ∃ i : Nat, i ≤ 4 ∧ c = .int .i64 i ∧ Ar wr p ((S1.pop j l).drops (S1.node j) i) ∧ Fr [] p w wr) (fun c _ => 4 - (intOf c).toNat)
            case atStart =>
              have B2 := HP1.out (off + 1) (cap - 1) (by omega) (by omega) (fun _ => rfl)
              exact ⟨0, by omega, rfl, ⟨⟨_, _, _, _, B2⟩, WP.out⟩, F1.trans (Fr.popped B B2)⟩
            case round =>
              obtain ⟨i, hi, rfl, HA, FA⟩ := hrel
              have DD := fun x => Drop_calls wr p _ x HA
              obtain ⟨i0, i1, i2, i3⟩ := idx4 (S1.node j).k0 (S1.node j).k1 (S1.node j).k2 (S1.node j).k3
              rcases (show i = 0 ∨ i = 1 ∨ i = 2 ∨ i = 3 ∨ i = 4 by omega) with rfl | rfl | rfl | rfl | rfl
              · go_wp2_with (go_at_call 15; refine (DD _).mono ?_; rintro e w' ⟨rfl, HA', FA'⟩)
                go_roundw
                case rel => exact ⟨1, by decide, rfl, HA', FA.trans FA'⟩
                case measure => simp [intOf]
              · go_wp2_with (go_at_call 15; refine (DD _).mono ?_; rintro e w' ⟨rfl, HA', FA'⟩)
                go_roundw
                case rel => exact ⟨2, by decide, rfl, HA', FA.trans FA'⟩
                case measure => simp [intOf]
              · go_wp2_with (go_at_call 15; refine (DD _).mono ?_; rintro e w' ⟨rfl, HA', FA'⟩)
                go_roundw
                case rel => exact ⟨3, by decide, rfl, HA', FA.trans FA'⟩
                case measure => simp [intOf]
              · go_wp2_with (go_at_call 15; refine (DD _).mono ?_; rintro e w' ⟨rfl, HA', FA'⟩)
                go_roundw
                case rel => exact ⟨4, by decide, rfl, HA', FA.trans FA'⟩
                case measure => simp [intOf]
              · clear DD
                go_wp2
                go_step3
                refine ⟨rfl, k, by omega, wrap64 (n + 1), _, mk_u (a := Act.mk _ _) rfl, HA, FA, ?_⟩
                rw [← E1.out]
                exact E
  · intro hp
    go_wp2
    go_step3
    rename_i hK
    exact hK _ _ (hp k _ _ ⟨0, S, mk_u (a := Act.mk _ _) rfl, H, Fr.refl _ _ _, HW⟩)
end Go.Proofs.YtngfalbabgpnnaaGreat

namespace Go.Proofs.YtngfalbabgpnnaaGreat
open Go.RowKit

theorem idxKid (x : Nd) (i : Nat) (hi : i < 4) (w : World) : (Instr.index 81 (.agg #[.int .i64 x.k0, .int .i64 x.k1, .int .i64 x.k2, .int .i64 x.k3]) (.int .i64 (i : Int))).run Tryz.prog w = .ok (.int .i64 (x.kid i)) w := by
  obtain ⟨i0, i1, i2, i3⟩ := idx4 x.k0 x.k1 x.k2 x.k3
  rcases (show i = 0 ∨ i = 1 ∨ i = 2 ∨ i = 3 by omega) with rfl | rfl | rfl | rfl
  · exact i0 w
  · exact i1 w
  · exact i2 w
  · exact i3 w

theorem Fr.putted {w : World} {p bn bc bu k : Nat} {v v' x0 x1 x2 x3 x4 x5 x6 x7 x8 x9 xa : Value} {S S' : St} (B : ArB w p bn bc bu v S)
    (B2 : ArB ((((((((((((w.setCell ⟨bn, k * 7, none⟩ x0).setCell ⟨bn, k * 7 + 1, none⟩ x1).setCell ⟨bn, k * 7 + 2, none⟩ x2).setCell ⟨bn, k * 7 + 3, none⟩ x3).setCell ⟨bn, k * 7 + 4, none⟩ x4).setCell ⟨bn, k * 7 + 5, none⟩ x5).setCell ⟨bn, k * 7 + 6, none⟩ x6).setCell ⟨bc, k, none⟩ x7).setCell ⟨bu, k, none⟩ x8).setCell ⟨p, 4, none⟩ x9).setCell ⟨p, 5, none⟩ xa).drew) p bn bc bu v' S') (hv : v' = v) : Fr [] p w ((((((((((((w.setCell ⟨bn, k * 7, none⟩ x0).setCell ⟨bn, k * 7 + 1, none⟩ x1).setCell ⟨bn, k * 7 + 2, none⟩ x2).setCell ⟨bn, k * 7 + 3, none⟩ x3).setCell ⟨bn, k * 7 + 4, none⟩ x4).setCell ⟨bn, k * 7 + 5, none⟩ x5).setCell ⟨bn, k * 7 + 6, none⟩ x6).setCell ⟨bc, k, none⟩ x7).setCell ⟨bu, k, none⟩ x8).setCell ⟨p, 4, none⟩ x9).setCell ⟨p, 5, none⟩ xa).drew) := by
  subst hv
  refine Fr.of_arB B B2 (fun g h => Or.inl h) (by simp only [os_setCell, os_drew]) (by simp only [tape_setCell, tape_drew]) (by simp only [output_setCell, output_drew]) (by simp) fun b h0 h1 h2 h3 h4 h5 => ?_
  rw [heap_drew]
  have e := fun (w : World) (a : Addr) (v : Value) (h : b ≠ a.block) => heap_setCell_other w a b v h
  rw [e _ ⟨p, 5, none⟩ _ h1, e _ ⟨p, 4, none⟩ _ h1, e _ ⟨bu, k, none⟩ _ h4, e _ ⟨bc, k, none⟩ _ h3]
  rw [e _ ⟨bn, k * 7 + 6, none⟩ _ h2, e _ ⟨bn, k * 7 + 5, none⟩ _ h2, e _ ⟨bn, k * 7 + 4, none⟩ _ h2, e _ ⟨bn, k * 7 + 3, none⟩ _ h2, e _ ⟨bn, k * 7 + 2, none⟩ _ h2, e _ ⟨bn, k * 7 + 1, none⟩ _ h2, e _ ⟨bn, k * 7, none⟩ _ h2]

set_option maxHeartbeats 1000000 in
set_option maxRecDepth 100000 in
theorem Make_calls (w : World) (p : Nat) (S : St) (x : Nd) (H : Ar w p S) :
    Calls Tryz.prog 49 #[.pointer (some ⟨p, 0, none⟩), .agg x.arr] w fun e w' =>
      e = .returned (.tuple #[.int .i64 (S.make x).1, .int .i64 (S.make x).2.1]) ∧ Ar w' p (S.make x).2.2 ∧ Fr [] p w w' := by
  have HC := fun o h => Count_calls (w.alloc o) p S h (H.alloc o)
  have HF := fun o => free_calls (w.alloc o) p S (H.alloc o)
  have HA := H
  obtain ⟨⟨bn, bc, bu, v, B⟩, W⟩ := H
  have lp := B.head.lt
  unfold Nd.arr
  by_cases ht : x.tag < 1 ∨ 6 < x.tag
  · have E := hid (show S.make x = (0, 1, S) by simp [St.make, ht])
    by_cases h1 : x.tag < 1
    · go_enter Tryz.func49, Tryz.ntmps49
      go_wp2
      go_ret2
      rw [E.out]
      exact ⟨rfl, HA.alloc _, Fr.alloc1 lp _⟩
    · have h2 : 6 < x.tag := by omega
      clear ht
      go_enter Tryz.func49, Tryz.ntmps49
      go_wp2
      go_ret2
      rw [E.out]
      exact ⟨rfl, HA.alloc _, Fr.alloc1 lp _⟩
  · have h1 : ¬ x.tag < 1 := by omega
    have h2 : ¬ 6 < x.tag := by omega
    have ht' := hid ht
    clear ht
    go_enter Tryz.func49, Tryz.ntmps49
    go_wp2
    go_loop [21] (fun c => ∃ i : Nat, i ≤ 4 ∧ c = .int .i64 i ∧ Hid (∀ j, j < i → x.kid j = 0 ∨ S.cnt (x.kid j) ≠ 0)) (fun c => 4 - (intOf c).toNat)
    case atStart => exact ⟨0, by omega, rfl, hid (fun j hj => by omega)⟩
    case round =>
      obtain ⟨i, hi, rfl, hk⟩ := hrel
      by_cases hlt : i < 4
      · have hix := idxKid x i hlt
        by_cases h0 : x.kid i = 0
        · have b0 : (x.kid i != 0) = false := by simp [h0]
          have hk' := hid (show ∀ j, j < i + 1 → x.kid j = 0 ∨ S.cnt (x.kid j) ≠ 0 from fun j hj => by
            by_cases e : j = i
            · subst e; exact Or.inl h0
            · exact hk.out j (by omega))
          clear h0 hk
          go_wp2
          go_round
          case rel => exact ⟨i + 1, by omega, by go_num, hk'⟩
          case measure => simp [intOf]; omega
        · have b0 : (x.kid i != 0) = true := by simp [h0]
          by_cases hc : S.cnt (x.kid i) = 0
          · have b1 : (S.cnt (x.kid i) == 0) = true := by simp [hc]
            have E := hid (show S.make x = (0, 9, S) by simp [St.make, ht'.out, St.kidsTo_false hlt h0 hc])
            clear h0 hc hk
            go_wp2_with (go_at_call 48; refine (HC _ _).mono ?_; rintro e w' ⟨rfl, rfl⟩)
            go_ret2
            rw [E.out]
            exact ⟨rfl, HA.alloc _, Fr.alloc1 lp _⟩
          · have b1 : (S.cnt (x.kid i) == 0) = false := by simp [hc]
            have hk' := hid (show ∀ j, j < i + 1 → x.kid j = 0 ∨ S.cnt (x.kid j) ≠ 0 from fun j hj => by
              by_cases e : j = i
              · subst e; exact Or.inr hc
              · exact hk.out j (by omega))
            clear h0 hc hk
            go_wp2_with (go_at_call 48; refine (HC _ _).mono ?_; rintro e w' ⟨rfl, rfl⟩)
            go_round
            case rel => exact ⟨i + 1, by omega, by go_num, hk'⟩
            case measure => simp [intOf]; omega
      · obtain rfl : i = 4 := by omega
        clear hi hlt
        have hok := hid (show S.kidsOk x = true by
          have := hk.out
          simp only [St.kidsOk_eq, St.kidsTo]
          simp [this 0 (by omega), this 1 (by omega), this 2 (by omega), this 3 (by omega)])
        clear hk
        by_cases hf : S.free = 0
        · have b2 : (S.free == 0) = true := by simp [hf]
          have E := hid (show S.make x = (0, 2, S) by simp [St.make, ht'.out, hok.out, hf])
          clear hf
          go_wp2_with (go_at_call 97; refine (HF _).mono ?_; rintro e w' ⟨rfl, rfl⟩)
          go_ret2
          rw [E.out]
          exact ⟨rfl, HA.alloc _, Fr.alloc1 lp _⟩
        · have b2 : (S.free == 0) = false := by simp [hf]
          have E := hid (show S.make x = (S.free, 0, S.put S.free x) by simp [St.make, ht'.out, hok.out, hf])
          have hfs : 1 ≤ S.free ∧ S.free ≤ S.n ∧ S.used S.free = false := by
            rcases S.free_spec with h | h
            · exact absurd h.1 hf
            · exact h
          have WP := hid (W.put hok.out hfs.2.2 hfs.1 hfs.2.1)
          clear hf
          obtain ⟨k, hk⟩ := Int.eq_ofNat_of_zero_le (show 0 ≤ S.free by omega)
          rw [hk] at HF E WP b2 hfs
          clear hk
          go_wp2_with (go_at_call 97; refine (HF _).mono ?_; rintro e w' ⟨rfl, rfl⟩)
          go_loopw [39] (fun c wr => ∃ i : Nat, i ≤ 4 ∧ c = .int .i64 i ∧ ArB wr p bn bc bu v (S.incTo x i) ∧ Fr [] p w wr ∧ wr.heap[w.heap.size]? = some (.cells #[.int .i64 x.tag, .int .i64 x.k0, .int .i64 x.k1, .int .i64 x.k2, .int .i64 x.k3, .int .u64 x.a, .int .u64 x.b] 84 (0, 0))) (fun c _ => 4 - (intOf c).toNat)
          case atStart => exact ⟨0, by omega, rfl, B.alloc _, Fr.alloc1 lp _, heap_alloc_new w _⟩
          case round =>
            obtain ⟨i, hi, rfl, B1, F1, L1⟩ := hrel
            obtain ⟨n1, n2, n3, n4, n5, n6⟩ := B.ne
            have hn := W.nle
            obtain ⟨c0, c1, c2, c3, c4, c5⟩ := B1.hc
            rw [St.incTo_n] at c0 c1 c2
            have fc := fun i => B1.cnts.frozen i
            by_cases hlt : i < 4
            · have hix := idxKid x i hlt
              by_cases h0 : x.kid i = 0
              · have b0 : (x.kid i != 0) = false := by simp [h0]
                have e := hid (show S.incTo x (i + 1) = S.incTo x i by simp [St.incTo, St.inc, h0])
                clear h0
                go_wp2
                go_roundw
                case rel => exact ⟨i + 1, by omega, by go_num, by rw [e.out]; exact B1, F1, L1⟩
                case measure => simp [intOf]; omega
              · have b0 : (x.kid i != 0) = true := by simp [h0]
                have hc : S.cnt (x.kid i) ≠ 0 := by
                  rcases St.kidsTo_true hok.out hlt with h | h
                  · exact absurd h h0
                  · exact h
                have hr : ¬ (x.kid i < 1 ∨ (S.n : Int) < x.kid i) := fun q => hc (W.free _ (W.out _ q)).2
                obtain ⟨m, hm⟩ := Int.eq_ofNat_of_zero_le (show 0 ≤ x.kid i by omega)
                have e := hid (show S.incTo x (i + 1) = (S.incTo x i).setCnt m (wrap64 ((S.incTo x i).cnt m + 1)) by rw [St.incTo, St.inc, if_neg h0, hm])
                have hr' := hid hr
                have c6 := B1.cnts.cell m (by rw [St.incTo_n]; omega)
                have hm' : (m : Int) < ((S.n + 1 : Nat) : Int) := by omega
                have f6 := fc m
                rw [hm] at hix b0
                have F2 : Fr [] p w (wr.setCell ⟨bc, m, none⟩ (.int .i64 (wrap64 ((S.incTo x i).cnt m + 1)))) := F1.trans (Fr.setFoot _ ((B1.foot_iff _).2 (by simp)) (Ne.symm n2))
                have L2 : (wr.setCell ⟨bc, m, none⟩ (.int .i64 (wrap64 ((S.incTo x i).cnt m + 1)))).heap[w.heap.size]? = _ := (heap_setCell_other _ _ _ _ (by have := B.cnts.lt; simp only; omega)).trans L1
                have B2 := hid (B1.setCnt m (wrap64 ((S.incTo x i).cnt m + 1)))
                clear h0 hc hr hm fc L1
                go_wp2
                go_roundw
                case rel => exact ⟨i + 1, by omega, by go_num, by rw [e.out]; exact B2.out, F2, L2⟩
                case measure => simp [intOf]; omega
            · obtain rfl : i = 4 := by omega
              clear hi hlt
              obtain ⟨d0, d1, d2, d3, d4, d5, d6⟩ := B1.nodeCells k (by rw [St.incTo_n]; omega)
              have cc := B1.cnts.cell k (by rw [St.incTo_n]; omega)
              have cu := B1.useds.cell k (by rw [St.incTo_n]; omega)
              have fn := fun i => B1.nodes.frozen i
              have fu := fun i => B1.useds.frozen i
              have fp := B1.hfz
              have lc : ∀ i u, (#[.int .i64 x.tag, .int .i64 x.k0, .int .i64 x.k1, .int .i64 x.k2, .int .i64 x.k3, .int .u64 x.a, .int .u64 x.b] : Array Value)[i]? = some u → wr.cell? ⟨w.heap.size, i, none⟩ = some u := fun i u h => by
                simp only [World.cell?, L1]; simpa using h
              have l0 := lc 0 _ rfl
              have l1 := lc 1 _ rfl
              have l2 := lc 2 _ rfl
              have l3 := lc 3 _ rfl
              have l4 := lc 4 _ rfl
              have l5 := lc 5 _ rfl
              have l6 := lc 6 _ rfl
              have hk : (k : Int) < ((S.n + 1 : Nat) : Int) := by omega
              have q1 : w.heap.size ≠ p := by omega
              have q2 : w.heap.size ≠ bn := by have := B.nodes.lt; omega
              have q3 : w.heap.size ≠ bc := by have := B.cnts.lt; omega
              have q4 : w.heap.size ≠ bu := by have := B.useds.lt; omega
              have B2 := hid (((((B1.setNode k x).setCnt k 1).setUsed k true).setBusy (wrap64 ((S.incTo x 4).busy + 1))).setMade (wrap64 ((S.incTo x 4).made + 1)))
              clear lc hfs
              go_wp2
              go_region
              go_wp2
              go_ret2
              rw [E.out, show S.put k x = (((((S.incTo x 4).setNode k x).setCnt k 1).setUsed k true).setBusy (wrap64 ((S.incTo x 4).busy + 1))).setMade (wrap64 ((S.incTo x 4).made + 1)) by rw [← St.incs_eq]; simp only [St.put, St.incs, St.inc_busy, St.inc_made]]
              rw [show S.put k x = (((((S.incTo x 4).setNode k x).setCnt k 1).setUsed k true).setBusy (wrap64 ((S.incTo x 4).busy + 1))).setMade (wrap64 ((S.incTo x 4).made + 1)) by rw [← St.incs_eq]; simp only [St.put, St.incs, St.inc_busy, St.inc_made]] at WP
              have B3 := B2.out.drew
              exact ⟨rfl, ⟨⟨_, _, _, _, B3⟩, WP.out⟩, F1.trans (Fr.putted B1 B3 rfl)⟩
end Go.Proofs.YtngfalbabgpnnaaGreat

namespace Go.Proofs.YtngfalbabgpnnaaGreat
open Go.RowKit

def St.new (n : Nat) : St := ⟨n, fun _ => Nd.zero, fun _ => 0, fun _ => false, [], 0, 0⟩
theorem St.WF.new {n : Nat} (h1 : 1 ≤ n) (h2 : n ≤ 6000) : (St.new n).WF :=
  ⟨h1, h2, fun _ _ => rfl, fun _ _ => ⟨rfl, rfl⟩, List.nodup_nil, fun x hx => by cases hx⟩

theorem info_node : (Tryz.prog.info? 84).map (fun i => (i.zero, i.size, i.bytes)) = some (some (.agg #[.int .i64 0, .int .i64 0, .int .i64 0, .int .i64 0, .int .i64 0, .int .u64 0, .int .u64 0]), 7, 56) := by kernel_rfl
theorem info_bool : (Tryz.prog.info? 4).map (fun i => (i.zero, i.size, i.bytes)) = some (some (.bool false), 1, 1) := by kernel_rfl

theorem madeCells_get (z : Array Value) (n i : Nat) (h : i < n) : (madeCells z n)[i]? = some (z[i % z.size]!) := by
  simp [madeCells, h]

/-- The arena behind New, at whatever blocks. -/
theorem Ar.made {w' : World} {p bn bc bu n : Nat} {T1 T2 T3 T4 : TypeId} (h1 : 1 ≤ n) (h2 : n ≤ 6000) (hp : w'.heap[p]? = some (.cells #[.slice (some ⟨bn, 0, none⟩) (n + 1) (n + 1), .slice (some ⟨bc, 0, none⟩) (n + 1) (n + 1), .slice (some ⟨bu, 0, none⟩) (n + 1) (n + 1), .slice none 0 0, .int .i64 0, .int .i64 0] T1 (0, 0)))
    (hn : w'.heap[bn]? = some (.cells (madeCells #[.int .i64 0, .int .i64 0, .int .i64 0, .int .i64 0, .int .i64 0, .int .u64 0, .int .u64 0] ((n + 1) * 7)) T2 (0, 0)))
    (hc : w'.heap[bc]? = some (.cells (madeCells #[.int .i64 0] (n + 1)) T3 (0, 0))) (hu : w'.heap[bu]? = some (.cells (madeCells #[.bool false] (n + 1)) T4 (0, 0)))
    (ne : p ≠ bn ∧ p ≠ bc ∧ p ≠ bu ∧ bn ≠ bc ∧ bn ≠ bu ∧ bc ≠ bu) {B : Nat} (hb : B ≤ p ∧ B ≤ bn ∧ B ≤ bc ∧ B ≤ bu) : Ar w' p (St.new n) ∧ ∀ b, Foot w' p b → B ≤ b := by
  have A : ArB w' p bn bc bu (.slice none 0 0) (St.new n) := by
    refine ⟨⟨_, _, hp, rfl, fun i hi => ?_⟩, ⟨_, _, hn, by rw [size_madeCells]; show _ = 7 * (n + 1); omega, fun i hi => ?_⟩, ⟨_, _, hc, by rw [size_madeCells]; rfl, fun i hi => ?_⟩, ⟨_, _, hu, by rw [size_madeCells]; rfl, fun i hi => ?_⟩, Or.inl ⟨rfl, rfl⟩, ne, fun g hg => by cases hg⟩
    · match i, hi with
      | 0, _ => rfl | 1, _ => rfl | 2, _ => rfl | 3, _ => rfl | 4, _ => rfl | 5, _ => rfl
    · rw [madeCells_get _ _ _ (by simp only [St.new] at hi; omega)]
      have : i % 7 < 7 := Nat.mod_lt _ (by decide)
      show some ((#[.int .i64 0, .int .i64 0, .int .i64 0, .int .i64 0, .int .i64 0, .int .u64 0, .int .u64 0] : Array Value)[i % 7]!) = some (Nd.zero.cell (i % 7))
      generalize i % 7 = k at this
      match k, this with
      | 0, _ => rfl | 1, _ => rfl | 2, _ => rfl | 3, _ => rfl | 4, _ => rfl | 5, _ => rfl | 6, _ => rfl
    · rw [madeCells_get _ _ _ (by simp only [St.new] at hi; omega)]
      show some ((#[.int .i64 0] : Array Value)[i % 1]!) = _
      rw [Nat.mod_one]; rfl
    · rw [madeCells_get _ _ _ (by simp only [St.new] at hi; omega)]
      show some ((#[.bool false] : Array Value)[i % 1]!) = _
      rw [Nat.mod_one]; rfl
  refine ⟨⟨⟨_, _, _, _, A⟩, St.WF.new h1 h2⟩, fun b hf => ?_⟩
  rcases (A.foot_iff b).1 hf with rfl | rfl | rfl | rfl | h
  · exact hb.1
  · exact hb.2.1
  · exact hb.2.2.1
  · exact hb.2.2.2
  · cases h

theorem alloc4 (w : World) (A B C D : Obj) : ((((w.alloc A).alloc B).alloc C).alloc D).drew.heap[w.heap.size]? = some A ∧ ((((w.alloc A).alloc B).alloc C).alloc D).drew.heap[w.heap.size + 1]? = some B ∧
    ((((w.alloc A).alloc B).alloc C).alloc D).drew.heap[w.heap.size + 1 + 1]? = some C ∧ ((((w.alloc A).alloc B).alloc C).alloc D).drew.heap[w.heap.size + 1 + 1 + 1]? = some D := by
  simp only [heap_drew, World.alloc, Array.getElem?_push, Array.size_push]
  refine ⟨?_, ?_, ?_, ?_⟩
  · rw [if_neg (by omega), if_neg (by omega), if_neg (by omega), if_pos trivial]
  · rw [if_neg (by omega), if_neg (by omega), if_pos trivial]
  · rw [if_neg (by omega), if_pos trivial]
  · rw [if_pos trivial]

set_option maxHeartbeats 1000000 in
theorem New_nil (w : World) (m : Int) (h : m < 1 ∨ 6000 < m) : Calls Tryz.prog 9 #[.int .i64 m] w fun e w' => e = .returned (.pointer none) ∧ w = w' := by
  by_cases h1 : m < 1
  · go_enter Tryz.func9, Tryz.ntmps9
    go_wp2
    go_ret
    exact ⟨rfl, rfl⟩
  · have h2 : 6000 < m := by omega
    clear h
    go_enter Tryz.func9, Tryz.ntmps9
    go_wp2
    go_ret
    exact ⟨rfl, rfl⟩

def SomeArena (w : World) (n : Nat) (e : Ending) (w' : World) : Prop := ∃ p, e = .returned (.pointer (some ⟨p, 0, none⟩)) ∧ Ar w' p (St.new n) ∧ Below w.heap.size w w' ∧ ∀ b, Foot w' p b → w.heap.size ≤ b

set_option maxHeartbeats 1000000 in
theorem New_calls (w : World) (n : Nat) (h1 : 1 ≤ n) (h2 : n ≤ 6000) : Calls Tryz.prog 9 #[.int .i64 (n : Int)] w (SomeArena w n) := by
  obtain ⟨i0, a1, a2, a3, a4⟩ := info_parts info_node
  obtain ⟨j0, b1, b2, b3, b4⟩ := info_parts info_int
  obtain ⟨k0, c1, c2, c3, c4⟩ := info_parts info_bool
  have m1 : ∀ u : World, (Instr.makeSlice 67 (.int .i64 ((n : Int) + 1)) (.int .i64 ((n : Int) + 1))).run Tryz.prog u =
      .ok (.slice (some ⟨u.heap.size, 0, none⟩) (n + 1) (n + 1)) (u.alloc (.cells (madeCells #[.int .i64 0, .int .i64 0, .int .i64 0, .int .i64 0, .int .i64 0, .int .u64 0, .int .u64 0] ((n + 1) * 7)) 84)) := fun u => by
    have h := run_make (P := Tryz.prog) u 67 84 i0 _ Tryz.underlying67 a1 a2 .i64 .i64 ((n : Int) + 1) ((n : Int) + 1) (by omega) (Int.le_refl _) (by rw [a4]; omega) (by omega)
    have e : ((n : Int) + 1).toNat = n + 1 := by omega
    rw [e, a3] at h
    simpa [Value.cells] using h
  have m2 : ∀ u : World, (Instr.makeSlice 50 (.int .i64 ((n : Int) + 1)) (.int .i64 ((n : Int) + 1))).run Tryz.prog u =
      .ok (.slice (some ⟨u.heap.size, 0, none⟩) (n + 1) (n + 1)) (u.alloc (.cells (madeCells #[.int .i64 0] (n + 1)) 3)) := fun u => by
    have h := run_make (P := Tryz.prog) u 50 3 j0 _ Tryz.underlying50 b1 b2 .i64 .i64 ((n : Int) + 1) ((n : Int) + 1) (by omega) (Int.le_refl _) (by rw [b4]; omega) (by omega)
    have e : ((n : Int) + 1).toNat = n + 1 := by omega
    rw [e, b3] at h
    simpa [Value.cells] using h
  have m3 : ∀ u : World, (Instr.makeSlice 68 (.int .i64 ((n : Int) + 1)) (.int .i64 ((n : Int) + 1))).run Tryz.prog u =
      .ok (.slice (some ⟨u.heap.size, 0, none⟩) (n + 1) (n + 1)) (u.alloc (.cells (madeCells #[.bool false] (n + 1)) 4)) := fun u => by
    have h := run_make (P := Tryz.prog) u 68 4 k0 _ Tryz.underlying68 c1 c2 .i64 .i64 ((n : Int) + 1) ((n : Int) + 1) (by omega) (Int.le_refl _) (by rw [c4]; omega) (by omega)
    have e : ((n : Int) + 1).toNat = n + 1 := by omega
    rw [e, c3] at h
    simpa [Value.cells] using h
  clear a1 a2 a3 a4 b1 b2 b3 b4 c1 c2 c3 c4
  go_enter Tryz.func9, Tryz.ntmps9
  go_wp2
  go_region
  all_goals go_wp2
  all_goals go_ret
  all_goals refine ⟨w.heap.size + 1 + 1 + 1, rfl, ?_⟩
  all_goals refine (fun A B => ⟨And.left A, B, And.right A⟩) (Ar.made (T2 := 84) (T3 := 3) (T4 := 4) h1 h2 (alloc4 _ _ _ _ _).2.2.2 ?_ ?_ ?_ ?_ ?_) ?_
  all_goals first
    | exact (alloc4 _ _ _ _ _).1
    | exact (alloc4 _ _ _ _ _).2.1
    | exact (alloc4 _ _ _ _ _).2.2.1
    | (refine ⟨?_, ?_, ?_, ?_, ?_, ?_⟩ <;> omega)
    | (refine ⟨?_, ?_, ?_, ?_⟩ <;> omega)
    | exact (((((Below.refl _ _).alloc (Nat.le_refl _) _).alloc (by simp) _).alloc (by simp; omega) _).alloc (by simp; omega) _).drew
end Go.Proofs.YtngfalbabgpnnaaGreat
