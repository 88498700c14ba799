/-
  The walk of version.Check.
  The walks of the reference: Texts, Right, row, Less.
  A region in which, at one place, two operations may come up in either order.
-/
import Derived.Test.YtngfalbabgpnnaaGreatM1
import Derived.Test.YtngfalbabgpnnaaGreatM15
import Derived.Test.YtngfalbabgpnnaaGreatM16
set_option linter.unusedVariables false
set_option linter.unusedSimpArgs false
namespace Go.Proofs.YtngfalbabgpnnaaGreat
open Go.RowKit St

theorem info_str : (Tryz.prog.info? 9).map (fun i => (i.zero, i.size, i.bytes)) = some (some (.string ByteArray.empty), 1, 16) := by kernel_rfl

theorem tableOf_take {l : List Doc} {i : Nat} {x : Doc} (h : l[i]? = some x) : tableOf (l.take (i + 1)) = tableOf (l.take i) ++ [(x.1, x.2.size)] := by
  unfold tableOf; rw [List.take_add_one, h, List.map_append]; rfl
theorem textsOf_take {l : List Doc} {i : Nat} {x : Doc} (h : l[i]? = some x) : textsOf (l.take (i + 1)) = textsOf (l.take i) ++ [x.2] := by
  unfold textsOf; rw [List.take_add_one, h, List.map_append]; rfl

set_option maxHeartbeats 8000000 in
set_option maxRecDepth 100000 in
theorem vCheck_calls (w : World) (p : Nat) (S : St) (h : Int) (ws : List Nat) (ms : List Bool) (sp tb : List (Nat × Nat)) (vl : Value) (docs : List Doc) (rate : Nat) (H : Ar w p S) (V : S.vr h ws ms sp tb) (R : RowV w vl 2 docs.length (docs.flatMap docV))
    (hr1 : 1 ≤ rate) (hr2 : rate ≤ 16) (hd : docs.length ≤ 10) (hd0 : docs ≠ []) (hs : ∀ x ∈ docs, x.2.size ≤ 40) (hids : ∀ x ∈ docs, x.1 < 9223372036854775808) (hws : ws.length < 400000) (hms : ms.length < 400000) (hsp : sp.length < 400000) (htb : tb.length < 400000) (h257 : ∀ x ∈ ws, x < 257) (hN : (allRows (textsOf docs)).length ≤ 1000) :
    Calls Tryz.prog 17 #[.pointer (some ⟨p, 0, none⟩), .int .i64 h, .int .i64 rate, vl] w fun o w' =>
      o = .returned (.bool ((tb == tableOf docs) && ((ws == symsOf (textsOf docs)) && ((ms == marksOf docs rate) && (sp == spotsOf docs rate))))) ∧ Below w.heap.size w w' := by
  obtain ⟨i0, hi, hz0, hz1, hz2⟩ := info_parts info_str
  obtain ⟨j0, ji, jz0, jz1, jz2⟩ := info_parts info_item
  obtain ⟨k0, ki, kz0, kz1, kz2⟩ := info_parts info_bool1
  obtain ⟨pa, pb, pc, pd, hv, he, hw1, hw2, hw3, hw4⟩ := V
  have HO := fun w' (hb : Below w.heap.size w w') => vOf_root w' p S h pa pb pc pd (H.below hb) hv he
  have hdp : 0 < docs.length := List.length_pos_iff.2 hd0
  obtain ⟨g, off, cap, hvl, hg, hc⟩ := R.some (by omega)
  subst hvl
  have hc := hid hc
  have hs := hid hs
  have hids := hid hids
  have hN := hid hN
  have h257 := hid h257
  have hd0 := hid hd0
  have hw1 := hid hw1; have hw2 := hid hw2; have hw3 := hid hw3; have hw4 := hid hw4
  have q1 : ¬ (rate : Int) < 1 := by omega
  have q2 : ¬ (rate : Int) > 16 := by omega
  have q3 : (rate : Int) ≤ 16 := by omega
  clear R hv he
  generalize hRES : ((tb == tableOf docs) && ((ws == symsOf (textsOf docs)) && ((ms == marksOf docs rate) && (sp == spotsOf docs rate)))) = RES
  have hRES := hid hRES
  generalize hnd : docs.length = nd at *
  have hnd := hid hnd
  go_enter Tryz.func17, Tryz.ntmps17
  go_wp2_with fail
  refine (HO _ (by repeat (first | with_reducible exact Below.refl _ _ | with_reducible assumption | with_reducible refine bel_drewN ?_ | with_reducible refine bel_drew ?_ | with_reducible refine bel_alloc ?_ _ | with_reducible refine bel_set ?_ _ ?_ | with_reducible refine bel_trans ?_ (by with_reducible assumption) | ((try dsimp only); omega)))).mono ?_; rintro o1 w1 ⟨rfl, hb1⟩
  clear HO
  go_wp2
  generalize hW : w1.alloc _ = W
  have y0 : W.cell? ⟨w1.heap.size, 0, none⟩ = some (.int .i64 pa) := by subst hW; go_simp
  have y1 : W.cell? ⟨w1.heap.size, 1, none⟩ = some (.int .i64 pb) := by subst hW; go_simp
  have y2 : W.cell? ⟨w1.heap.size, 2, none⟩ = some (.int .i64 pc) := by subst hW; go_simp
  have y3 : W.cell? ⟨w1.heap.size, 3, none⟩ = some (.int .i64 pd) := by subst hW; go_simp
  have hbW : Below w.heap.size w W := by subst hW; exact (by repeat (first | with_reducible exact Below.refl _ _ | with_reducible assumption | with_reducible refine bel_drewN ?_ | with_reducible refine bel_drew ?_ | with_reducible refine bel_alloc ?_ _ | with_reducible refine bel_set ?_ _ ?_ | with_reducible refine bel_trans ?_ (by with_reducible assumption) | ((try dsimp only); omega)))
  have hsW : w1.heap.size < W.heap.size := by subst hW; simp
  have hs01 := hb1.size
  have hgW : g < W.heap.size := by omega
  clear hW
  go_loopw [11, 12, 38] (fun v11 v12 c wr => ∃ i : Nat, i ≤ nd ∧ c = .int .i64 i ∧ Below W.heap.size W wr ∧ Hid (wr.ownsRow W.heap.size 9 1 v11 i (strs (textsOf (docs.take i)))) ∧ Hid (wr.ownsRow W.heap.size 80 2 v12 i ((tableOf (docs.take i)).flatMap itemV))) (fun _ _ c _ => nd - (intOf c).toNat)
  case atStart => exact ⟨0, by omega, rfl, Below.refl _ _, hid (World.ownsRow_nil _ _ _ _), hid (World.ownsRow_nil _ _ _ _)⟩
  case round =>
    obtain ⟨i, hin, rfl, hb, ho1, ho2⟩ := hrel
    by_cases hil : i = nd
    · subst hil
      rw [List.take_of_length_le (by rw [hnd.out]; exact Nat.le_refl _)] at ho1 ho2
      have hN1 := hN.out
      have hss : ∀ s ∈ textsOf docs, s.size ≤ 40 := fun s h => by
        obtain ⟨x, hx, rfl⟩ := List.mem_map.1 h
        exact hs.out x hx
      have htl : (textsOf docs).length = i := by simp [textsOf]; exact hnd.out
      have htn : textsOf docs ≠ [] := fun q => by rw [q] at htl; simp at htl; omega
      have RV : RowV wr u11 1 (textsOf docs).length (strs (textsOf docs)) := by rw [htl]; exact RowV.own ho1.out
      have HS := rSorted_calls wr u11 (textsOf docs) RV (by omega) htn hss hN.out
      have hml : (rsort (textsOf docs)).length ≤ 1000 := by rw [rsort_length]; exact hN.out
      have hmp : (rsort (textsOf docs)).length ≠ 0 := by
        rw [rsort_length]
        intro q
        have := List.length_eq_zero_iff.1 q
        cases hq : textsOf docs with
        | nil => exact htn hq
        | cons s r => rw [hq] at this; simp [allRows, rowsFrom] at this
      have RV := hid RV
      have hss := hid hss
      have htl := hid htl
      have htn := hid htn
      have hmp := hid hmp
      clear hN1
      generalize hmm : (rsort (textsOf docs)).length = m at *
      have hmm := hid hmm
      go_wp2_with fail
      refine HS.mono ?_; rintro o w5 ⟨v58, rfl, ho5, hb5⟩
      clear HS
      rcases own_cases ho5 with ⟨_, q, _⟩ | ⟨g5, c5, rfl, hg5, hg5s, _, hc5⟩
      · exact absurd q hmp.out
      have ho1 := hid (own_below ho1.out hb5)
      have ho2 := hid (own_below ho2.out hb5)
      have hc5 := hid hc5
      have Hb5 := bel_trans hbW (bel_trans hb hb5)
      have HbW5 := bel_trans hb hb5
      clear ho5
      go_wp2
      go_loopw [13, 14, 60] (fun v13 v14 c wr2 => ∃ i : Nat, i ≤ m ∧ c = .int .i64 i ∧ Below w5.heap.size w5 wr2 ∧ Hid (wr2.ownsRow w5.heap.size 4 1 v14 i (((marksOf docs rate).take i).map .bool)) ∧ Hid (wr2.ownsRow w5.heap.size 80 2 v13 (spotsTo docs rate ((rsort (textsOf docs)).take i)).length ((spotsTo docs rate ((rsort (textsOf docs)).take i)).flatMap itemV))) (fun _ _ c _ => m - (intOf c).toNat)
      case atStart => exact ⟨0, by omega, rfl, Below.refl _ _, hid (World.ownsRow_nil _ _ _ _), hid (World.ownsRow_nil _ _ _ _)⟩
      case round =>
        obtain ⟨k, hkm, rfl, hb6, ho6, ho7⟩ := hrel
        by_cases hkl : k = m
        · subst hkl
          have ho6 := hid (show wr.ownsRow w5.heap.size 4 1 u14 (marksOf docs rate).length ((marksOf docs rate).map .bool) by
            have h1 := ho6.out
            have e : (marksOf docs rate).length = k := by unfold marksOf; rw [List.length_map]; exact hmm.out
            rw [List.take_of_length_le (by omega)] at h1
            rw [e]; exact h1)
          have ho7 := hid (show wr.ownsRow w5.heap.size 80 2 u13 (spotsOf docs rate).length ((spotsOf docs rate).flatMap itemV) by
            have h1 := ho7.out
            rw [List.take_of_length_le (by rw [hmm.out]; exact Nat.le_refl _)] at h1
            exact h1)
          have ho2 := hid (show w5.ownsRow W.heap.size 80 2 u12 (tableOf docs).length ((tableOf docs).flatMap itemV) by
            have e : (tableOf docs).length = i := by unfold tableOf; rw [List.length_map]; exact hnd.out
            rw [e]; exact ho2.out)
          have hlT : (tableOf docs).length < 400000 := by
            have e : (tableOf docs).length = i := by unfold tableOf; rw [List.length_map]; exact hnd.out
            omega
          have hlM : (marksOf docs rate).length < 400000 := by
            have e : (marksOf docs rate).length = k := by unfold marksOf; rw [List.length_map]; exact hmm.out
            omega
          have hlS : (spotsOf docs rate).length < 400000 := by
            unfold spotsOf spotsTo
            rw [List.length_map]
            exact Nat.lt_of_le_of_lt (List.length_filter_le _ _) (by rw [hmm.out]; omega)
          have hlY : (symsOf (textsOf docs)).length < 400000 := by unfold symsOf; rw [List.length_map, hmm.out]; omega
          have RV5 := hid ((RV.out.below hb5).below hb6)
          have Hw := bel_trans Hb5 hb6
          have HWr := bel_trans HbW5 hb6
          have p0 : wr.cell? ⟨w1.heap.size, 0, none⟩ = some (.int .i64 pa) := ((bcell HWr).1 _ _ hsW).trans y0
          have p1 : wr.cell? ⟨w1.heap.size, 1, none⟩ = some (.int .i64 pb) := ((bcell HWr).1 _ _ hsW).trans y1
          have p2 : wr.cell? ⟨w1.heap.size, 2, none⟩ = some (.int .i64 pc) := ((bcell HWr).1 _ _ hsW).trans y2
          have p3 : wr.cell? ⟨w1.heap.size, 3, none⟩ = some (.int .i64 pd) := ((bcell HWr).1 _ _ hsW).trans y3
          have hBr : w1.heap.size < wr.heap.size := Nat.lt_of_lt_of_le hsW HWr.size
          have HRt := rRight_calls wr u11 (textsOf docs) RV5.out (by have := htl.out; omega) hss.out
          have HTb := lAll_calls wr p S pd tb (H.below Hw) hw4.out htb
          have o14 := hid (RowV.own ho6.out)
          have o13 := hid (RowV.own ho7.out)
          have o12 := hid ((RowV.own ho2.out).below hb6)
          clear ho6 ho7 ho1 ho2 y0 y1 y2 y3 hc5 hc RV
          go_wp2_with fail
          refine HRt.mono ?_; rintro o x0 ⟨rfl, rfl⟩
          clear HRt
          go_wp2_with fail
          refine HTb.mono ?_; rintro o x1 ⟨va, rfl, oa, ba⟩
          clear HTb
          have Hx1 := bel_trans Hw ba
          have HE1 := eqItem_calls x1 va u12 tb (tableOf docs) (RowV.own oa) (o12.out.below ba) htb hlT
          have c0 : x1.cell? ⟨w1.heap.size, 0, none⟩ = some (.int .i64 pa) := ((bcell ba).1 _ _ hBr).trans p0
          have c1 : x1.cell? ⟨w1.heap.size, 1, none⟩ = some (.int .i64 pb) := ((bcell ba).1 _ _ hBr).trans p1
          have c2 : x1.cell? ⟨w1.heap.size, 2, none⟩ = some (.int .i64 pc) := ((bcell ba).1 _ _ hBr).trans p2
          clear oa p0 p1 p2 p3
          have hB1 := Nat.lt_of_lt_of_le hBr ba.size
          generalize (tb == tableOf docs) = b1 at *
          go_wp2_with fail
          refine HE1.mono ?_; rintro o x2 ⟨rfl, bb⟩
          clear HE1
          have Hx2 := bel_trans Hx1 bb
          have B2 := bel_trans ba bb
          cases b1 with
          | false =>
            have fin := hid (show false = RES by rw [← hRES.out]; rfl)
            go_wp2
            go_ret
            exact ⟨by rw [← fin.out]; rfl, Hx2⟩
          | true =>
          have d0 : x2.cell? ⟨w1.heap.size, 0, none⟩ = some (.int .i64 pa) := ((bcell bb).1 _ _ hB1).trans c0
          have d1 : x2.cell? ⟨w1.heap.size, 1, none⟩ = some (.int .i64 pb) := ((bcell bb).1 _ _ hB1).trans c1
          have d2 : x2.cell? ⟨w1.heap.size, 2, none⟩ = some (.int .i64 pc) := ((bcell bb).1 _ _ hB1).trans c2
          have hB2 := Nat.lt_of_lt_of_le hB1 bb.size
          have HWv := wAll_calls x2 p S pa ws (H.below Hx2) hw1.out (by omega) h257.out
          clear c0 c1 c2
          go_wp2_with fail
          refine HWv.mono ?_; rintro o x3 ⟨vw, rfl, ow, bw⟩
          clear HWv
          have HSy := rSymbols_calls x3 u11 (textsOf docs) ((RV5.out.below B2).below bw) (by have := htl.out; omega) htn.out hss.out hN.out
          go_wp2_with fail
          refine HSy.mono ?_; rintro o x4 ⟨vy, rfl, oy, bY⟩
          clear HSy
          have HE2 := eqInt_calls x4 vw vy ws (symsOf (textsOf docs)) ((RowV.own ow).below bY) (RowV.own oy) hws hlY
          have Bw := bel_trans bw bY
          have e1' : x4.cell? ⟨w1.heap.size, 1, none⟩ = some (.int .i64 pb) := ((bcell Bw).1 _ _ hB2).trans d1
          have e2' : x4.cell? ⟨w1.heap.size, 2, none⟩ = some (.int .i64 pc) := ((bcell Bw).1 _ _ hB2).trans d2
          clear ow oy d0 d1 d2
          have hB4 := Nat.lt_of_lt_of_le hB2 Bw.size
          generalize (ws == symsOf (textsOf docs)) = b2 at *
          go_wp2_with fail
          refine HE2.mono ?_; rintro o x5 ⟨rfl, bc⟩
          clear HE2
          have Hx5 := bel_trans (bel_trans Hx2 Bw) bc
          have B5 := bel_trans (bel_trans B2 Bw) bc
          cases b2 with
          | false =>
            have fin := hid (show false = RES by rw [← hRES.out]; rfl)
            go_wp2
            go_ret
            exact ⟨by rw [← fin.out]; rfl, Hx5⟩
          | true =>
          have f1 : x5.cell? ⟨w1.heap.size, 1, none⟩ = some (.int .i64 pb) := ((bcell bc).1 _ _ hB4).trans e1'
          have f2 : x5.cell? ⟨w1.heap.size, 2, none⟩ = some (.int .i64 pc) := ((bcell bc).1 _ _ hB4).trans e2'
          have hB5 := Nat.lt_of_lt_of_le hB4 bc.size
          have HMb := All_bits_calls x5 p S pb ms (H.below Hx5) hw2.out (by omega)
          clear e1' e2'
          go_wp2_with fail
          refine HMb.mono ?_; rintro o x6 ⟨vm, rfl, om, bm⟩
          clear HMb
          have HE3 := eqBool_calls x6 vm u14 ms (marksOf docs rate) (RowV.own om) ((o14.out.below B5).below bm) hms hlM
          have g2 : x6.cell? ⟨w1.heap.size, 2, none⟩ = some (.int .i64 pc) := ((bcell bm).1 _ _ hB5).trans f2
          clear om f1 f2
          have hB6 := Nat.lt_of_lt_of_le hB5 bm.size
          generalize (ms == marksOf docs rate) = b3 at *
          go_wp2_with fail
          refine HE3.mono ?_; rintro o x7 ⟨rfl, bd⟩
          clear HE3
          have Hx7 := bel_trans (bel_trans Hx5 bm) bd
          have B7 := bel_trans (bel_trans B5 bm) bd
          cases b3 with
          | false =>
            have fin := hid (show false = RES by rw [← hRES.out]; rfl)
            go_wp2
            go_ret
            exact ⟨by rw [← fin.out]; rfl, Hx7⟩
          | true =>
          have k2 : x7.cell? ⟨w1.heap.size, 2, none⟩ = some (.int .i64 pc) := ((bcell bd).1 _ _ hB6).trans g2
          have HSp := lAll_calls x7 p S pc sp (H.below Hx7) hw3.out hsp
          clear g2
          go_wp2_with fail
          refine HSp.mono ?_; rintro o x8 ⟨vs, rfl, os, bs⟩
          clear HSp
          have HE4 := eqItem_calls x8 vs u13 sp (spotsOf docs rate) (RowV.own os) ((o13.out.below B7).below bs) hsp hlS
          clear os
          generalize (sp == spotsOf docs rate) = b4 at *
          have fin := hid (show b4 = RES by rw [← hRES.out]; simp)
          go_wp2_with fail
          refine HE4.mono ?_; rintro o x9 ⟨rfl, be⟩
          clear HE4
          have Hx9 := bel_trans (bel_trans Hx7 bs) be
          go_wp2
          go_ret
          exact ⟨by rw [← fin.out]; rfl, Hx9⟩
        · have hlt : k < m := by omega
          have hlt' : (k : Int) < (m : Nat) := by omega
          obtain ⟨⟨d, a⟩, hri⟩ : ∃ r, (rsort (textsOf docs))[k]? = some r := ⟨(rsort (textsOf docs))[k]'(by rw [hmm.out]; exact hlt), List.getElem?_eq_getElem _⟩
          obtain ⟨f1, f2⟩ := flat2 hri
          obtain ⟨ok1, ok2⟩ := rsort_ok (List.mem_of_getElem? hri)
          simp only at ok1 ok2
          have hs6 := hb6.size
          have hs5 := hb5.size
          have hsb := hb.size
          have z1 : wr.cell? ⟨g5, k * 2, none⟩ = some (.int .i64 d) := ((bcell hb6).1 g5 _ hg5s).trans (hc5.out _ _ f1)
          have z2 : wr.cell? ⟨g5, k * 2 + 1, none⟩ = some (.int .i64 a) := ((bcell hb6).1 g5 _ hg5s).trans (hc5.out _ _ f2)
          have hdi : d < i := by have := htl.out; omega
          obtain ⟨x, hx⟩ : ∃ x, docs[d]? = some x := ⟨docs[d]'(by rw [hnd.out]; exact hdi), List.getElem?_eq_getElem _⟩
          obtain ⟨f3, _⟩ := doc2 hx
          have z3 : wr.cell? ⟨g, off + d * 2, none⟩ = some (.int .i64 x.1) := ((bcell hb6).1 g _ (by omega)).trans (((bcell HbW5).1 g _ hgW).trans (((bcell hbW).1 g _ hg).trans (hc.out _ _ f3)))
          have hgd : docs.getD d (0, ByteArray.empty) = x := by rw [List.getD_eq_getElem?_getD, hx]; rfl
          have ht1 : (textsOf docs)[d]? = some x.2 := by simp [textsOf, hx]
          have hgt : (textsOf docs).getD d ByteArray.empty = x.2 := by rw [List.getD_eq_getElem?_getD, ht1]; rfl
          rw [hgt] at ok2
          have hxs := hs.out x (List.mem_of_getElem? hx)
          have emk : (marksOf docs rate)[k]? = some (a % rate == 0) := by unfold marksOf; rw [List.getElem?_map, hri]; rfl
          have e1 := hid (show ((marksOf docs rate).take k).map Value.bool ++ [.bool (a % rate == 0)] = ((marksOf docs rate).take (k + 1)).map Value.bool by rw [List.take_add_one, emk, List.map_append]; rfl)
          have e2 := hid (show spotsTo docs rate ((rsort (textsOf docs)).take (k + 1)) = spotsTo docs rate ((rsort (textsOf docs)).take k) ++ (if (a % rate == 0) = true then [(x.1, a)] else []) by
            unfold spotsTo
            rw [List.take_add_one, hri, List.filter_append, List.map_append]
            congr 1
            simp only [Option.toList_some, List.filter_cons, List.filter_nil]
            split <;> simp [spotOf, hx])
          have hsl := hid (show (spotsTo docs rate ((rsort (textsOf docs)).take k)).length ≤ k by
            unfold spotsTo
            rw [List.length_map]
            exact Nat.le_trans (List.length_filter_le _ _) (by rw [List.length_take]; omega))
          generalize spotsTo docs rate ((rsort (textsOf docs)).take k) = Y at ho7 e2 hsl
          generalize ((marksOf docs rate).take k).map Value.bool = X1 at ho6 e1
          have hmb : ((a : Int) % (rate : Int) == 0) = (a % rate == 0) := by
            have em : (a : Int) % (rate : Int) = ((a % rate : Nat) : Int) := by first | rfl | exact (Int.natCast_emod a rate).symm | simp
            rw [em]
            by_cases q : a % rate = 0
            · simp [q]
            · have : ((a % rate : Nat) : Int) ≠ 0 := by omega
              rw [beq_eq_false_iff_ne.2 this, beq_eq_false_iff_ne.2 q]
          have hrz : ((rate : Int) == 0) = false := by simp; omega
          have hrz2 : ¬ (rate : Int) = 0 := by omega
          have wk : IntKind.i64.wrap ((k : Int) + 1) = (k : Int) + 1 := by rw [show (k : Int) + 1 = ((k + 1 : Nat) : Int) by omega]; exact i64_nat (by omega)
          generalize (a % rate == 0) = mk at e1 e2 hmb
          have v6lt := hid ho6.out.lt
          have u13b := hid (show some wr.heap.size ≠ u13.ownBlock from fun q => by have := ho7.out.lt _ q.symm; omega)
          have hgr : g < wr.heap.size := by omega
          have hg5r : g5 < wr.heap.size := by omega
          clear f1 f2 f3 hri emk hgd hgt ht1
          go_wp2_with (at_builtin; refine wpList_append_own _ rfl (.tmp 69) (.tmp 71) 68 rfl w5.heap.size 4 k0 (.bool false) 1 1 Tryz.underlying68 ki kz0 kz1 kz2 rfl (by decide) u14 k _ rfl ((ho6.out.alloc _).alloc _) ⟨wr.heap.size + 1, 0, none⟩ 1 1 [.bool mk] rfl rfl ?c1 ?c2 (by unfold maxLen; omega) (by omega) (by simp; omega) ?_)
          case c1 => intro j u hj; match j, hj with | 0, hj => (simp at hj; subst hj; simp only [Addr.add, if_true]; go_simp)
          case c2 => intro u hu; simp at hu; subst hu; rfl
          intro v1 w6 ho8 hg8 _
          have hb8 := below_grown (bel_alloc (bel_alloc hb6 _) _) ((ho6.out.alloc _).alloc _) hg8
          have ho7a := own_other ((ho7.out.alloc _).alloc _) ((ho6.out.alloc _).alloc _) (by decide) hg8
          rw [e1.out] at ho8
          have hs8 := hg8.size
          simp only [World.size_alloc] at hs8
          have zz1 : w6.cell? ⟨wr.heap.size, 0, none⟩ = some (.int .i64 d) := by
            rw [World.cell?_of_block (a := ⟨wr.heap.size, 0, none⟩) (hg8.block wr.heap.size (by simp; omega) (fun q => by have := v6lt.out _ q.symm; omega))]
            go_simp
          have zz2 : w6.cell? ⟨wr.heap.size, 1, none⟩ = some (.int .i64 a) := by
            rw [World.cell?_of_block (a := ⟨wr.heap.size, 1, none⟩) (hg8.block wr.heap.size (by simp; omega) (fun q => by have := v6lt.out _ q.symm; omega))]
            go_simp
          have zz3 : w6.cell? ⟨g, off + d * 2, none⟩ = some (.int .i64 x.1) := by
            have hne : some g ≠ u14.ownBlock := fun q => by
              rcases own_cases ho6.out with ⟨r, _⟩ | ⟨g', c', r, hg', _⟩
              · rw [r] at q; cases q
              · rw [r] at q; simp only [Value.ownBlock, Option.some.injEq] at q; omega
            rw [World.cell?_of_block (a := ⟨g, off + d * 2, none⟩) (hg8.block g (by simp; omega) hne)]
            go_simp
          have ho8 := hid ho8
          have ho7a := hid ho7a
          have hb8 := hid hb8
          clear hg8 z1 z2 z3 ho6 ho7
          cases mk with
          | false =>
            have e3 := e2.out
            simp only [Bool.false_eq_true, if_false, List.append_nil] at e3
            rw [← e3] at ho7a
            go_wp2
            go_roundw
            case rel => exact ⟨k + 1, by omega, by simp, hb8.out, ho8, ho7a⟩
            case measure => simp [intOf]; omega
          | true =>
            have e3 := e2.out
            simp only [if_true] at e3
            have e4 := hid (show Y.flatMap itemV ++ [.int .i64 (x.1 : Int), .int .i64 (a : Int)] = (Y ++ [(x.1, a)]).flatMap itemV by rw [List.flatMap_append]; rfl)
            have e5 := hid (show (Y ++ [(x.1, a)]).length = Y.length + 1 by simp)
            have e3 := hid e3
            generalize Y.flatMap itemV = Z at ho7a e4
            have yl := hsl.out
            have gb : g < w6.heap.size := by omega
            have wb : wr.heap.size < w6.heap.size := by omega
            have u13ne : Hid (some g ≠ u13.ownBlock ∧ some wr.heap.size ≠ u13.ownBlock) := hid (by
              have hl := ho7a.out.lt
              constructor
              · intro q
                rcases own_cases ho7a.out with ⟨r, _⟩ | ⟨g', c', r, hg', _⟩
                · rw [r] at q; cases q
                · rw [r] at q; simp only [Value.ownBlock, Option.some.injEq] at q; omega
              · exact u13b.out)
            go_wp2
            refine wp_region_can (fun w' => w'.cell? ⟨wr.heap.size, 0, none⟩ = some (.int .i64 d) ∧ w'.cell? ⟨wr.heap.size, 1, none⟩ = some (.int .i64 a) ∧ w'.cell? ⟨g, off + d * 2, none⟩ = some (.int .i64 x.1)) [(0, false), (1, false), (2, false), (3, false), (4, false), (5, false), (6, false), (7, false), (8, false), (9, false), (10, true), (11, true), (12, false)] (by kernel_rfl) (by kernel_rfl) (fun _ d _ _ _ h => by cases d <;> exact h) ?_ ?_
            · exact ⟨zz1, zz2, zz3⟩
            repeat ((with_reducible refine wpCan_isq ?_); first | (apply wpCan_read rfl (by rfl); (· intro w' hS; go_simp; with_reducible rfl); (· try simp only [Act.put, List.setIfInBounds_toArray, List.set_cons_zero, List.set_cons_succ]; with_reducible rfl)) | (apply wpCan_no rfl (by rfl); (· try simp only [Act.put, List.setIfInBounds_toArray, List.set_cons_zero, List.set_cons_succ]; with_reducible rfl)))
            (with_reducible refine wpCan_isl ?_); apply wpCan_step rfl (by rfl); (· go_simp; first | with_reducible rfl | exact ⟨rfl, rfl⟩); (· try simp only [Act.put, List.setIfInBounds_toArray, List.set_cons_zero, List.set_cons_succ]; with_reducible rfl); (· exact ⟨by go_simp, by go_simp, by go_simp⟩)
            (with_reducible refine wpCan_isl ?_)
            refine wpCan_loud (toL rfl) (wantedL_eq.symm.trans (by rfl)) ?_
            refine wp_append_own _ (.tmp 74) (.tmp 84) 89 rfl w5.heap.size 80 j0 (.agg #[.int .i64 0, .int .i64 0]) 2 16 Tryz.underlying89 ji jz0 jz1 jz2 rfl (by decide) u13 Y.length _ rfl ((own_below ho7a.out (bel_drew (Below.refl _ w6))).alloc _) ⟨w6.heap.size, 0, none⟩ 1 1 [.int .i64 x.1, .int .i64 a] rfl rfl ?c1 ?c2 (by unfold maxLen; omega) (by omega) (by simp; omega) ?_
            case c1 => intro j u hj; match j, hj with | 0, hj => (simp at hj; subst hj; simp only [Addr.add, if_true]; go_simp) | 1, hj => (simp at hj; subst hj; simp only [Addr.add, if_true]; go_simp)
            case c2 => intro u hu; simp at hu; rcases hu with rfl | rfl <;> rfl
            intro v2 w7 ho9 hg9 _
            have hb9 := below_grown (bel_alloc (bel_drew hb8.out) _) ((own_below ho7a.out (bel_drew (Below.refl _ w6))).alloc _) hg9
            have ho8a := own_other ((own_below ho8.out (bel_drew (Below.refl _ w6))).alloc _) ((own_below ho7a.out (bel_drew (Below.refl _ w6))).alloc _) (by decide) hg9
            rw [e4.out] at ho9
            have ho9 := hid ho9
            have ho8a := hid ho8a
            refine ⟨⟨?_, ?_, ?_⟩, ?_⟩
            · rw [World.cell?_of_block (a := ⟨wr.heap.size, 0, none⟩) (hg9.block wr.heap.size (by simp; omega) u13ne.out.2)]; go_simp
            · rw [World.cell?_of_block (a := ⟨wr.heap.size, 1, none⟩) (hg9.block wr.heap.size (by simp; omega) u13ne.out.2)]; go_simp
            · rw [World.cell?_of_block (a := ⟨g, off + d * 2, none⟩) (hg9.block g (by simp; omega) u13ne.out.1)]; go_simp
            clear hg9
            try simp only [Act.put, List.setIfInBounds_toArray, List.set_cons_zero, List.set_cons_succ]
            repeat ((with_reducible refine wpCan_isq ?_); first | (apply wpCan_read rfl (by rfl); (· intro w' hS; go_simp; with_reducible rfl); (· try simp only [Act.put, List.setIfInBounds_toArray, List.set_cons_zero, List.set_cons_succ]; with_reducible rfl)) | (apply wpCan_no rfl (by rfl); (· try simp only [Act.put, List.setIfInBounds_toArray, List.set_cons_zero, List.set_cons_succ]; with_reducible rfl)))
            refine wpCan_nil ?_
            go_wp2
            go_roundw
            case rel => exact ⟨k + 1, by omega, by simp, hb9, ho8a, by rw [e3.out, e5.out]; exact ho9⟩
            case measure => simp [intOf]; omega
    · have hlt : i < nd := by omega
      have hlt' : (i : Int) < (nd : Nat) := by omega
      obtain ⟨⟨id, s⟩, hx⟩ : ∃ x, docs[i]? = some x := ⟨docs[i]'(by rw [hnd.out]; exact hlt), List.getElem?_eq_getElem _⟩
      obtain ⟨f1, f2⟩ := doc2 hx
      have hbw := hb.size
      have z1 : wr.cell? ⟨g, off + i * 2, none⟩ = some (.int .i64 id) := ((bcell hb).1 g _ hgW).trans (((bcell hbW).1 g _ hg).trans (hc.out _ _ f1))
      have z2 : wr.cell? ⟨g, off + i * 2 + 1, none⟩ = some (.string s) := by
        have := ((bcell hb).1 g (off + (i * 2 + 1)) hgW).trans (((bcell hbW).1 g _ hg).trans (hc.out _ _ f2))
        rw [← Nat.add_assoc] at this; exact this
      have hss := hs.out _ (List.mem_of_getElem? hx)
      simp only at hss
      have e1 := hid (show strs (textsOf (docs.take i)) ++ [.string s] = strs (textsOf (docs.take (i + 1))) by rw [textsOf_take hx]; simp [strs])
      have e2 := hid (show (tableOf (docs.take i)).flatMap itemV ++ [.int .i64 (id : Int), .int .i64 (s.size : Int)] = (tableOf (docs.take (i + 1))).flatMap itemV by rw [tableOf_take hx, List.flatMap_append]; rfl)
      generalize strs (textsOf (docs.take i)) = X1 at ho1 e1
      generalize (tableOf (docs.take i)).flatMap itemV = X2 at ho2 e2
      have wi : IntKind.i64.wrap ((i : Int) + 1) = (i : Int) + 1 := by rw [show (i : Int) + 1 = ((i + 1 : Nat) : Int) by omega]; exact i64_nat (by omega)
      have hgr : g < wr.heap.size := by omega
      have v1lt := hid ho1.out.lt
      clear f1 f2 hx
      go_wp2_with (at_builtin; refine wpList_append_own _ rfl (.tmp 42) (.tmp 45) 52 rfl W.heap.size 9 i0 (.string ByteArray.empty) 1 16 Tryz.underlying52 hi hz0 hz1 hz2 rfl (by decide) u11 i _ rfl ((ho1.out.alloc _).alloc _) ⟨wr.heap.size + 1, 0, none⟩ 1 1 [.string s] rfl rfl ?c1 ?c2 (by unfold maxLen; omega) (by omega) (by simp; omega) ?_)
      case c1 => intro j u hj; match j, hj with | 0, hj => (simp at hj; subst hj; simp only [Addr.add, if_true]; go_simp)
      case c2 => intro u hu; simp at hu; subst hu; rfl
      intro v1 w3 ho3 hg3 _
      have hb3 := below_grown (bel_alloc (bel_alloc hb _) _) ((ho1.out.alloc _).alloc _) hg3
      have ho2a := own_other ((ho2.out.alloc _).alloc _) ((ho1.out.alloc _).alloc _) (by decide) hg3
      rw [e1.out] at ho3
      have hs3 := hg3.size
      simp only [World.size_alloc] at hs3
      have zz1 : w3.cell? ⟨wr.heap.size, 0, none⟩ = some (.int .i64 id) := by
        rw [World.cell?_of_block (a := ⟨wr.heap.size, 0, none⟩) (hg3.block wr.heap.size (by simp; omega) (fun q => by have := v1lt.out _ q.symm; omega))]
        go_simp
      have zz2 : w3.cell? ⟨wr.heap.size, 1, none⟩ = some (.string s) := by
        rw [World.cell?_of_block (a := ⟨wr.heap.size, 1, none⟩) (hg3.block wr.heap.size (by simp; omega) (fun q => by have := v1lt.out _ q.symm; omega))]
        go_simp
      have ho3 := hid ho3
      have ho2a := hid ho2a
      have hb3 := hid hb3
      clear hg3 z1 z2 ho1 ho2
      go_wp2_with (at_builtin; refine wpList_append_own _ rfl (.tmp 47) (.tmp 54) 89 rfl W.heap.size 80 j0 (.agg #[.int .i64 0, .int .i64 0]) 2 16 Tryz.underlying89 ji jz0 jz1 jz2 rfl (by decide) u12 i _ rfl (ho2a.out.alloc _) ⟨w3.heap.size, 0, none⟩ 1 1 [.int .i64 id, .int .i64 s.size] rfl rfl ?c1 ?c2 (by unfold maxLen; omega) (by omega) (by simp; omega) ?_)
      case c1 => intro j u hj; match j, hj with | 0, hj => (simp at hj; subst hj; simp only [Addr.add, if_true]; go_simp) | 1, hj => (simp at hj; subst hj; simp only [Addr.add, if_true]; go_simp)
      case c2 => intro u hu; simp at hu; rcases hu with rfl | rfl <;> rfl
      intro v2 w4 ho4 hg4 _
      have hb4 := below_grown (bel_alloc hb3.out _) (ho2a.out.alloc _) hg4
      have ho3a := own_other (ho3.out.alloc _) (ho2a.out.alloc _) (by decide) hg4
      rw [e2.out] at ho4
      have ho4 := hid ho4
      have ho3a := hid ho3a
      clear hg4
      go_wp2
      go_roundw
      case rel => exact ⟨i + 1, by omega, by simp, hb4, ho3a, ho4⟩
      case measure => simp [intOf]; omega
end Go.Proofs.YtngfalbabgpnnaaGreat

namespace Go.Proofs.YtngfalbabgpnnaaGreat
open Go.RowKit

set_option maxHeartbeats 4000000 in
set_option maxRecDepth 100000 in
theorem fRow_calls (w : World) (v : Value) (ts : List ByteArray) (d a : Nat) (s : ByteArray) (R : RowV w v 1 ts.length (strs ts)) (hn : ts.length < 1000) (hd : ts[d]? = some s) (ha : a ≤ s.size) :
    Calls Tryz.prog 117 #[v, .agg #[.int .i64 d, .int .i64 a]] w fun o w' => o = .returned (.bool true) ∧ Gw w w' := by
  have hdl := (List.getElem?_eq_some_iff.1 hd).1
  obtain ⟨g, off, cap, rfl, hg, hc⟩ := R.some (by omega)
  have c1 := hc d _ (strs_at hd)
  have q1 : (d : Int) ≥ 0 := by omega
  have q2 : (d : Int) < (ts.length : Nat) := by omega
  have q3 : (a : Int) ≥ 0 := by omega
  have q4 : (a : Int) ≤ (s.size : Nat) := by omega
  generalize ts.length = n at *
  clear R hc hd
  go_enter Tryz.func117, Tryz.ntmps117
  go_wp2
  generalize hW : w.alloc _ = W
  have z0 : W.cell? ⟨w.heap.size, 0, none⟩ = some (.int .i64 d) := by subst hW; go_simp
  have z1 : W.cell? ⟨w.heap.size, 1, none⟩ = some (.int .i64 a) := by subst hW; go_simp
  have z2 : W.cell? ⟨g, off + d, none⟩ = some (.string s) := by subst hW; go_simp
  have hG : Gw w W := by subst hW; exact (Gw.refl w).alloc _
  clear hW c1
  refine wp_region_can (fun w' => ∀ x, w'.cell? x = W.cell? x) [(0, false), (1, false), (2, false), (3, false), (4, false), (5, false), (6, false), (7, false), (8, false), (9, false), (10, false), (11, false), (12, false), (13, false), (14, false), (15, false), (16, false), (17, false), (18, false), (19, false), (20, false), (21, false), (22, false), (23, false), (24, false), (25, false), (26, false)] (by kernel_rfl) (by kernel_rfl) (fun _ d _ _ _ h => by cases d <;> exact h) ?_ ?_
  · exact fun _ => rfl
  repeat ((with_reducible refine wpCan_isq ?_); first | (apply wpCan_read rfl (by rfl); (· intro w' hS; go_simp; with_reducible rfl); (· try simp only [Act.put, List.setIfInBounds_toArray, List.set_cons_zero, List.set_cons_succ]; with_reducible rfl)) | (apply wpCan_no rfl (by rfl); (· try simp only [Act.put, List.setIfInBounds_toArray, List.set_cons_zero, List.set_cons_succ]; with_reducible rfl)))
  refine wpCan_nil ?_
  go_wp2
  go_ret
  exact ⟨rfl, hG.drew⟩
set_option maxHeartbeats 4000000 in
set_option maxRecDepth 100000 in
theorem fLessX_calls (w : World) (v : Value) (ts : List ByteArray) (d1 a1 d2 a2 : Nat) (s1 s2 : ByteArray) (R : RowV w v 1 ts.length (strs ts)) (hn : ts.length < 1000) (h1 : ts[d1]? = some s1) (h1a : a1 ≤ s1.size) (h2 : ts[d2]? = some s2) (h2a : a2 ≤ s2.size) (hs1 : s1.size < 1000000) (hs2 : s2.size < 1000000) :
    Calls Tryz.prog 83 #[v, .agg #[.int .i64 d1, .int .i64 a1], .agg #[.int .i64 d2, .int .i64 a2]] w fun o w' => o = .returned (.bool (lexLess (bl (s1.extract a1 s1.size)) (bl (s2.extract a2 s2.size)) (decide (d1 < d2)))) ∧ Gw w w' := by
  have hdl := (List.getElem?_eq_some_iff.1 h1).1
  have hdl2 := (List.getElem?_eq_some_iff.1 h2).1
  have H1 := fun w' (hb : Below w.heap.size w w') => fRow_calls w' v ts d1 a1 s1 (R.below hb) hn h1 h1a
  have H2 := fun w' (hb : Below w.heap.size w w') => fRow_calls w' v ts d2 a2 s2 (R.below hb) hn h2 h2a
  obtain ⟨g, off, cap, rfl, hg, hc⟩ := R.some (by omega)
  have c1 := hc d1 _ (strs_at h1)
  have c2 := hc d2 _ (strs_at h2)
  have q1 : (d1 : Int) < (ts.length : Nat) := by omega
  have q2 : (d2 : Int) < (ts.length : Nat) := by omega
  have q3 : (a1 : Int) ≤ (s1.size : Nat) := by omega
  have q4 : (a2 : Int) ≤ (s2.size : Nat) := by omega
  generalize ts.length = n0 at *
  have sz1 : (s1.extract a1 s1.size).size ≤ s1.size := by simp [ByteArray.size_extract]
  have sz2 : (s2.extract a2 s2.size).size ≤ s2.size := by simp [ByteArray.size_extract]
  generalize hsa : s1.extract a1 s1.size = sa at *
  generalize hsb : s2.extract a2 s2.size = sb at *
  have hRR := hid (rfl : lexLess (bl sa) (bl sb) (decide (d1 < d2)) = lexLess (bl sa) (bl sb) (decide (d1 < d2)))
  generalize hR0 : lexLess (bl sa) (bl sb) (decide (d1 < d2)) = R at hRR ⊢
  have hR0 := hid hR0
  clear hc h1 h2 hRR
  go_enter Tryz.func83, Tryz.ntmps83
  go_wp2_with fail
  refine (H1 _ (by repeat (first | with_reducible exact Below.refl _ _ | with_reducible assumption | with_reducible refine bel_drewN ?_ | with_reducible refine bel_drew ?_ | with_reducible refine bel_alloc ?_ _ | with_reducible refine bel_set ?_ _ ?_ | with_reducible refine bel_trans ?_ (by with_reducible assumption) | ((try dsimp only); omega)))).mono ?_; rintro o1 w1 ⟨rfl, gw1⟩
  have hb1 := gw1.below; obtain ⟨hc1, hf1⟩ := bcell hb1
  have zz := hb1.size; (try simp only [World.size_alloc, World.size_drew, World.size_setCell] at zz); have : w.heap.size < w1.heap.size := (by omega); have : w.heap.size + 1 < w1.heap.size := (by omega); clear zz
  go_wp2_with fail
  refine (H2 _ (by repeat (first | with_reducible exact Below.refl _ _ | with_reducible assumption | with_reducible refine bel_drewN ?_ | with_reducible refine bel_drew ?_ | with_reducible refine bel_alloc ?_ _ | with_reducible refine bel_set ?_ _ ?_ | with_reducible refine bel_trans ?_ (by with_reducible assumption) | ((try dsimp only); omega)))).mono ?_; rintro o2 w2 ⟨rfl, gw2⟩
  have hb2 := gw2.below; obtain ⟨hc2, hf2⟩ := bcell hb2
  have zz := hb2.size; (try simp only [World.size_alloc, World.size_drew, World.size_setCell] at zz); clear zz
  have hg1 : g < w1.heap.size := by omega
  have hg2 : g < w.heap.size + 1 := by omega
  have hg3 : g < w.heap.size + 1 + 1 := by omega
  have z0 : w2.cell? ⟨w.heap.size, 0, none⟩ = some (.int .i64 d1) := by go_simp
  have z1 : w2.cell? ⟨w.heap.size, 1, none⟩ = some (.int .i64 a1) := by go_simp
  have z2 : w2.cell? ⟨w.heap.size + 1, 0, none⟩ = some (.int .i64 d2) := by go_simp
  have z3 : w2.cell? ⟨w.heap.size + 1, 1, none⟩ = some (.int .i64 a2) := by go_simp
  have z4 : w2.cell? ⟨g, off + d1, none⟩ = some (.string s1) := by go_simp
  have z5 : w2.cell? ⟨g, off + d2, none⟩ = some (.string s2) := by go_simp
  clear hc1 hf1 hc2 hf2 c1 c2
  go_wp2
  refine wp_region_can (fun w' => ∀ x, w'.cell? x = w2.cell? x) [(0, false), (1, false), (2, false), (3, false), (4, false), (5, false), (6, false), (7, false), (8, false), (9, false), (10, false), (11, false), (12, false), (13, false), (14, false), (15, false), (16, false), (17, false)] (by kernel_rfl) (by kernel_rfl) (fun _ d _ _ _ h => by cases d <;> exact h) ?_ ?_
  · exact fun _ => rfl
  repeat ((with_reducible refine wpCan_isq ?_); first | (apply wpCan_read rfl (by rfl); (· intro w' hS; go_simp; with_reducible rfl); (· try simp only [Act.put, List.setIfInBounds_toArray, List.set_cons_zero, List.set_cons_succ]; with_reducible rfl)) | (apply wpCan_no rfl (by rfl); (· try simp only [Act.put, List.setIfInBounds_toArray, List.set_cons_zero, List.set_cons_succ]; with_reducible rfl)))
  refine wpCan_nil ?_
  have G2 : Gw w w2 := ((((Gw.refl w).alloc _).alloc _).trans gw1).trans gw2
  go_wp2
  clear H1 H2 z4 z5 hb1 hb2
  go_loopw [9] (fun c wr => ∃ i : Nat, i ≤ sa.size ∧ i ≤ sb.size ∧ c = .int .i64 i ∧ Gw w wr ∧ wr.cell? ⟨w.heap.size, 0, none⟩ = some (.int .i64 d1) ∧ wr.cell? ⟨w.heap.size + 1, 0, none⟩ = some (.int .i64 d2) ∧ Hid (lexLess ((bl sa).drop i) ((bl sb).drop i) (decide (d1 < d2)) = R)) (fun c _ => sa.size - (intOf c).toNat)
  case atStart => exact ⟨0, by omega, by omega, rfl, G2.drew, z0, z2, by simpa using hR0⟩
  case round =>
    clear z0 z2
    obtain ⟨i, i1, i2, rfl, gw, z0, z1, hR⟩ := hrel
    by_cases e1 : i = sa.size
    · by_cases e2 : i = sb.size
      · have fin := hid (show decide (d1 < d2) = R by
          have := hR.out
          rw [List.drop_of_length_le (by rw [bl_length]; omega), List.drop_of_length_le (by rw [bl_length]; omega)] at this
          simp only [lexLess] at this
          exact this)
        have qa : ((i : Int) == (sa.size : Nat)) = true := by simp [e1]
        have qb : ((i : Int) == (sb.size : Nat)) = true := by simp [e2]
        clear e1 e2
        go_wp2
        go_ret
        exact ⟨by rw [← fin.out]; rfl, gw⟩
      · have fin := hid (show true = R by
          have := hR.out
          have hd : (bl sb).drop i = (bl sb)[i]'(by rw [bl_length]; omega) :: (bl sb).drop (i + 1) := List.drop_eq_getElem_cons _
          rw [List.drop_of_length_le (by rw [bl_length]; omega), hd] at this
          simpa only [lexLess] using this)
        have qa : ((i : Int) == (sa.size : Nat)) = true := by simp [e1]
        have qb : ((i : Int) == (sb.size : Nat)) = false := by simp; omega
        clear e1 e2
        go_wp2
        go_ret
        exact ⟨by rw [← fin.out]; rfl, gw⟩
    · have qa : ((i : Int) == (sa.size : Nat)) = false := by simp; omega
      have hda : (bl sa).drop i = (bl sa)[i]'(by rw [bl_length]; omega) :: (bl sa).drop (i + 1) := List.drop_eq_getElem_cons _
      by_cases e2 : i = sb.size
      · have fin := hid (show false = R by
          have := hR.out
          rw [hda, List.drop_of_length_le (l := bl sb) (by rw [bl_length]; omega)] at this
          simpa only [lexLess] using this)
        have qb : ((i : Int) == (sb.size : Nat)) = true := by simp [e2]
        clear hda e1 e2
        go_wp2
        go_ret
        exact ⟨by rw [← fin.out]; rfl, gw⟩
      · have qb : ((i : Int) == (sb.size : Nat)) = false := by simp; omega
        have qc : (i : Int) < (sa.size : Nat) := by omega
        have qd : (i : Int) < (sb.size : Nat) := by omega
        have p1 : i < sa.size := by omega
        have p2 : i < sb.size := by omega
        have hda : (bl sa).drop i = sa[i] :: (bl sa).drop (i + 1) := hda
        have hdb : (bl sb).drop i = sb[i] :: (bl sb).drop (i + 1) := List.drop_eq_getElem_cons (l := bl sb) (by rw [bl_length]; omega)
        have hR1 := hR.out
        rw [hda, hdb, lexLess] at hR1
        have wi : IntKind.i64.wrap ((i : Int) + 1) = (i : Int) + 1 := by rw [show (i : Int) + 1 = ((i + 1 : Nat) : Int) by omega]; exact i64_nat (by omega)
        by_cases e : sa[i] = sb[i]
        · rw [if_pos e] at hR1
          have hR2 := hid hR1
          have qe : (((sa[i]).toNat : Int) != ((sb[i]).toNat : Int)) = false := by rw [e]; simp
          have qf : (((sa[i]).toNat : Int) == ((sb[i]).toNat : Int)) = true := by rw [e]; simp
          clear hda hdb hR hR1 e
          go_wp2
          refine wp_region_can (fun w' => True) [(0, false), (1, false), (2, false), (3, false), (4, false), (5, false), (6, false)] (by kernel_rfl) (by kernel_rfl) (fun _ d _ _ _ h => by cases d <;> exact h) ?_ ?_
          · trivial
          repeat ((with_reducible refine wpCan_isq ?_); first | (apply wpCan_read rfl (by rfl); (· intro w' hS; go_simp; with_reducible rfl); (· try simp only [Act.put, List.setIfInBounds_toArray, List.set_cons_zero, List.set_cons_succ]; with_reducible rfl)) | (apply wpCan_no rfl (by rfl); (· try simp only [Act.put, List.setIfInBounds_toArray, List.set_cons_zero, List.set_cons_succ]; with_reducible rfl)))
          refine wpCan_nil ?_
          go_wp2
          go_roundw
          case rel => exact ⟨i + 1, by omega, by omega, by simp, gw.drew, z0, z1, hR2⟩
          case measure => simp [intOf]; omega
        · rw [if_neg e] at hR1
          have hnat : (sa[i]).toNat ≠ (sb[i]).toNat := fun q => e (UInt8.toNat_inj.1 q)
          have qe : (((sa[i]).toNat : Int) != ((sb[i]).toNat : Int)) = true := by simp; omega
          have qf : (((sa[i]).toNat : Int) == ((sb[i]).toNat : Int)) = false := by simp; omega
          have fin := hid (show decide ((sa[i]).toNat < (sb[i]).toNat) = R by rw [← hR1]; simp only [UInt8.lt_iff_toNat_lt])
          clear hda hdb hR hR1 e hnat
          go_wp2
          refine wp_region_can (fun w' => True) [(0, false), (1, false), (2, false), (3, false), (4, false), (5, false), (6, false)] (by kernel_rfl) (by kernel_rfl) (fun _ d _ _ _ h => by cases d <;> exact h) ?_ ?_
          · trivial
          repeat ((with_reducible refine wpCan_isq ?_); first | (apply wpCan_read rfl (by rfl); (· intro w' hS; go_simp; with_reducible rfl); (· try simp only [Act.put, List.setIfInBounds_toArray, List.set_cons_zero, List.set_cons_succ]; with_reducible rfl)) | (apply wpCan_no rfl (by rfl); (· try simp only [Act.put, List.setIfInBounds_toArray, List.set_cons_zero, List.set_cons_succ]; with_reducible rfl)))
          refine wpCan_nil ?_
          go_wp2
          refine wp_region_can (fun w' => True) [(0, false), (1, false), (2, false), (3, false), (4, false), (5, false), (6, false), (7, false)] (by kernel_rfl) (by kernel_rfl) (fun _ d _ _ _ h => by cases d <;> exact h) ?_ ?_
          · trivial
          repeat ((with_reducible refine wpCan_isq ?_); first | (apply wpCan_read rfl (by rfl); (· intro w' hS; go_simp; with_reducible rfl); (· try simp only [Act.put, List.setIfInBounds_toArray, List.set_cons_zero, List.set_cons_succ]; with_reducible rfl)) | (apply wpCan_no rfl (by rfl); (· try simp only [Act.put, List.setIfInBounds_toArray, List.set_cons_zero, List.set_cons_succ]; with_reducible rfl)))
          refine wpCan_nil ?_
          go_wp2
          go_ret
          exact ⟨by rw [← fin.out]; rfl, gw.drew.drew⟩

theorem fLess_calls (w : World) (v : Value) (ts : List ByteArray) (x y : Nat × Nat) (R : RowV w v 1 ts.length (strs ts)) (hn : ts.length < 1000) (hs : ∀ s ∈ ts, s.size < 1000000) (hx : rowOk ts x) (hy : rowOk ts y) :
    Calls Tryz.prog 83 #[v, .agg #[.int .i64 x.1, .int .i64 x.2], .agg #[.int .i64 y.1, .int .i64 y.2]] w fun o w' => o = .returned (.bool (rowLess ts x y)) ∧ Gw w w' := by
  obtain ⟨x1, x2⟩ := hx
  obtain ⟨y1, y2⟩ := hy
  have ex : ts[x.1]? = some (ts.getD x.1 ByteArray.empty) := by simp [List.getD, List.getElem?_eq_getElem x1]
  have ey : ts[y.1]? = some (ts.getD y.1 ByteArray.empty) := by simp [List.getD, List.getElem?_eq_getElem y1]
  have := fLessX_calls w v ts x.1 x.2 y.1 y.2 _ _ R hn ex x2 ey y2 (hs _ (List.mem_of_getElem? ex)) (hs _ (List.mem_of_getElem? ey))
  rw [bl_extract _ _ x2, bl_extract _ _ y2] at this
  exact this

set_option maxHeartbeats 4000000 in
set_option maxRecDepth 100000 in
theorem fTexts_calls (w : World) (vl : Value) (docs : List Doc) (R : RowV w vl 2 docs.length (docs.flatMap docV)) (hd : docs.length ≤ 10) (hd0 : docs ≠ []) :
    Calls Tryz.prog 26 #[vl] w fun o w' => ∃ v, o = .returned v ∧ w'.ownsRow w.heap.size 9 1 v docs.length (strs (textsOf docs)) ∧ Below w.heap.size w w' := by
  obtain ⟨i0, hi, hz0, hz1, hz2⟩ := info_parts info_str
  have hdp : 0 < docs.length := List.length_pos_iff.2 hd0
  obtain ⟨g, off, cap, hvl, hg, hc⟩ := R.some (by omega)
  subst hvl
  have hc := hid hc
  clear R
  generalize hnd : docs.length = nd at *
  have hnd := hid hnd
  go_enter Tryz.func26, Tryz.ntmps26
  go_wp2
  go_loopw [3, 4] (fun v c wr => ∃ i : Nat, i ≤ nd ∧ c = .int .i64 i ∧ Below w.heap.size w wr ∧ Hid (wr.ownsRow w.heap.size 9 1 v i (strs (textsOf (docs.take i))))) (fun _ c _ => nd - (intOf c).toNat)
  case atStart => exact ⟨0, by omega, rfl, Below.refl _ _, hid (World.ownsRow_nil _ _ _ _)⟩
  case round =>
    obtain ⟨i, hin, rfl, hb, ho⟩ := hrel
    by_cases hil : i = nd
    · subst hil
      rw [List.take_of_length_le (by rw [hnd.out]; exact Nat.le_refl _)] at ho
      go_wp2
      go_ret
      exact ⟨_, rfl, ho.out, hb⟩
    · have hlt : i < nd := by omega
      have hlt' : (i : Int) < (nd : Nat) := by omega
      obtain ⟨⟨id, s⟩, hx⟩ : ∃ x, docs[i]? = some x := ⟨docs[i]'(by rw [hnd.out]; exact hlt), List.getElem?_eq_getElem _⟩
      obtain ⟨f1, f2⟩ := doc2 hx
      have hbw := hb.size
      have z2 : wr.cell? ⟨g, off + i * 2 + 1, none⟩ = some (.string s) := by
        have := ((bcell hb).1 g (off + (i * 2 + 1)) hg).trans (hc.out _ _ f2)
        rw [← Nat.add_assoc] at this; exact this
      have e1 := hid (show strs (textsOf (docs.take i)) ++ [.string s] = strs (textsOf (docs.take (i + 1))) by rw [textsOf_take hx]; simp [strs])
      generalize strs (textsOf (docs.take i)) = X1 at ho e1
      have wi : IntKind.i64.wrap ((i : Int) + 1) = (i : Int) + 1 := by rw [show (i : Int) + 1 = ((i + 1 : Nat) : Int) by omega]; exact i64_nat (by omega)
      clear f1 f2 hx
      go_wp2_with (at_builtin; refine wpList_append_own _ rfl (.tmp 11) (.tmp 17) 52 rfl w.heap.size 9 i0 (.string ByteArray.empty) 1 16 Tryz.underlying52 hi hz0 hz1 hz2 rfl (by decide) u3 i _ rfl (ho.out.alloc _) ⟨wr.heap.size, 0, none⟩ 1 1 [.string s] rfl rfl ?c1 ?c2 (by unfold maxLen; omega) (by omega) (by simp; omega) ?_)
      case c1 => intro j u hj; match j, hj with | 0, hj => (simp at hj; subst hj; simp only [Addr.add, if_true]; go_simp)
      case c2 => intro u hu; simp at hu; subst hu; rfl
      intro v1 w3 ho3 hg3 _
      have hb3 := below_grown (bel_alloc hb _) (ho.out.alloc _) hg3
      rw [e1.out] at ho3
      have ho3 := hid ho3
      clear hg3
      go_wp2
      go_roundw
      case rel => exact ⟨i + 1, by omega, by simp, hb3, ho3⟩
      case measure => simp [intOf]; omega

set_option maxHeartbeats 4000000 in
set_option maxRecDepth 100000 in
theorem fRight_calls (w : World) (v : Value) (ts : List ByteArray) (R : RowV w v 1 ts.length (strs ts)) (hn : ts.length ≤ 10) (h0 : ts ≠ []) (hs : ∀ s ∈ ts, s.size ≤ 40) :
    Calls Tryz.prog 82 #[v] w fun o w' => o = .returned (.bool true) ∧ w' = w := by
  have hdp : 0 < ts.length := List.length_pos_iff.2 h0
  obtain ⟨g, off, cap, hvl, hg, hc⟩ := R.some (by omega)
  subst hvl
  have hc := hid hc
  have hs := hid hs
  clear R
  generalize hnd : ts.length = nd at *
  have hnd := hid hnd
  have qn : ((nd : Nat) : Int) ≤ 10 := by omega
  go_enter Tryz.func82, Tryz.ntmps82
  go_wp2
  go_loopw [3] (fun c wr => ∃ i : Nat, i ≤ nd ∧ c = .int .i64 i ∧ wr = w) (fun c _ => nd - (intOf c).toNat)
  case atStart => exact ⟨0, by omega, rfl, rfl⟩
  case round =>
    obtain ⟨i, hin, rfl, rfl⟩ := hrel
    by_cases hil : i = nd
    · subst hil
      go_wp2
      go_ret
      exact ⟨rfl, rfl⟩
    · have hlt : i < nd := by omega
      have hlt' : (i : Int) < (nd : Nat) := by omega
      obtain ⟨s, hx⟩ : ∃ x, ts[i]? = some x := ⟨ts[i]'(by rw [hnd.out]; exact hlt), List.getElem?_eq_getElem _⟩
      have z2 := hc.out i _ (strs_at hx)
      have hss := hs.out s (List.mem_of_getElem? hx)
      have q1 : ¬ ((s.size : Nat) : Int) > 40 := by omega
      have q2 : ((s.size : Nat) : Int) ≤ 40 := by omega
      have wi : IntKind.i64.wrap ((i : Int) + 1) = (i : Int) + 1 := by rw [show (i : Int) + 1 = ((i + 1 : Nat) : Int) by omega]; exact i64_nat (by omega)
      clear hx
      go_wp2
      go_roundw
      case rel => refine ⟨i + 1, by omega, by simp, ?_⟩; first | trivial | rfl
      case measure => simp [intOf]; omega
end Go.Proofs.YtngfalbabgpnnaaGreat

namespace Go.Proofs.YtngfalbabgpnnaaGreat
open Go.RowKit
variable {P : Program} {ops : Array Oper} {Q : Exit → Act → World → Prop} {S : World → Prop}

theorem addr_add (b o m : Nat) : (⟨b, o, none⟩ : Addr).add m = ⟨b, o + m, none⟩ := by
  unfold Addr.add; split <;> simp_all

/-- What is left where either of two may come up. -/
def forkQ (P : Program) (ops : Array Oper) (Q : Exit → Act → World → Prop) (S : World → Prop) (i j : Nat) (p1 p2 : List (Nat × Bool)) : Exit → Act → World → Prop
  | .normal, a, w => wpOp P ops Q i (fun a' w' => S w' ∧ wpCan P ops Q S p1 a' w') a w ∧ wpOp P ops Q j (fun a' w' => S w' ∧ wpCan P ops Q S p2 a' w') a w
  | e, a, w => Q e a w

theorem wpOp_forkQ {i j : Nat} {p1 p2 : List (Nat × Bool)} {k : Nat} {K : Act → World → Prop} {a : Act} {w : World} (h : wpOp P ops (forkQ P ops Q S i j p1 p2) k K a w) : wpOp P ops Q k K a w := by
  unfold wpOp at *
  split
  · rename_i ho; simpa [ho] using h
  · rename_i o ho
    simp only [ho] at h
    split
    · rename_i hw
      simp only [hw, if_true] at h
      rcases h with h | ⟨h1, h2⟩
      · refine Or.inl ?_
        unfold Oper.wp at *
        generalize (execOp a.eval o).run P w = r at *
        cases r with
        | ok n w' =>
          cases n <;> simp only [Oper.upon] at h ⊢ <;> try exact h
        | halt x w' =>
          cases x <;> simp only [Oper.upon] at h ⊢ <;> try exact h
      · exact Or.inr ⟨h1, h2⟩
    · rename_i hw
      simp only [hw] at h
      exact h

def canF (md : Region.Mode) (ops : Array Oper) (i j : Nat) (p1 p2 : List (Nat × Bool)) : List (Nat × Bool) → Array Bool → Bool
  | [], listed => decide (Region.ready md ops listed = [i, j]) && (canB md ops p1 (listed.setIfInBounds i true) && canB md ops p2 (listed.setIfInBounds j true))
  | (k, l) :: r, listed => (if l then decide (Region.ready md ops listed = [k]) else (Region.ready md ops listed).contains k && Region.free md ops listed k) && canF md ops i j p1 p2 r (listed.setIfInBounds k true)

theorem wpAnyH_of_fork {md : Region.Mode} {i j : Nat} {p1 p2 : List (Nat × Bool)} (hs : Region.noSelect ops = true) (hQ : ∀ c d v a w, Q (.panic c) (Act.put a d v) w → Q (.panic c) a w) (hl : p2.length = p1.length) :
    ∀ (l : List (Nat × Bool)) (listed : Array Bool) (a : Act) (w : World), canF md ops i j p1 p2 l listed = true → S w → wpCan P ops (forkQ P ops Q S i j p1 p2) S l a w → wpAnyH P md ops Q S (l.length + (1 + p1.length)) listed a w
  | [], listed, a, w, hB, hS, h => by
    simp only [canF, Bool.and_eq_true, decide_eq_true_eq] at hB
    obtain ⟨h1, h2⟩ := h
    rw [List.length_nil, Nat.zero_add, Nat.add_comm]
    refine wpAnyH_all hB.1 (by simp) fun k hk => ?_
    rcases List.mem_cons.1 hk with rfl | hk
    · exact wpOp_mono (fun a' w' ⟨q1, q2⟩ => ⟨q1, wpAnyH_of_can hs hQ p1 _ a' w' hB.2.1 q1 q2⟩) h1
    · obtain rfl : k = j := by simpa using hk
      rw [← hl]
      exact wpOp_mono (fun a' w' ⟨q1, q2⟩ => ⟨q1, wpAnyH_of_can hs hQ p2 _ a' w' hB.2.2 q1 q2⟩) h2
  | (k, true) :: r, listed, a, w, hB, hS, h => by
    simp only [canF, if_true, Bool.and_eq_true, decide_eq_true_eq] at hB
    have e : ((k, true) :: r).length + (1 + p1.length) = r.length + (1 + p1.length) + 1 := by simp only [List.length_cons]; omega
    rw [e]
    refine wpAnyH_all hB.1 (by simp) fun m hm => ?_
    obtain rfl : m = k := by simpa using hm
    exact wpOp_mono (fun a' w' ⟨q1, q2⟩ => ⟨q1, wpAnyH_of_fork hs hQ hl r _ a' w' hB.2 q1 q2⟩) (wpOp_forkQ h)
  | (k, false) :: r, listed, a, w, hB, hS, h => by
    simp only [canF, Bool.false_eq_true, if_false, Bool.and_eq_true] at hB
    obtain ⟨o, v, ho, hy, h⟩ := h
    have e : ((k, false) :: r).length + (1 + p1.length) = r.length + (1 + p1.length) + 1 := by simp only [List.length_cons]; omega
    rw [e]
    exact wpAnyH_take ho hs hB.1.2 hB.1.1 (fun c a w => hQ c _ _ a w) hy hS (wpAnyH_of_fork hs hQ hl r _ _ w hB.2 hS h)

/-- THE BEGINNING. -/
theorem wp_region_fork {id : Nat} {l : List Oper} {a : Act} {w : World} (S : World → Prop) (ord : List (Nat × Bool)) (i j : Nat) (p1 p2 : List (Nat × Bool)) (hm : P.follows .mixedOrders = true)
    (hB : (Region.noSelect l.toArray && (canF .any l.toArray i j p1 p2 ord (Array.replicate l.toArray.size false) && (decide (ord.length + (1 + p1.length) = l.toArray.size) && decide (p2.length = p1.length)))) = true)
    (hQ : ∀ c d v a w, Q (.panic c) (Act.put a d v) w → Q (.panic c) a w) (hS : S w.drew) (h : wpCan P l.toArray (forkQ P l.toArray Q S i j p1 p2) S ord a w.drew) : (Code.region id l.toArray true).wp P Q a w := by
  simp only [Bool.and_eq_true, decide_eq_true_eq] at hB
  refine wp_region_held (S := S) hm ?_
  have h2 := wpAnyH_of_fork hB.1 hQ hB.2.2.2 ord _ a w.drew hB.2.1 hS h
  rw [hB.2.2.1] at h2
  exact h2

theorem wpOp_wp {i : Nat} {o : Oper} {a : Act} {w : World} {K : Act → World → Prop} (ho : ops.toList[i]? = some o) (hw : wantedL ops.toList a.tmps.toList o.guard = true) (h : o.wp P a w K Q) : wpOp P ops Q i K a w := by
  unfold wpOp
  rw [toL ho]
  simp only [wantedL_eq.symm.trans hw, if_true]
  exact Or.inl h
theorem wpOp_step {i : Nat} {o : Oper} {a : Act} {w w' : World} {v : Value} {K : Act → World → Prop} (ho : ops.toList[i]? = some o) (hw : wantedL ops.toList a.tmps.toList o.guard = true) (hv : (execOp a.eval o).run P w = .ok (.value v) w') (h : K (a.put o.dst v) w') : wpOp P ops Q i K a w := by
  refine wpOp_wp ho hw ?_
  unfold Oper.wp
  rw [hv, Oper.upon_value]
  exact h
end Go.Proofs.YtngfalbabgpnnaaGreat
