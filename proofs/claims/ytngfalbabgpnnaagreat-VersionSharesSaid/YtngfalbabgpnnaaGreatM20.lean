/-
  The walk of Build.
  The walk of Counted.
-/
import Derived.Test.YtngfalbabgpnnaaGreatM2
import Derived.Test.YtngfalbabgpnnaaGreatM3
import Derived.Test.YtngfalbabgpnnaaGreatM14
import Derived.Test.YtngfalbabgpnnaaGreatM15
import Derived.Test.YtngfalbabgpnnaaGreatM17
import Derived.Test.YtngfalbabgpnnaaGreatM19
import Derived.Maps.OwnSet
import Derived.Maps.OwnOps
set_option linter.unusedVariables false
set_option linter.unusedSimpArgs false
namespace Go.Proofs.YtngfalbabgpnnaaGreat
open Go.RowKit St

set_option maxHeartbeats 8000000 in
set_option maxRecDepth 100000 in
theorem build_calls (w : World) (p : Nat) (S : St) (vl : Value) (docs : List Doc) (rate : Nat) (H : Ar w p S) (B : BSt S 0 0 0 0 [] [] [] []) (hw : S.wait = []) (RL : RowV w vl 2 docs.length (docs.flatMap docV))
    (hloc : ∀ g off cap, vl = .slice (some ⟨g, off, none⟩) docs.length cap → Loc p w g) (hr1 : 1 ≤ rate) (hr2 : rate ≤ 16) (hd : docs.length ≤ 10) (hd0 : docs ≠ []) (hs : ∀ x ∈ docs, x.2.size ≤ 40) (hids : ∀ x ∈ docs, 1 ≤ x.1 ∧ x.1 < 9223372036854775808)
    (hnd : (docs.map (·.1)).Nodup) (hN : (allRows (textsOf docs)).length ≤ 1000) (hn : 44 * (rsort (textsOf docs)).length + 500 ≤ S.n) (hn2 : S.n ≤ 6000) :
    Calls Tryz.prog 10 #[.pointer (some ⟨p, 0, none⟩), .int .i64 rate, vl] w fun o w' => ∃ h S', o = .returned (.tuple #[.int .i64 h, .bool true]) ∧ Ar w' p S' ∧ Fr [] p w w' ∧ S'.Inv (more h noneHeld) ∧
      S'.vr h (symsOf (textsOf docs)) (marksOf docs rate) (spotsOf docs rate) (tableOf docs) ∧ S'.wait = [] ∧ S'.n = S.n := by
  have hdp : 0 < docs.length := List.length_pos_iff.2 hd0
  obtain ⟨g, off, cap, hvl, hg, hc⟩ := RL.some (by omega)
  have lg := hloc g off cap hvl
  subst hvl
  have htn : textsOf docs ≠ [] := fun q => by simp [textsOf] at q; exact hd0 q
  have htl : (textsOf docs).length = docs.length := by simp [textsOf]
  have hss : ∀ s ∈ textsOf docs, s.size ≤ 40 := fun s h => by
    obtain ⟨x, hx, rfl⟩ := List.mem_map.1 h
    exact hs x hx
  have HT := fun w' (hb : Below w.heap.size w w') => fTexts_calls w' _ docs (RL.below hb) hd hd0
  have hmp : (rsort (textsOf docs)).length ≠ 0 := by
    rw [rsort_length]
    intro q
    have := List.length_eq_zero_iff.1 q
    cases hq : textsOf docs with
    | nil => exact htn hq
    | cons s r => rw [hq] at this; simp [allRows, rowsFrom] at this
  have hsl : (symsOf (textsOf docs)).length = (rsort (textsOf docs)).length := by simp [symsOf]
  have hml : (rsort (textsOf docs)).length ≤ 1000 := by rw [rsort_length]; exact hN
  have hc := hid hc
  have hs := hid hs
  have hids := hid hids
  have hnd := hid hnd
  have hN := hid hN
  have hss := hid hss
  have htn := hid htn
  have htl := hid htl
  have hd0 := hid hd0
  have hmp := hid hmp
  have hsl := hid hsl
  have B := hid B
  clear RL hloc
  generalize hndl : docs.length = nd at *
  generalize hmm : (rsort (textsOf docs)).length = m at *
  have hndl := hid hndl
  have hmm := hid hmm
  have q0 : ((nd : Int) == 0) = false := by simp; omega
  go_enter Tryz.func10, Tryz.ntmps10
  go_wp2_with fail
  refine (HT _ (by repeat (first | with_reducible exact Below.refl _ _ | with_reducible assumption | with_reducible refine bel_drewN ?_ | with_reducible refine bel_drew ?_ | with_reducible refine bel_alloc ?_ _ | with_reducible refine bel_set ?_ _ ?_ | with_reducible refine bel_trans ?_ (by with_reducible assumption) | ((try dsimp only); omega)))).mono ?_; rintro o w1 ⟨v1, rfl, o1, b1⟩
  have hb1 : Below w.heap.size w w1 := bel_trans (by repeat (first | with_reducible exact Below.refl _ _ | with_reducible assumption | with_reducible refine bel_drewN ?_ | with_reducible refine bel_drew ?_ | with_reducible refine bel_alloc ?_ _ | with_reducible refine bel_set ?_ _ ?_ | with_reducible refine bel_trans ?_ (by with_reducible assumption) | ((try dsimp only); omega))) b1
  have HS := fun w' (hb : Below w1.heap.size w1 w') => fSorted_calls w' v1 (textsOf docs) (by rw [htl.out]; exact (RowV.own o1).below hb) (by rw [htl.out]; exact hd) htn.out hss.out hN.out
  have HY := fun w' (hb : Below w1.heap.size w1 w') => fSymbols_calls w' v1 (textsOf docs) (by rw [htl.out]; exact (RowV.own o1).below hb) (by rw [htl.out]; exact hd) htn.out hss.out hN.out
  clear HT o1
  have cA : w1.cell? ⟨w.heap.size, 0, none⟩ = some (.pointer (some ⟨p, 0, none⟩)) := by
    rw [b1.cell (p := ⟨w.heap.size, 0, none⟩) (by simp)]; go_simp
  have sA : w.heap.size < w1.heap.size := by have := b1.size; simp at this; omega
  clear b1
  go_wp2_with fail
  refine (HS _ (by repeat (first | with_reducible exact Below.refl _ _ | with_reducible assumption | with_reducible refine bel_drewN ?_ | with_reducible refine bel_drew ?_ | with_reducible refine bel_alloc ?_ _ | with_reducible refine bel_set ?_ _ ?_ | with_reducible refine bel_trans ?_ (by with_reducible assumption) | ((try dsimp only); omega)))).mono ?_; rintro o w2 ⟨v2, rfl, o2, b2⟩
  clear HS
  rw [hmm.out] at o2
  rcases own_cases o2 with ⟨_, q, _⟩ | ⟨gr, cr, rfl, hgr, hgrs, _, hcr⟩
  · exact absurd q hmp.out
  clear o2
  go_wp2_with fail
  refine (HY _ (by repeat (first | with_reducible exact Below.refl _ _ | with_reducible assumption | with_reducible refine bel_drewN ?_ | with_reducible refine bel_drew ?_ | with_reducible refine bel_alloc ?_ _ | with_reducible refine bel_set ?_ _ ?_ | with_reducible refine bel_trans ?_ (by with_reducible assumption) | ((try dsimp only); omega)))).mono ?_; rintro o w3 ⟨v3, rfl, o3, b3⟩
  clear HY
  rw [hsl.out] at o3
  rcases own_cases o3 with ⟨_, q, _⟩ | ⟨gs, cs, rfl, hgs, hgss, _, hcs⟩
  · exact absurd q hmp.out
  clear o3
  have b13 := bel_trans b2 b3
  go_wp2
  have s1 := hb1.size
  have s12 := b2.size
  have s23 := b3.size
  generalize hW : World.alloc _ _ = W
  have hsz : W.heap.size = w3.heap.size + 1 + 1 := by subst hW; simp
  have cK : W.cell? ⟨w3.heap.size + 1, 0, none⟩ = some (.bool true) := by subst hW; go_simp
  have b3W : Below w3.heap.size w3 W := by subst hW; exact bel_alloc (bel_alloc (Below.refl _ _) _) _
  have hbW : Below w.heap.size w W := bel_trans (bel_trans hb1 b13) b3W
  have cP0 : W.cell? ⟨w3.heap.size, 0, none⟩ = some (.int .i64 0) := by subst hW; go_simp
  have cP1 : W.cell? ⟨w3.heap.size, 1, none⟩ = some (.int .i64 0) := by subst hW; go_simp
  have cP2 : W.cell? ⟨w3.heap.size, 2, none⟩ = some (.int .i64 0) := by subst hW; go_simp
  have cP3 : W.cell? ⟨w3.heap.size, 3, none⟩ = some (.int .i64 0) := by subst hW; go_simp
  have fP : ∀ j, W.frozen? ⟨w3.heap.size, j, none⟩ = false := fun j => by subst hW; go_simp
  have cA : W.cell? ⟨w.heap.size, 0, none⟩ = some (.pointer (some ⟨p, 0, none⟩)) := (b3W.cell (p := ⟨w.heap.size, 0, none⟩) (by (try dsimp only); omega)).trans ((b13.cell (p := ⟨w.heap.size, 0, none⟩) sA).trans cA)
  have cR := hid (show ∀ j x, ((rsort (textsOf docs)).flatMap itemV)[j]? = some x → W.cell? ⟨gr, j, none⟩ = some x from fun j x h => (b3W.cell (p := ⟨gr, j, none⟩) (by (try dsimp only); omega)).trans ((b3.cell (p := ⟨gr, j, none⟩) hgrs).trans (hcr j x h)))
  have cS := hid (show ∀ j x, ((symsOf (textsOf docs)).map fun x : Nat => Value.int .i64 (x : Int))[j]? = some x → W.cell? ⟨gs, j, none⟩ = some x from fun j x h => (b3W.cell (p := ⟨gs, j, none⟩) hgss).trans (hcs j x h))
  have cG := hid (show ∀ j x, (docs.flatMap docV)[j]? = some x → W.cell? ⟨g, off + j, none⟩ = some x from fun j x h => (hbW.cell (p := ⟨g, off + j, none⟩) hg).trans (hc.out j x h))
  have lo := fun b h1 h2 => H.newer hbW (b := b) h1 h2
  have lP := lo w3.heap.size (by omega) (by omega)
  have D0 : Bd w W p w3.heap.size [w.heap.size, w3.heap.size + 1, gr, gs, g] S 0 0 0 0 W := by
    refine ⟨H.below hbW, Fr.of_below H hbW, fun b hb => ⟨?_, rfl⟩, ⟨cP0, cP1, cP2, cP3, fP, lP⟩, by omega, ?_⟩
    · simp only [List.mem_cons, List.mem_nil_iff, or_false] at hb
      rcases hb with rfl | rfl | rfl | rfl | rfl
      · exact lo _ (by omega) (by omega)
      · exact lo _ (by omega) (by omega)
      · exact lo _ (by omega) (by omega)
      · exact lo _ (by omega) (by omega)
      · exact ((Fr.of_below (X := []) H hbW).loc lg (by simp)).1
    · simp only [List.mem_cons, List.mem_nil_iff, or_false, not_or]; omega
  have hg3 : gs ≠ w3.heap.size := by omega
  have hg4 : gr ≠ w3.heap.size := by omega
  have hg5 : g ≠ w3.heap.size := by omega
  have hg6 : w.heap.size ≠ w3.heap.size := by omega
  clear hW hcr hcs b2 b3 b13 b3W hb1 cP0 cP1 cP2 cP3 fP lP hgr hgrs hgs hgss sA s1 s12 s23 hsz
  generalize w3.heap.size = P at *
  generalize hA0 : w.heap.size = A0 at *
  generalize hKK : P + 1 = K at *
  have hg7 : K ≠ P := by omega
  have hg3' := hg3.symm
  have hg4' := hg4.symm
  have hg5' := hg5.symm
  have hg6' := hg6.symm
  have hg7' := hg7.symm
  have hbW := hid hbW
  have lo := hid lo
  have D0 := hid D0
  have BS : ∃ bs, bs = [A0, K, gr, gs, g] := ⟨_, rfl⟩
  obtain ⟨bs, hbs⟩ := BS
  have iA : A0 ∈ bs := by rw [hbs]; simp
  have iK : K ∈ bs := by rw [hbs]; simp
  have iR : gr ∈ bs := by rw [hbs]; simp
  have iS : gs ∈ bs := by rw [hbs]; simp
  have iG : g ∈ bs := by rw [hbs]; simp
  rw [← hbs] at D0
  have hbs := hid hbs
  have iA := hid iA
  have iK := hid iK
  have iR := hid iR
  have iS := hid iS
  have iG := hid iG
  go_loopw [14, 40] (fun v14 c wr => ∃ (i : Nat) (S1 : St) (pa pb pc : Int), i ≤ m ∧ c = .int .i64 i ∧ v14 = .int .i64 ((spotsTo docs rate ((rsort (textsOf docs)).take i)).length : Nat) ∧ Hid (Bd w W p P bs S1 pa pb pc 0 wr) ∧ Hid (BSt S1 pa pb pc 0 ((symsOf (textsOf docs)).take i) ((marksOf docs rate).take i) (spotsTo docs rate ((rsort (textsOf docs)).take i)) [] ∧ S1.wait = [] ∧ S1.n = S.n)) (fun _ c _ => m - (intOf c).toNat)
  case atStart => exact ⟨0, S, 0, 0, 0, by omega, rfl, rfl, D0, hid ⟨B.out, hw, rfl⟩⟩
  case round =>
    obtain ⟨i, S1, pa, pb, pc, him, rfl, rfl, D, BB⟩ := hrel
    by_cases hil : i = m
    · subst hil
      obtain ⟨BB1, hw1, hn1⟩ := BB.out
      have hml1 : (marksOf docs rate).length = i := by unfold marksOf; rw [List.length_map]; exact hmm.out
      have hsl1 : (spotsOf docs rate).length ≤ i := by
        unfold spotsOf spotsTo
        rw [List.length_map]
        exact Nat.le_trans (List.length_filter_le _ _) (by rw [hmm.out]; omega)
      have BB1 : BSt S1 pa pb pc 0 (symsOf (textsOf docs)) (marksOf docs rate) (spotsOf docs rate) [] := by
        have := BB1
        rw [List.take_of_length_le (l := symsOf (textsOf docs)) (by rw [hsl.out]; omega), List.take_of_length_le (l := marksOf docs rate) (by omega), List.take_of_length_le (l := rsort (textsOf docs)) (by rw [hmm.out]; omega)] at this
        exact this
      have hu0 := BB1.used hw1
      rw [hsl.out, hml1, List.length_nil] at hu0
      have hpa : pa ≠ 0 := by
        intro q
        have V := BB1.va
        subst q
        rcases V with ⟨_, q⟩ | ⟨q, _⟩
        · have := hsl.out; rw [q] at this; simp at this; omega
        · have := (live.ne D.out.ar.2 q).1; omega
      have D1 := D.out
      have zK := D1.at' iK.out cK
      have D := hid D1
      have BB1 := hid BB1
      clear BB D1
      generalize (spotsTo docs rate ((rsort (textsOf docs)).take i)).length = nsp
      go_wp2
      go_loopw [126] (fun c wr2 => ∃ (j : Nat) (S2 : St) (pd : Int), j ≤ nd ∧ c = .int .i64 j ∧ Hid (Bd w W p P bs S2 pa pb pc pd wr2) ∧ Hid (BSt S2 pa pb pc pd (symsOf (textsOf docs)) (marksOf docs rate) (spotsOf docs rate) (tableOf (docs.take j)) ∧ S2.usedN ≤ 31 * i + 40 * j ∧ S2.n = S.n)) (fun c _ => nd - (intOf c).toNat)
      case atStart => exact ⟨0, S1, 0, by omega, rfl, D, hid ⟨BB1.out, by omega, hn1⟩⟩
      case round =>
        clear D BB1
        obtain ⟨j, S2, pd, hjn, rfl, D, BB⟩ := hrel
        by_cases hjl : j = nd
        · subst hjl
          obtain ⟨B2, hu2, hn2'⟩ := BB.out
          rw [List.take_of_length_le (by rw [hndl.out]; exact Nat.le_refl _)] at B2
          have D1 := D.out
          have zK := D1.at' iK.out cK
          have zA := D1.at' iA.out cA
          have c0 := D1.pat.c0
          have c1 := D1.pat.c1
          have c2 := D1.pat.c2
          have c3 := D1.pat.c3
          have HM := vMake_calls wr p S2 (hold4 pa pb pc pd) pa pb pc pd D1.ar B2.inv hpa (fun k k0 hk => B2.live (by have := kc_pos.1 hk; simp [rootNd] at this; omega) k0)
          have D := hid D1
          have B2 := hid B2
          clear D1 BB
          go_wp2_with fail
          refine HM.mono ?_; rintro o w3 ⟨S3, r, e, rfl, A3, F3, R3, G3⟩
          clear HM
          have ee : e = 0 := R3.room rfl (by omega)
          subst ee
          obtain ⟨G1, G2⟩ := G3 rfl
          have M := hid (B2.out.made R3 G1 G2)
          have hW3 := A3.2
          have D2 := D.out.call A3 F3
          have zA3 := D2.at' iA.out cA
          have HN := bNext_calls w3 p S3 0 r K A0 A3 zA3
          rw [drop_zero hW3] at HN
          have D2 := hid D2
          clear D B2 R3 G1 G2 G3 A3 F3 zA zK c0 c1 c2 c3
          go_wp2_with fail
          refine HN.mono ?_; rintro o w4 ⟨rfl, A4, F4⟩
          clear HN zA3
          have D3 := D2.out.call A4 F4
          have c0 := D3.pat.c0
          have c1 := D3.pat.c1
          have c2 := D3.pat.c2
          have c3 := D3.pat.c3
          have D3 := hid D3
          clear D2 F4
          go_wp2
          have lw4 := A4.lt
          generalize hW4 : World.alloc _ _ = W4
          have hb4 : Below w4.heap.size w4 W4 := by subst hW4; exact (by repeat (first | with_reducible exact Below.refl _ _ | with_reducible assumption | with_reducible refine bel_drewN ?_ | with_reducible refine bel_drew ?_ | with_reducible refine bel_alloc ?_ _ | with_reducible refine bel_set ?_ _ ?_ | with_reducible refine bel_trans ?_ (by with_reducible assumption) | ((try dsimp only); omega)))
          have hs4 : W4.heap.size = w4.heap.size + 1 := by subst hW4; simp
          have cq : ∀ k x, [pa, pb, pc, pd][k]? = some x → W4.cell? ⟨w4.heap.size, k, none⟩ = some (.int .i64 x) := by
            intro k x h
            subst hW4
            match k, h with
            | 0, h => simp at h; subst h; go_simp
            | 1, h => simp at h; subst h; go_simp
            | 2, h => simp at h; subst h; go_simp
            | 3, h => simp at h; subst h; go_simp
          have cq := hid cq
          have D4 := hid (D3.out.grew hb4)
          have E4 : Env p [w4.heap.size] W4 W4 := fun b hb => by
            simp only [List.mem_cons, List.mem_nil_iff, or_false] at hb
            subst hb
            exact ⟨A4.newer hb4 (Nat.le_refl _) (by omega), rfl⟩
          have E4 := hid E4
          clear hW4 hb4 hs4 c0 c1 c2 c3 D3 A4 lw4
          generalize w4.heap.size = G at *
          go_loopw [171] (fun c wr3 => ∃ k : Nat, k ≤ 4 ∧ c = .int .i64 k ∧ Hid (Bd w W p P bs (([pa, pb, pc, pd].take k).foldl St.drop S3) pa pb pc pd wr3) ∧ Hid (Env p [G] W4 wr3)) (fun c _ => 4 - (intOf c).toNat)
          case atStart => exact ⟨0, by omega, rfl, D4, E4⟩
          case round =>
            clear D4 E4
            obtain ⟨k, hk4, rfl, D, E⟩ := hrel
            by_cases hkl : k = 4
            · subst hkl
              obtain ⟨I5, V5, hn5, hu5⟩ := M.out
              have D1 := D.out
              simp only [List.take, List.foldl] at D1
              have zA := D1.at' iA.out cA
              obtain ⟨mm, S', hwk, I', V', hw', hn'⟩ := vr_work I5 (fun x => by simp only [more, noneHeld]; unfold big; split <;> omega) (by rw [more_self]; omega) V5 99999 (by omega) (by omega)
              have HWk := Work_calls _ p _ _ _ _ _ D1.ar hwk
              have D1 := hid D1
              have V' := hid V'
              have I' := hid I'
              clear hwk V5 I5 D
              go_wp2_with fail
              refine HWk.mono ?_; rintro o w5 ⟨rfl, A5, F5⟩
              clear HWk
              have D2 := D1.out.call A5 F5
              have zK := D2.at' iK.out cK
              have D2 := hid D2
              clear D1 A5 F5 zA
              go_wp2
              refine wp_region_can (fun w' => w'.cell? ⟨K, 0, none⟩ = some (.bool true)) [(0, false), (1, false), (2, false), (3, false)] (by kernel_rfl) (by kernel_rfl) (fun _ d _ _ _ h => by cases d <;> exact h) ?_ ?_
              · exact zK
              repeat ((with_reducible refine wpCan_isq ?_); first | (apply wpCan_read rfl (by rfl); (· intro w' hS; go_simp; with_reducible rfl); (· try simp only [Act.put, List.setIfInBounds_toArray, List.set_cons_zero, List.set_cons_succ]; with_reducible rfl)) | (apply wpCan_no rfl (by rfl); (· try simp only [Act.put, List.setIfInBounds_toArray, List.set_cons_zero, List.set_cons_succ]; with_reducible rfl)))
              refine wpCan_nil ?_
              go_wp2
              go_ret2
              exact ⟨r, S', rfl, D2.out.ar.drew, D2.out.fr.drew, I'.out, V'.out, hw', by omega⟩
            · have hlt : k < 4 := by omega
              have hlt' : (k : Int) < 4 := by omega
              obtain ⟨x, hx⟩ : ∃ x, [pa, pb, pc, pd][k]? = some x := ⟨[pa, pb, pc, pd][k]'(by simp; omega), List.getElem?_eq_getElem _⟩
              have D1 := D.out
              have zA := D1.at' iA.out cA
              have zG := (E.out.cell (b := G) (by simp) k).trans (cq.out k x hx)
              have efd : ([pa, pb, pc, pd].take (k + 1)).foldl St.drop S3 = (([pa, pb, pc, pd].take k).foldl St.drop S3).drop x := by
                rw [List.take_add_one, hx, List.foldl_append]; rfl
              have efd := hid efd
              have wk : IntKind.i64.wrap ((k : Int) + 1) = (k : Int) + 1 := by rw [show (k : Int) + 1 = ((k + 1 : Nat) : Int) by omega]; exact i64_nat (by omega)
              clear hx
              generalize ([pa, pb, pc, pd].take k).foldl St.drop S3 = S4 at D1 efd
              have hW4 := D1.ar.2
              have HD := Drop_calls wr p S4 x D1.ar
              have D1 := hid D1
              clear D
              by_cases hx0 : x = 0
              · subst hx0
                rw [drop_zero hW4] at efd
                clear HD
                go_wp2
                go_roundw
                case rel => exact ⟨k + 1, by omega, by simp, by rw [efd.out]; exact D1, E⟩
                case measure => simp [intOf]; omega
              · have q1 : (x != 0) = true := by simp [hx0]
                have q2 : (x == 0) = false := by simp [hx0]
                go_wp2_with fail
                refine HD.mono ?_; rintro o w5 ⟨rfl, A5, F5⟩
                clear HD
                have D2 := hid (D1.out.call A5 F5)
                have E2 := hid (E.out.fr0 F5)
                clear D1 E A5 F5 zA zG
                go_wp2
                go_roundw
                case rel => exact ⟨k + 1, by omega, by simp, by rw [efd.out]; exact D2, E2⟩
                case measure => simp [intOf]; omega
        · have hlt : j < nd := by omega
          have hlt' : (j : Int) < (nd : Nat) := by omega
          obtain ⟨x, hx⟩ : ∃ x, docs[j]? = some x := ⟨docs[j]'(by rw [hndl.out]; exact hlt), List.getElem?_eq_getElem _⟩
          obtain ⟨f3, f4⟩ := doc2 hx
          have hxs := hs.out x (List.mem_of_getElem? hx)
          have hxi := hids.out x (List.mem_of_getElem? hx)
          have y3 := cG.out _ _ f3
          have y4 := cG.out _ _ f4
          have hno : ∀ q ∈ tableOf (docs.take j), q.1 ≠ x.1 := by
            intro q hq e
            obtain ⟨q', hq', rfl⟩ := List.mem_map.1 hq
            have hd := hnd.out
            have e2 : docs = docs.take j ++ x :: docs.drop (j + 1) := by
              have := List.take_append_drop j docs
              rw [List.drop_eq_getElem_cons (by rw [hndl.out]; exact hlt)] at this
              rw [(List.getElem?_eq_some_iff.1 hx).2] at this
              exact this.symm
            rw [e2, List.map_append, List.map_cons] at hd
            have := (List.nodup_append.1 hd).2.2 q'.1 (List.mem_map.2 ⟨q', hq', rfl⟩) x.1 (List.mem_cons_self ..)
            exact this e
          have etb := hid (tableOf_take hx)
          have ltb := hid (show (tableOf (docs.take j)).length = j by unfold tableOf; rw [List.length_map, List.length_take, hndl.out]; omega)
          obtain ⟨B2, hu2, hn2'⟩ := BB.out
          generalize tableOf (docs.take j) = Y at B2 etb ltb hno
          have HT := fun w' (hb : Below wr.heap.size wr w') => tabAdd_calls w' p S2 (hold4 pa pb pc pd) pd Y x.1 x.2.size (D.out.grew hb).ar B2.inv (hold4_slack _ _ _ _ _ (by omega)) B2.vd (by rw [ltb.out]; omega) hxi.1 hxi.2 hxs hno
          have D1 := D.out
          have zA := D1.at' iA.out cA
          have z3 := D1.at' iG.out y3
          have z4 : wr.cell? ⟨g, off + j * 2 + 1, none⟩ = some (.string x.2) := by rw [Nat.add_assoc]; exact D1.at' iG.out y4
          have c3 := D1.pat.c3
          have lA := (D1.env A0 iA.out).1.1
          have lP := D1.pat.loc.1
          have wj : IntKind.i64.wrap ((j : Int) + 1) = (j : Int) + 1 := by rw [show (j : Int) + 1 = ((j + 1 : Nat) : Int) by omega]; exact i64_nat (by omega)
          have D := hid D1
          have B2 := hid B2
          clear D1 BB hno
          go_wp2_with fail
          refine (HT _ (by repeat (first | with_reducible exact Below.refl _ _ | with_reducible assumption | with_reducible refine bel_drewN ?_ | with_reducible refine bel_drew ?_ | with_reducible refine bel_alloc ?_ _ | with_reducible refine bel_set ?_ _ ?_ | with_reducible refine bel_trans ?_ (by with_reducible assumption) | ((try dsimp only); omega)))).mono ?_; rintro o w3 ⟨T3, g3, e, rfl, A3, F3, R3, G3⟩
          have hf3 := R3.made
          have hnn3 := R3.grow.n
          have ee : e = 0 := R3.room rfl (by rw [ltb.out]; omega)
          subst ee
          rw [ltb.out] at hf3
          have BS3 := B2.out.stepD R3 (G3 rfl)
          rw [← etb.out] at BS3
          have BS3 := hid BS3
          have D8 := (D.out.grew (by repeat (first | with_reducible exact Below.refl _ _ | with_reducible assumption | with_reducible refine bel_drewN ?_ | with_reducible refine bel_drew ?_ | with_reducible refine bel_alloc ?_ _ | with_reducible refine bel_set ?_ _ ?_ | with_reducible refine bel_trans ?_ (by with_reducible assumption) | ((try dsimp only); omega)))).call A3 F3
          have zA3 := D8.at' iA.out cA
          have zK3 := D8.at' iK.out cK
          have c3 := D8.pat.c3
          have HN3 := bNext_calls w3 p T3 pd g3 K A0 A3 zA3
          have D8 := hid D8
          clear D B2 R3 G3 A3 F3 zA z3 z4 HT
          go_wp2_with fail
          refine HN3.mono ?_; rintro o w7 ⟨rfl, A4, F4⟩
          clear HN3 zA3 zK3
          have D9 := D8.out.call A4 F4
          clear D8 A4 F4
          have D10 := hid (D9.set3 g3)
          have c3 := D9.pat.c3
          have fz := D9.pat.fz 3
          have hU3 : (T3.drop pd).usedN ≤ 31 * i + 40 * (j + 1) := by rw [BSt.usedDrop]; omega
          have hNN3 : (T3.drop pd).n = S.n := by rw [drop_n]; omega
          clear D9
          go_wp2
          go_roundw
          case rel => exact ⟨j + 1, T3.drop pd, g3, by omega, by simp, D10, hid ⟨BS3.out, hU3, hNN3⟩⟩
          case measure => simp [intOf]; omega
    · have hlt : i < m := by omega
      have hlt' : (i : Int) < (m : Nat) := by omega
      obtain ⟨⟨d, a⟩, hri⟩ : ∃ r, (rsort (textsOf docs))[i]? = some r := ⟨(rsort (textsOf docs))[i]'(by rw [hmm.out]; exact hlt), List.getElem?_eq_getElem _⟩
      obtain ⟨f1, f2⟩ := flat2 hri
      obtain ⟨ok1, ok2⟩ := rsort_ok (List.mem_of_getElem? hri)
      simp only at ok1 ok2
      have hdi : d < nd := by have := htl.out; omega
      obtain ⟨x, hx⟩ : ∃ x, docs[d]? = some x := ⟨docs[d]'(by rw [hndl.out]; exact hdi), List.getElem?_eq_getElem _⟩
      obtain ⟨f3, _⟩ := doc2 hx
      obtain ⟨s, hsy⟩ : ∃ s, (symsOf (textsOf docs))[i]? = some s := ⟨(symsOf (textsOf docs))[i]'(by rw [hsl.out]; exact hlt), List.getElem?_eq_getElem _⟩
      have f4 : ((symsOf (textsOf docs)).map fun x : Nat => Value.int .i64 (x : Int))[i]? = some (.int .i64 (s : Int)) := by rw [List.getElem?_map, hsy]; rfl
      have hs257 := symsOf_lt (List.mem_of_getElem? hsy)
      have ht1 : (textsOf docs)[d]? = some x.2 := by simp [textsOf, hx]
      have hgt : (textsOf docs).getD d ByteArray.empty = x.2 := by rw [List.getD_eq_getElem?_getD, ht1]; rfl
      rw [hgt] at ok2
      have hxs := hs.out x (List.mem_of_getElem? hx)
      have hxi := hids.out x (List.mem_of_getElem? hx)
      have emk : (marksOf docs rate)[i]? = some (a % rate == 0) := by unfold marksOf; rw [List.getElem?_map, hri]; rfl
      have e0 := hid (ins_take hsy)
      have e1 := hid (ins_take emk)
      have e2 := hid (show spotsTo docs rate ((rsort (textsOf docs)).take (i + 1)) = spotsTo docs rate ((rsort (textsOf docs)).take i) ++ (if (a % rate == 0) = true then [(x.1, a)] else []) by
        unfold spotsTo
        rw [List.take_add_one, hri, List.filter_append, List.map_append]
        congr 1
        simp only [Option.toList_some, List.filter_cons, List.filter_nil]
        split <;> simp [spotOf, hx])
      have l2 := hid (show (spotsTo docs rate ((rsort (textsOf docs)).take i)).length ≤ i by
        unfold spotsTo
        rw [List.length_map]
        exact Nat.le_trans (List.length_filter_le _ _) (by rw [List.length_take]; omega))
      have l0 := hid (show ((symsOf (textsOf docs)).take i).length = i by rw [List.length_take, hsl.out]; omega)
      have l1 := hid (show ((marksOf docs rate).take i).length = i by
        have : (marksOf docs rate).length = m := by unfold marksOf; rw [List.length_map]; exact hmm.out
        rw [List.length_take, this]; omega)
      have y1 := cR.out _ _ f1
      have y2 := cR.out _ _ f2
      have y3 := cG.out _ _ f3
      have y4 := cS.out _ _ f4
      have hmb : ((a : Int) % (rate : Int) == 0) = (a % rate == 0) := by
        have em : (a : Int) % (rate : Int) = ((a % rate : Nat) : Int) := by first | rfl | exact (Int.natCast_emod a rate).symm | simp
        rw [em]
        by_cases q : a % rate = 0
        · simp [q]
        · have : ((a % rate : Nat) : Int) ≠ 0 := by omega
          rw [beq_eq_false_iff_ne.2 this, beq_eq_false_iff_ne.2 q]
      have hrz : ((rate : Int) == 0) = false := by simp; omega
      have hrz2 : ¬ (rate : Int) = 0 := by omega
      have wi : IntKind.i64.wrap ((i : Int) + 1) = (i : Int) + 1 := by rw [show (i : Int) + 1 = ((i + 1 : Nat) : Int) by omega]; exact i64_nat (by omega)
      clear f1 f2 f3 f4 hri emk hgt ht1 hsy
      generalize (a % rate == 0) = mk at e1 e2 hmb
      obtain ⟨Bi, hwi, hni⟩ := BB.out
      have hu0 := Bi.used hwi
      generalize spotsTo docs rate ((rsort (textsOf docs)).take i) = Y at Bi hu0 e2 l2
      generalize hX0 : (symsOf (textsOf docs)).take i = X0 at Bi hu0 e0 l0
      generalize hX1 : (marksOf docs rate).take i = X1 at Bi hu0 e1 l1
      clear BB hX0 hX1
      rw [l0.out, l1.out] at hu0
      simp only [List.length_nil, Nat.mul_zero, Nat.add_zero] at hu0
      have l2' := l2.out
      have D1 := D.out
      have HW1 := wInsert_calls wr.drew p S1 (hold4 pa pb pc 0) pa X0 i s D1.drew.ar Bi.inv (hold4_slack _ _ _ _ _ (by omega)) Bi.va hs257 (by rw [l0.out]; omega) (by rw [l0.out]; exact Nat.le_refl _)
      have zA := D1.at' iA.out cA
      have zK := D1.at' iK.out cK
      have z4 := D1.at' iS.out y4
      have c0 := D1.pat.c0
      clear D1
      go_wp2
      refine wp_region_can (fun w' => w'.cell? ⟨A0, 0, none⟩ = some (.pointer (some ⟨p, 0, none⟩)) ∧ w'.cell? ⟨P, 0, none⟩ = some (.int .i64 pa) ∧ w'.cell? ⟨gs, i, none⟩ = some (.int .i64 s)) [(0, false), (1, false), (2, false), (3, false), (4, false), (5, false), (6, false), (7, false), (8, true), (9, false), (10, false), (11, false), (12, false), (13, false)] (by kernel_rfl) (by kernel_rfl) (fun _ d _ _ _ h => by cases d <;> exact h) ?_ ?_
      · exact ⟨zA, c0, z4⟩
      repeat ((with_reducible refine wpCan_isq ?_); first | (apply wpCan_read rfl (by rfl); (· intro w' hS; go_simp; with_reducible rfl); (· try simp only [Act.put, List.setIfInBounds_toArray, List.set_cons_zero, List.set_cons_succ]; with_reducible rfl)) | (apply wpCan_no rfl (by rfl); (· try simp only [Act.put, List.setIfInBounds_toArray, List.set_cons_zero, List.set_cons_succ]; with_reducible rfl)))
      (with_reducible refine wpCan_isl ?_); apply wpCan_call (HW1) rfl (by rfl); (· go_simp); rintro o w1 ⟨T1, g1, e, rfl, A1, F1, R1, G1⟩; apply wpCan_told; (· exact ⟨(D.out.drew.call A1 F1).at' iA.out cA, (D.out.drew.call A1 F1).pat.c0, (D.out.drew.call A1 F1).at' iS.out y4⟩); (· try simp only [Act.put, List.setIfInBounds_toArray, List.set_cons_zero, List.set_cons_succ]; with_reducible rfl)
      repeat ((with_reducible refine wpCan_isq ?_); first | (apply wpCan_read rfl (by rfl); (· intro w' hS; go_simp; with_reducible rfl); (· try simp only [Act.put, List.setIfInBounds_toArray, List.set_cons_zero, List.set_cons_succ]; with_reducible rfl)) | (apply wpCan_no rfl (by rfl); (· try simp only [Act.put, List.setIfInBounds_toArray, List.set_cons_zero, List.set_cons_succ]; with_reducible rfl)))
      refine wpCan_nil ?_
      have hf1 := R1.made
      have hn1 := R1.grow.n
      rw [l0.out] at hf1 R1
      have ee : e = 0 := R1.room rfl (by omega)
      subst ee
      have BS1 := Bi.stepA R1 (G1 rfl)
      have D2 := D.out.drew.call A1 F1
      rw [e0.out] at BS1
      have BS1 := hid BS1
      have zK1 := D2.at' iK.out cK
      have zA1 := D2.at' iA.out cA
      have cc0 := D2.pat.c0
      have HN1 := bNext_calls w1 p T1 pa g1 K A0 A1 zA1
      have D2 := hid D2
      clear zA zK z4 c0 HW1 G1 R1 D Bi A1 F1
      go_wp2_with fail
      refine HN1.mono ?_; rintro o w2 ⟨rfl, A2, F2⟩
      clear HN1 zK1 zA1 cc0
      have D3 := D2.out.call A2 F2
      clear D2 A2 F2
      have D4 := D3.set0 g1
      have zA2 := D3.at' iA.out cA
      have zK2 := D3.at' iK.out cK
      have z1 := D3.at' iR.out y1
      have z2 := D3.at' iR.out y2
      have c0 := D3.pat.c0
      have c1 := D3.pat.c1
      have fz := D3.pat.fz 0
      have HB2 := bInsert_calls _ p (T1.drop pa) (hold4 g1 pb pc 0) pb X1 i mk D4.ar BS1.out.inv (hold4_slack _ _ _ _ _ (by omega)) BS1.out.vb (by rw [l1.out]; exact Nat.le_refl _) (by rw [l1.out]; omega)
      have D4 := hid D4
      clear D3
      go_wp2_with fail
      refine HB2.mono ?_; rintro o w3 ⟨T2, g2, e, rfl, A3, F3, R2, G2⟩
      clear HB2
      have hf2 := R2.made
      have hnn2 := R2.grow.n
      rw [l1.out, BSt.usedDrop] at hf2
      rw [drop_n] at hnn2
      have ee : e = 0 := R2.room rfl (by rw [l1.out, BSt.usedDrop, drop_n]; omega)
      subst ee
      have BS2 := BS1.out.stepB R2 (G2 rfl)
      rw [e1.out] at BS2
      have BS2 := hid BS2
      have D5 := D4.out.call A3 F3
      have zA3 := D5.at' iA.out cA
      have zK3 := D5.at' iK.out cK
      have c0 := D5.pat.c0
      have c1 := D5.pat.c1
      have HN2 := bNext_calls w3 p T2 pb g2 K A0 A3 zA3
      have D5 := hid D5
      clear D4 BS1 R2 G2 A3 F3 zA2 zK2 z1 z2 fz
      go_wp2_with fail
      refine HN2.mono ?_; rintro o w4 ⟨rfl, A4, F4⟩
      clear HN2 zA3 zK3
      have D6 := D5.out.call A4 F4
      clear D5 A4 F4
      have D7 := D6.set1 g2
      have zA4 := D6.at' iA.out cA
      have zK4 := D6.at' iK.out cK
      have z1 := D6.at' iR.out y1
      have z2 := D6.at' iR.out y2
      have z3 := D6.at' iG.out y3
      have c1 := D6.pat.c1
      have c2 := D6.pat.c2
      have fz := D6.pat.fz 1
      have hU2 : (T2.drop pb).usedN ≤ 31 * i + 9 * (i + 10) + (i + 9) := by rw [BSt.usedDrop]; omega
      have hNN : (T2.drop pb).n = S.n := by rw [drop_n]; omega
      clear D6
      cases mk with
      | false =>
        have e3 := e2.out
        simp only [Bool.false_eq_true, if_false, List.append_nil] at e3
        obtain ⟨mm, S', hwk, BS', hw', hn'⟩ := BS2.out.work 99999 (by omega) (by omega)
        have HWk := Work_calls _ p _ _ _ _ _ D7.ar hwk
        have D7 := hid D7
        clear hwk BS2
        go_wp2_with fail
        refine HWk.mono ?_; rintro o w5 ⟨rfl, A5, F5⟩
        go_wp2
        go_roundw
        case rel => exact ⟨i + 1, S', g1, g2, pc, by omega, by simp, by rw [e3], hid (D7.out.call A5 F5), hid ⟨by rw [e3]; exact BS', hw', by omega⟩⟩
        case measure => simp [intOf]; omega
      | true =>
        have e3 := e2.out
        simp only [if_true] at e3
        have HI := lInsert_calls _ p (T2.drop pb) (hold4 g1 g2 pc 0) pc Y Y.length x.1 a D7.drew.ar BS2.out.inv (hold4_slack _ _ _ _ _ (by omega)) BS2.out.vc (Nat.le_refl _) (by omega) hxi.2 (by omega)
        have D7 := hid D7
        go_wp2
        generalize hw5 : w4.setCell _ _ = w5 at D7 HI ⊢
        clear hw5 zA4 zK4 z1 z2 z3 c0 c1 c2 fz
        have z1 := D7.out.at' iR.out y1
        have z2 := D7.out.at' iR.out y2
        have z3 := D7.out.at' iG.out y3
        have zA := D7.out.at' iA.out cA
        have c2 := D7.out.pat.c2
        have wY : IntKind.i64.wrap ((Y.length : Int) + 1) = (Y.length : Int) + 1 := by rw [show (Y.length : Int) + 1 = ((Y.length + 1 : Nat) : Int) by omega]; exact i64_nat (by omega)
        refine wp_region_can (fun w' => w'.cell? ⟨A0, 0, none⟩ = some (.pointer (some ⟨p, 0, none⟩)) ∧ w'.cell? ⟨P, 2, none⟩ = some (.int .i64 pc) ∧ w'.cell? ⟨gr, i * 2, none⟩ = some (.int .i64 d) ∧ w'.cell? ⟨gr, i * 2 + 1, none⟩ = some (.int .i64 a) ∧ w'.cell? ⟨g, off + d * 2, none⟩ = some (.int .i64 x.1)) [(0, false), (1, false), (2, false), (3, false), (4, false), (5, false), (6, false), (7, false), (8, false), (9, false), (10, false), (11, false), (12, false), (13, false), (14, false), (15, false), (16, false), (17, false), (18, false), (19, true), (20, false), (21, false), (22, false), (23, false), (24, false)] (by kernel_rfl) (by kernel_rfl) (fun _ d _ _ _ h => by cases d <;> exact h) ?_ ?_
        · exact ⟨zA, c2, z1, z2, z3⟩
        repeat ((with_reducible refine wpCan_isq ?_); first | (apply wpCan_read rfl (by rfl); (· intro w' hS; go_simp; with_reducible rfl); (· try simp only [Act.put, List.setIfInBounds_toArray, List.set_cons_zero, List.set_cons_succ]; with_reducible rfl)) | (apply wpCan_no rfl (by rfl); (· try simp only [Act.put, List.setIfInBounds_toArray, List.set_cons_zero, List.set_cons_succ]; with_reducible rfl)))
        (with_reducible refine wpCan_isl ?_); apply wpCan_call (HI) rfl (by rfl); (· go_simp); rintro o w6 ⟨T3, g3, e, rfl, A3, F3, R3, G3⟩; apply wpCan_told; (· exact (fun V => ⟨V.at' iA.out cA, V.pat.c2, V.at' iR.out y1, V.at' iR.out y2, V.at' iG.out y3⟩) (D7.out.drew.call A3 F3)); (· try simp only [Act.put, List.setIfInBounds_toArray, List.set_cons_zero, List.set_cons_succ]; with_reducible rfl)
        repeat ((with_reducible refine wpCan_isq ?_); first | (apply wpCan_read rfl (by rfl); (· intro w' hS; go_simp; with_reducible rfl); (· try simp only [Act.put, List.setIfInBounds_toArray, List.set_cons_zero, List.set_cons_succ]; with_reducible rfl)) | (apply wpCan_no rfl (by rfl); (· try simp only [Act.put, List.setIfInBounds_toArray, List.set_cons_zero, List.set_cons_succ]; with_reducible rfl)))
        refine wpCan_nil ?_
        have hf3 := R3.made
        have hnn3 := R3.grow.n
        have ee : e = 0 := R3.room rfl (by omega)
        subst ee
        have BS3 := BS2.out.stepC R3 (G3 rfl)
        rw [ins_end, ← e3] at BS3
        have BS3 := hid BS3
        have D8 := D7.out.drew.call A3 F3
        have zA3 := D8.at' iA.out cA
        have zK3 := D8.at' iK.out cK
        have c2 := D8.pat.c2
        have HN3 := bNext_calls w6 p T3 pc g3 K A0 A3 zA3
        have D8 := hid D8
        clear D7 BS2 R3 G3 A3 F3 zA z1 z2 z3 HI
        go_wp2_with fail
        refine HN3.mono ?_; rintro o w7 ⟨rfl, A4, F4⟩
        clear HN3 zA3 zK3
        have D9 := D8.out.call A4 F4
        clear D8 A4 F4
        have D10 := D9.set2 g3
        have zA4 := D9.at' iA.out cA
        have zK4 := D9.at' iK.out cK
        have c2 := D9.pat.c2
        have fz := D9.pat.fz 2
        have hU3 : (T3.drop pc).usedN < 99999 := by rw [BSt.usedDrop]; omega
        have hNN3 : (T3.drop pc).n = S.n := by rw [drop_n]; omega
        clear D9
        obtain ⟨mm, S', hwk, BS', hw', hn'⟩ := BS3.out.work 99999 hU3 (by omega)
        have HWk := Work_calls _ p _ _ _ _ _ D10.ar hwk
        have D10 := hid D10
        clear hwk BS3
        go_wp2_with fail
        refine HWk.mono ?_; rintro o w8 ⟨rfl, A5, F5⟩
        go_wp2
        go_roundw
        case rel => exact ⟨i + 1, S', g1, g2, g3, by omega, by simp, by rw [e3]; simp, hid (D10.out.call A5 F5), hid ⟨BS', hw', by omega⟩⟩
        case measure => simp [intOf]; omega
end Go.Proofs.YtngfalbabgpnnaaGreat

namespace Go.Proofs.YtngfalbabgpnnaaGreat
open Go.RowKit Go.Maps St

theorem lawInt : Keyed Tryz.prog 3 := int_keyed Tryz.underlying3
theorem zeroInt (w : World) : (zeroValue 3).run Tryz.prog w = .ok (.int .i64 0) w := by kernel_rfl

/-- Block b is a map that holds how often c says. -/
def MapN (w : World) (b n : Nat) (c : Int → Nat) : Prop :=
  ∃ D : DataW Unit, w.ownsMap Tryz.prog 3 (plainElem Tryz.prog 3) b n D ∧ ∀ k : Int, D.atKey (.int .i64 k) (.lit (.int .i64 0)) = .lit (.int .i64 (c k))
theorem MapN.put {w w' : World} {b n m : Nat} {c : Int → Nat} {D : DataW Unit} {k : Int} (o : w.ownsMap Tryz.prog 3 (plainElem Tryz.prog 3) b n D) (hc : ∀ k : Int, D.atKey (.int .i64 k) (.lit (.int .i64 0)) = .lit (.int .i64 (c k)))
    (o' : w'.ownsMap Tryz.prog 3 (plainElem Tryz.prog 3) b m (D.put (.int .i64 k) (.lit (.int .i64 ((c k : Int) + 1))))) : MapN w' b m (more k c) := by
  refine ⟨_, o', fun k' => ?_⟩
  by_cases e : k' = k
  · subst e
    rw [atKey_put_same (k := .int .i64 k') o.isMap (by simp [WideAt.IsKeyLit]), more_self]; simp
  · rw [atKey_put_other (by simp [e]), hc k']
    simp [more, e]
theorem MapN.below {w w' : World} {b n : Nat} {c : Int → Nat} (M : MapN w b n c) (h : Below w.heap.size w w') : MapN w' b n c := by
  obtain ⟨D, o, hc⟩ := M
  exact ⟨D, o.kept (grown_below h none) (by simp), hc⟩
theorem MapN.congr {w : World} {b n m : Nat} {c d : Int → Nat} (M : MapN w b n c) (h : n ≤ m) (e : ∀ k, c k = d k) : MapN w b m d := by
  obtain ⟨D, o, hc⟩ := M
  exact ⟨D, o.mono h, fun k => by rw [hc, e]⟩
theorem below_map {w0 w w' : World} {b : Nat} (hb : Below w0.heap.size w0 w) (g : w.grownBy w' (some b)) (h : w0.heap.size ≤ b) : Below w0.heap.size w0 w' :=
  ⟨g.os.trans hb.os, g.tape.trans hb.tape, g.output.trans hb.output, Nat.le_trans hb.size g.size, fun k hk => (g.block k (Nat.lt_of_lt_of_le hk hb.size) (by simp; omega)).trans (hb.block k hk)⟩

/-- How often k is a kid, up to node i. -/
def kidsTo (S : St) (i : Nat) (k : Int) : Nat := sumTo (fun i => if S.used ((i : Int) + 1) then kc (S.node ((i : Int) + 1)) k else 0) i
theorem kidsTo_le (S : St) (i : Nat) (k : Int) : kidsTo S i k ≤ 4 * i := by
  unfold kidsTo
  refine Nat.le_trans (sumTo_le (h := fun _ => 4) fun i _ => ?_) (by rw [sumTo_const]; omega)
  split
  · exact kc_le _ _
  · omega

def kcTo (x : Nd) (j : Nat) (k : Int) : Nat := (if 0 < j ∧ x.k0 = k then 1 else 0) + (if 1 < j ∧ x.k1 = k then 1 else 0) + (if 2 < j ∧ x.k2 = k then 1 else 0) + (if 3 < j ∧ x.k3 = k then 1 else 0)
theorem kcTo_le (x : Nd) (j : Nat) (k : Int) : kcTo x j k ≤ 4 := by unfold kcTo; repeat' split <;> try omega
theorem kcTo_four (x : Nd) (k : Int) : kcTo x 4 k = kc x k := by simp [kcTo, kc]
theorem kcTo_s0 (x : Nd) (k : Int) : kcTo x 1 k = kcTo x 0 k + if k = x.k0 then 1 else 0 := by simp [kcTo, eq_comm]
theorem kcTo_s1 (x : Nd) (k : Int) : kcTo x 2 k = kcTo x 1 k + if k = x.k1 then 1 else 0 := by simp [kcTo, eq_comm]
theorem kcTo_s2 (x : Nd) (k : Int) : kcTo x 3 k = kcTo x 2 k + if k = x.k2 then 1 else 0 := by simp [kcTo, eq_comm]
theorem kcTo_s3 (x : Nd) (k : Int) : kcTo x 4 k = kcTo x 3 k + if k = x.k3 then 1 else 0 := by simp [kcTo, eq_comm]
/-- How often x stands among the first k, other than 0. -/
def heldTo (hs : List Int) (k : Nat) (x : Int) : Nat := if x = 0 then 0 else (hs.take k).count x
theorem heldTo_succ {hs : List Int} {k : Nat} {x : Int} (h : hs[k]? = some x) (y : Int) : heldTo hs (k + 1) y = heldTo hs k y + if y = 0 then 0 else if y = x then 1 else 0 := by
  unfold heldTo
  split
  · rfl
  · rw [List.take_add_one, h, List.count_append]
    by_cases e : y = x
    · subst e; simp
    · simp [e, List.count_singleton, Ne.symm e]
theorem wf_small {x : Int} (h : -1 ≤ x ∧ x ≤ 6000) : (Lit.int .i64 x).wf = true := Go.WalkArith.wf_i64 (by omega)

set_option maxHeartbeats 8000000 in
set_option maxRecDepth 100000 in
theorem Counted_calls (w : World) (p : Nat) (S : St) (f : Int → Nat) (v : Value) (hs : List Int) (H : Ar w p S) (I : S.Inv f) (hf : ∀ x, x ≠ 0 → f x = hs.count x) (R : RowV w v 1 hs.length (hs.map fun x => .int .i64 x)) (hl : hs.length ≤ 1000) (h0 : hs ≠ []) :
    Calls Tryz.prog 14 #[.pointer (some ⟨p, 0, none⟩), v] w fun o w' => o = .returned (.bool true) ∧ Below w.heap.size w w' := by
  have hmm := @run_makeMap Tryz.prog
  have hn1 := H.2.npos
  have hn2 := H.2.nle
  have hlp : 0 < hs.length := List.length_pos_iff.2 h0
  obtain ⟨g, off, cap, rfl, hg, hc⟩ := R.some (by omega)
  clear R
  generalize hnn : S.n = n at *
  have hnn := hid hnn
  have hc := hid hc
  have I := hid I
  have hf := hid hf
  generalize hll : hs.length = l at *
  have hll := hid hll
  have h0 := hid h0
  go_enter Tryz.func14, Tryz.ntmps14
  go_wp2
  generalize hB : w.heap.size = B at *
  have hB := hid hB
  go_loopw [6] (fun c wr => ∃ i : Nat, i ≤ n ∧ c = .int .i64 ((i : Int) + 1) ∧ Hid (MapN wr B (4 * i) (kidsTo S i)) ∧ Below w.heap.size w wr) (fun c _ => n + 1 - (intOf c).toNat)
  case atStart =>
    refine ⟨0, by omega, rfl, hid ⟨.map [], by rw [← hB.out]; exact World.ownsMap_made _ _ _ _, fun k => rfl⟩, (by repeat (first | with_reducible exact Below.refl _ _ | with_reducible assumption | with_reducible refine bel_drewN ?_ | with_reducible refine bel_drew ?_ | with_reducible refine bel_alloc ?_ _ | with_reducible refine bel_set ?_ _ ?_ | with_reducible refine bel_trans ?_ (by with_reducible assumption) | ((try dsimp only); omega)))⟩
  case round =>
    obtain ⟨i, hin, rfl, M, hb⟩ := hrel
    have hbs := hb.size
    have HS := Size_calls wr p S (H.below hb)
    rw [hnn.out] at HS
    by_cases hil : i = n
    · subst hil
      have hlt : ¬ ((i : Int) + 1 ≤ (i : Nat)) := by omega
      go_wp2_with fail
      refine HS.mono ?_; rintro o w1 ⟨rfl, rfl⟩
      clear HS
      go_wp2
      go_loopw [41] (fun c wr2 => ∃ k : Nat, k ≤ l ∧ c = .int .i64 k ∧ Hid (MapN wr2 B (4 * i + k) (fun x => kidsTo S i x + heldTo hs k x)) ∧ Below w.heap.size w wr2) (fun c _ => l - (intOf c).toNat)
      case atStart => exact ⟨0, by omega, rfl, hid (M.out.congr (by omega) fun k => by simp [heldTo]), hb⟩
      case round =>
        clear M hb hbs
        obtain ⟨k, hkl, rfl, M, hb⟩ := hrel
        by_cases hkk : k = l
        · subst hkk
          have hcc := hid (show ∀ x : Int, x ≠ 0 → kidsTo S i x + heldTo hs k x = S.refs x + f x from fun x hx => by
            rw [hf.out x hx]
            unfold heldTo kidsTo St.refs
            rw [if_neg hx, List.take_of_length_le (by rw [hll.out]; exact Nat.le_refl _), hnn.out])
          go_wp2
          go_loopw [13] (fun c wr3 => ∃ j : Nat, j ≤ i ∧ c = .int .i64 ((j : Int) + 1) ∧ Hid (MapN wr3 B (4 * i + k) (fun x => kidsTo S i x + heldTo hs k x)) ∧ Below w.heap.size w wr3) (fun c _ => i + 1 - (intOf c).toNat)
          case atStart => exact ⟨0, by omega, rfl, M, hb⟩
          case round =>
            clear M hb
            obtain ⟨j, hji, rfl, M, hb⟩ := hrel
            have HS := Size_calls wr p S (H.below hb)
            rw [hnn.out] at HS
            by_cases hjl : j = i
            · subst hjl
              go_wp2_with fail
              refine HS.mono ?_; rintro o w1 ⟨rfl, rfl⟩
              go_wp2
              go_ret
              exact ⟨rfl, hb⟩
            · have hlt1 : j < i := by omega
              have hlt' : (j : Int) + 1 ≤ (i : Nat) := by omega
              have HC := Count_calls wr p S ((j : Int) + 1) (H.below hb)
              have wj : IntKind.i64.wrap ((j : Int) + 1 + 1) = (j : Int) + 1 + 1 := by rw [show (j : Int) + 1 + 1 = ((j + 2 : Nat) : Int) by omega]; exact i64_nat (by omega)
              have hq : 0 < S.cnt ((j : Int) + 1) → S.cnt ((j : Int) + 1) = ((kidsTo S i ((j : Int) + 1) + heldTo hs k ((j : Int) + 1) : Nat) : Int) := fun hp => by
                rw [hcc.out _ (by omega)]
                refine I.out.cnt _ (by omega) ?_
                cases hu : S.used ((j : Int) + 1) with
                | true => rfl
                | false => rw [(H.2.free _ hu).2] at hp; omega
              obtain ⟨D, hown, hcd0⟩ := M.out
              obtain ⟨c, hrun, hat, hwc⟩ := hown.lookup_int lawInt Tryz.underlying88 Tryz.underlying3 (zeroInt _) (keyOf_int_mk Tryz.underlying3 (wf_small (x := (j : Int) + 1) (by omega)))
              rw [hcd0] at hat
              simp only [DataW.lit.injEq, Lit.int.injEq, true_and] at hat
              rw [hat] at hq
              clear hwc hat hcd0 hown
              generalize S.cnt ((j : Int) + 1) = q at *
              by_cases hp : 0 < q
              · have := hq hp
                subst this
                have q1 : ¬ q ≤ 0 := by omega
                clear hq
                go_wp2_with fail
                refine HS.mono ?_; rintro o w1 ⟨rfl, rfl⟩
                go_wp2_with fail
                refine HC.mono ?_; rintro o w2 ⟨rfl, rfl⟩
                go_wp2
                go_roundw
                case rel => exact ⟨j + 1, by omega, by simp, M, hb⟩
                case measure => simp [intOf]; omega
              · have q1 : q ≤ 0 := by omega
                clear hq
                go_wp2_with fail
                refine HS.mono ?_; rintro o w1 ⟨rfl, rfl⟩
                go_wp2_with fail
                refine HC.mono ?_; rintro o w2 ⟨rfl, rfl⟩
                go_wp2
                go_roundw
                case rel => exact ⟨j + 1, by omega, by simp, M, hb⟩
                case measure => simp [intOf]; omega
        · have hlt1 : k < l := by omega
          have hlt' : (k : Int) < (l : Nat) := by omega
          obtain ⟨x, hx⟩ : ∃ x, hs[k]? = some x := ⟨hs[k]'(by rw [hll.out]; exact hlt1), List.getElem?_eq_getElem _⟩
          have z := ((bcell hb).1 g (off + k) (by have := hB.out; omega)).trans (hc.out k _ (by rw [List.getElem?_map, hx]; rfl))
          have wk : IntKind.i64.wrap ((k : Int) + 1) = (k : Int) + 1 := by rw [show (k : Int) + 1 = ((k + 1 : Nat) : Int) by omega]; exact i64_nat (by omega)
          have het := hid (heldTo_succ hx)
          by_cases hx0 : x = 0
          · subst hx0
            clear hx
            go_wp2
            go_roundw
            case rel => exact ⟨k + 1, by omega, by simp, hid (M.out.congr (by omega) fun y => by rw [het.out]; split <;> simp_all), hb⟩
            case measure => simp [intOf]; omega
          · have q1 : (x != 0) = true := by simp [hx0]
            have q2 : (x == 0) = false := by simp [hx0]
            have hfx : 0 < f x := by
              rw [hf.out x hx0]
              exact List.count_pos_iff.2 (List.mem_of_getElem? hx)
            have hux := I.out.held x hx0 hfx
            have hcx := I.out.cnt x hx0 hux
            have hc1 : ¬ S.cnt x < 1 := by omega
            have hxr : (Lit.int .i64 x).wf = true := by
              obtain ⟨q, h1, h2⟩ := used_range H.2 hux
              have := hnn.out
              exact wf_small (by omega)
            have hle := hid (show heldTo hs k x ≤ 1000 by
              unfold heldTo
              split
              · omega
              · exact Nat.le_trans List.count_le_length (by rw [List.length_take]; omega))
            have hle2 := hid (kidsTo_le S i x)
            have hcg := hid (show ∀ w', MapN w' B (4 * i + k + 1) (more x (fun y => kidsTo S i y + heldTo hs k y)) → MapN w' B (4 * i + (k + 1)) (fun y => kidsTo S i y + heldTo hs (k + 1) y) from fun w' M => M.congr (by omega) fun y => by
              rw [het.out]; simp only [more]; split <;> split <;> simp_all <;> omega)
            have hC : (fun y => kidsTo S i y + heldTo hs k y) x ≤ 30000 := by
              have := hle.out
              have := hle2.out
              simp only
              omega
            have hC' := hid hC
            obtain ⟨D, hown, hcd0⟩ := M.out
            have hcd := hid hcd0
            clear hcd0 hC hx hux hcx het hfx
            generalize (fun y => kidsTo S i y + heldTo hs k y) = C at hcd hcg hC'
            have wq : IntKind.i64.wrap ((C x : Int) + 1) = (C x : Int) + 1 := by have := hC'.out; rw [show ((C x : Int) + 1) = ((C x + 1 : Nat) : Int) by omega]; exact i64_nat (by omega)
            obtain ⟨c, hrun, hat, hwc⟩ := hown.lookup_int lawInt Tryz.underlying88 Tryz.underlying3 (zeroInt _) (keyOf_int_mk Tryz.underlying3 hxr)
            rw [hcd.out] at hat
            simp only [DataW.lit.injEq, Lit.int.injEq, true_and] at hat
            subst hat
            clear hwc
            go_wp2_with (at_mapUpdate; refine wpList_mapUpdate_own _ rfl _ _ _ 88 rfl 3 3 lawInt Tryz.underlying88 _ B _ D rfl hown (by unfold maxLen; omega) _ _ _ rfl rfl (keyOf_int_mk Tryz.underlying3 hxr) _ [] (plainElem_int Tryz.underlying3 (Go.WalkArith.wf_i64 (by have := hC'.out; omega))) ?_; intro w1 hown1 hgrow1)
            have hb1 := below_map hb hgrow1 (by have := hB.out; omega)
            refine (Count_calls _ p S x (H.below hb1)).mono ?_; rintro o w2 ⟨rfl, rfl⟩
            go_wp2
            go_roundw
            case rel => exact ⟨k + 1, by omega, by simp, hid (hcg.out _ (MapN.put hown hcd.out hown1)), hb1⟩
            case measure => simp [intOf]; omega
    · have hlt : i < n := by omega
      have hlt' : (i : Int) + 1 ≤ (n : Nat) := by omega
      have HG := Get_calls wr p S ((i : Int) + 1) (H.below hb)
      have eks := hid (show ∀ k, kidsTo S (i + 1) k = kidsTo S i k + (if S.used ((i : Int) + 1) then kc (S.node ((i : Int) + 1)) k else 0) from fun k => rfl)
      have wi : IntKind.i64.wrap ((i : Int) + 1 + 1) = (i : Int) + 1 + 1 := by rw [show (i : Int) + 1 + 1 = ((i + 2 : Nat) : Int) by omega]; exact i64_nat (by omega)
      have hkr : S.used ((i : Int) + 1) = true → ∀ k, 0 < kc (S.node ((i : Int) + 1)) k → -1 ≤ k ∧ k ≤ 6000 := fun u k hk => by
        by_cases k0 : k = 0
        · omega
        · obtain ⟨q, h1, h2⟩ := used_range H.2 (I.out.kids _ u k k0 hk)
          have := hnn.out
          omega
      have hkr := hid hkr
      unfold Nd.arr at HG
      generalize S.node ((i : Int) + 1) = x at *
      cases hu : S.used ((i : Int) + 1) with
      | false =>
        rw [hu] at HG eks hkr
        go_wp2_with fail
        refine HS.mono ?_; rintro o w1 ⟨rfl, rfl⟩
        go_wp2_with fail
        refine HG.mono ?_; rintro o w2 ⟨rfl, hb2⟩
        go_wp2
        go_roundw
        case rel => exact ⟨i + 1, by omega, by simp, hid ((M.out.below (by repeat (first | with_reducible exact Below.refl _ _ | with_reducible assumption | with_reducible refine bel_drewN ?_ | with_reducible refine bel_drew ?_ | with_reducible refine bel_alloc ?_ _ | with_reducible refine bel_set ?_ _ ?_ | with_reducible refine bel_trans ?_ (by with_reducible assumption) | ((try dsimp only); omega)))).congr (by omega) fun k => by rw [eks.out]; simp), (by repeat (first | with_reducible exact Below.refl _ _ | with_reducible assumption | with_reducible refine bel_drewN ?_ | with_reducible refine bel_drew ?_ | with_reducible refine bel_alloc ?_ _ | with_reducible refine bel_set ?_ _ ?_ | with_reducible refine bel_trans ?_ (by with_reducible assumption) | ((try dsimp only); omega)))⟩
        case measure => simp [intOf]; omega
      | true =>
        rw [hu] at HG eks hkr
        have k0 := wf_small (hkr.out rfl x.k0 (kc_pos.2 (by simp)))
        have k1 := wf_small (hkr.out rfl x.k1 (kc_pos.2 (by simp)))
        have k2 := wf_small (hkr.out rfl x.k2 (kc_pos.2 (by simp)))
        have k3 := wf_small (hkr.out rfl x.k3 (kc_pos.2 (by simp)))
        go_wp2_with fail
        refine HS.mono ?_; rintro o w1 ⟨rfl, rfl⟩
        go_wp2_with fail
        refine HG.mono ?_; rintro o w2 ⟨rfl, hb2⟩
        go_wp2
        generalize hW2 : World.alloc _ _ = W2
        have hb2 : Below w.heap.size w W2 := by subst hW2; exact (by repeat (first | with_reducible exact Below.refl _ _ | with_reducible assumption | with_reducible refine bel_drewN ?_ | with_reducible refine bel_drew ?_ | with_reducible refine bel_alloc ?_ _ | with_reducible refine bel_set ?_ _ ?_ | with_reducible refine bel_trans ?_ (by with_reducible assumption) | ((try dsimp only); omega)))
        have M := hid (M.out.below (w' := W2) (by subst hW2; exact (by repeat (first | with_reducible exact Below.refl _ _ | with_reducible assumption | with_reducible refine bel_drewN ?_ | with_reducible refine bel_drew ?_ | with_reducible refine bel_alloc ?_ _ | with_reducible refine bel_set ?_ _ ?_ | with_reducible refine bel_trans ?_ (by with_reducible assumption) | ((try dsimp only); omega)))))
        clear hW2
        go_loopw [31] (fun c wr2 => ∃ j : Nat, j ≤ 4 ∧ c = .int .i64 j ∧ Hid (MapN wr2 B (4 * i + j) (fun k => kidsTo S i k + kcTo x j k)) ∧ Below w.heap.size w wr2) (fun c _ => 4 - (intOf c).toNat)
        case atStart => exact ⟨0, by omega, rfl, hid (M.out.congr (by omega) fun k => by simp [kcTo]), hb2⟩
        case round =>
          clear hb2 M hb
          obtain ⟨j, hj, rfl, M, hb⟩ := hrel
          by_cases hj4 : j = 4
          · subst hj4
            go_wp2
            go_roundw
            case rel => exact ⟨i + 1, by omega, by simp, hid (M.out.congr (by omega) fun k => by rw [eks.out, kcTo_four]; simp), hb⟩
            case measure => simp [intOf]; omega
          · have hC : ∀ q : Int → Nat, q = (fun k => kidsTo S i k + kcTo x j k) → ∀ k, q k ≤ 30000 := fun q e k => by
              subst e
              have := kidsTo_le S i k
              have := kcTo_le x j k
              simp only
              omega
            have hlt : j < 4 := by omega
            have hcg := hid (show ∀ j' : Nat, j' = j + 1 → ∀ q, (∀ k, kcTo x j' k = kcTo x j k + if k = q then 1 else 0) → ∀ w', MapN w' B (4 * i + j + 1) (more q (fun k => kidsTo S i k + kcTo x j k)) → MapN w' B (4 * i + j') (fun k => kidsTo S i k + kcTo x j' k) from fun j' e q h w' M => M.congr (by omega) fun k => by rw [h]; simp only [more]; omega)
            obtain ⟨D, hown, hcd0⟩ := M.out
            have hcd := hid hcd0
            have hC' := hid hC
            clear hcd0 hC
            generalize (fun k => kidsTo S i k + kcTo x j k) = C at hcd hcg hC'
            have hj' : j = 0 ∨ j = 1 ∨ j = 2 ∨ j = 3 := by omega
            obtain ⟨ix0, ix1, ix2, ix3⟩ := idx4 x.k0 x.k1 x.k2 x.k3
            rcases hj' with rfl | rfl | rfl | rfl
            · have wq : IntKind.i64.wrap ((C x.k0 : Int) + 1) = (C x.k0 : Int) + 1 := by have := hC'.out C rfl x.k0; rw [show ((C x.k0 : Int) + 1) = ((C x.k0 + 1 : Nat) : Int) by omega]; exact i64_nat (by omega)
              obtain ⟨c, hrun, hat, hwc⟩ := hown.lookup_int lawInt Tryz.underlying88 Tryz.underlying3 (zeroInt _) (keyOf_int_mk Tryz.underlying3 k0)
              rw [hcd.out] at hat
              simp only [DataW.lit.injEq, Lit.int.injEq, true_and] at hat
              subst hat
              clear hwc
              go_wp2_with (first
                | (at_mapUpdate; refine wpList_mapUpdate_own _ rfl _ _ _ 88 rfl 3 3 lawInt Tryz.underlying88 _ B _ D rfl hown (by unfold maxLen; omega) _ _ _ rfl rfl (keyOf_int_mk Tryz.underlying3 k0) _ [] (plainElem_int Tryz.underlying3 (Go.WalkArith.wf_i64 (by have := hC'.out C rfl x.k0; omega))) ?_; intro w1 hown1 hgrow1)
                | go_in)
              go_wp2
              go_roundw
              case rel => exact ⟨1, by omega, by simp, hid (hcg.out 1 rfl x.k0 (fun k => kcTo_s0 x k) _ (MapN.put hown hcd.out hown1)), below_map hb hgrow1 (by have := hB.out; omega)⟩
              case measure => simp [intOf]
            · have wq : IntKind.i64.wrap ((C x.k1 : Int) + 1) = (C x.k1 : Int) + 1 := by have := hC'.out C rfl x.k1; rw [show ((C x.k1 : Int) + 1) = ((C x.k1 + 1 : Nat) : Int) by omega]; exact i64_nat (by omega)
              obtain ⟨c, hrun, hat, hwc⟩ := hown.lookup_int lawInt Tryz.underlying88 Tryz.underlying3 (zeroInt _) (keyOf_int_mk Tryz.underlying3 k1)
              rw [hcd.out] at hat
              simp only [DataW.lit.injEq, Lit.int.injEq, true_and] at hat
              subst hat
              clear hwc
              go_wp2_with (first
                | (at_mapUpdate; refine wpList_mapUpdate_own _ rfl _ _ _ 88 rfl 3 3 lawInt Tryz.underlying88 _ B _ D rfl hown (by unfold maxLen; omega) _ _ _ rfl rfl (keyOf_int_mk Tryz.underlying3 k1) _ [] (plainElem_int Tryz.underlying3 (Go.WalkArith.wf_i64 (by have := hC'.out C rfl x.k1; omega))) ?_; intro w1 hown1 hgrow1)
                | go_in)
              go_wp2
              go_roundw
              case rel => exact ⟨2, by omega, by simp, hid (hcg.out 2 rfl x.k1 (fun k => kcTo_s1 x k) _ (MapN.put hown hcd.out hown1)), below_map hb hgrow1 (by have := hB.out; omega)⟩
              case measure => simp [intOf]
            · have wq : IntKind.i64.wrap ((C x.k2 : Int) + 1) = (C x.k2 : Int) + 1 := by have := hC'.out C rfl x.k2; rw [show ((C x.k2 : Int) + 1) = ((C x.k2 + 1 : Nat) : Int) by omega]; exact i64_nat (by omega)
              obtain ⟨c, hrun, hat, hwc⟩ := hown.lookup_int lawInt Tryz.underlying88 Tryz.underlying3 (zeroInt _) (keyOf_int_mk Tryz.underlying3 k2)
              rw [hcd.out] at hat
              simp only [DataW.lit.injEq, Lit.int.injEq, true_and] at hat
              subst hat
              clear hwc
              go_wp2_with (first
                | (at_mapUpdate; refine wpList_mapUpdate_own _ rfl _ _ _ 88 rfl 3 3 lawInt Tryz.underlying88 _ B _ D rfl hown (by unfold maxLen; omega) _ _ _ rfl rfl (keyOf_int_mk Tryz.underlying3 k2) _ [] (plainElem_int Tryz.underlying3 (Go.WalkArith.wf_i64 (by have := hC'.out C rfl x.k2; omega))) ?_; intro w1 hown1 hgrow1)
                | go_in)
              go_wp2
              go_roundw
              case rel => exact ⟨3, by omega, by simp, hid (hcg.out 3 rfl x.k2 (fun k => kcTo_s2 x k) _ (MapN.put hown hcd.out hown1)), below_map hb hgrow1 (by have := hB.out; omega)⟩
              case measure => simp [intOf]
            · have wq : IntKind.i64.wrap ((C x.k3 : Int) + 1) = (C x.k3 : Int) + 1 := by have := hC'.out C rfl x.k3; rw [show ((C x.k3 : Int) + 1) = ((C x.k3 + 1 : Nat) : Int) by omega]; exact i64_nat (by omega)
              obtain ⟨c, hrun, hat, hwc⟩ := hown.lookup_int lawInt Tryz.underlying88 Tryz.underlying3 (zeroInt _) (keyOf_int_mk Tryz.underlying3 k3)
              rw [hcd.out] at hat
              simp only [DataW.lit.injEq, Lit.int.injEq, true_and] at hat
              subst hat
              clear hwc
              go_wp2_with (first
                | (at_mapUpdate; refine wpList_mapUpdate_own _ rfl _ _ _ 88 rfl 3 3 lawInt Tryz.underlying88 _ B _ D rfl hown (by unfold maxLen; omega) _ _ _ rfl rfl (keyOf_int_mk Tryz.underlying3 k3) _ [] (plainElem_int Tryz.underlying3 (Go.WalkArith.wf_i64 (by have := hC'.out C rfl x.k3; omega))) ?_; intro w1 hown1 hgrow1)
                | go_in)
              go_wp2
              go_roundw
              case rel => exact ⟨4, by omega, by simp, hid (hcg.out 4 rfl x.k3 (fun k => kcTo_s3 x k) _ (MapN.put hown hcd.out hown1)), below_map hb hgrow1 (by have := hB.out; omega)⟩
              case measure => simp [intOf]
end Go.Proofs.YtngfalbabgpnnaaGreat
