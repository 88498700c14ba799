/-
  The walk of the reference: Symbols.
  A version that is half made: its parts, held once each.
  The walk of Build's closure; what Build keeps in memory.
  Build: plain facts for its walk.
-/
import Derived.Test.YtngfalbabgpnnaaGreatM2
import Derived.Test.YtngfalbabgpnnaaGreatM3
import Derived.Test.YtngfalbabgpnnaaGreatM15
import Derived.Test.YtngfalbabgpnnaaGreatM18
set_option linter.unusedVariables false
set_option linter.unusedSimpArgs false
namespace Go.Proofs.YtngfalbabgpnnaaGreat
open Go.RowKit

set_option maxHeartbeats 4000000 in
set_option maxRecDepth 100000 in
theorem fSymbols_calls (w : World) (v : Value) (ts : List ByteArray) (R : RowV w v 1 ts.length (strs ts)) (hn : ts.length ≤ 10) (h0 : ts ≠ []) (hs : ∀ s ∈ ts, s.size ≤ 40) (hN : (allRows ts).length ≤ 1000) :
    Calls Tryz.prog 27 #[v] w fun o w' => ∃ v', o = .returned v' ∧ w'.ownsRow w.heap.size 3 1 v' (symsOf ts).length ((symsOf ts).map fun x : Nat => .int .i64 (x : Int)) ∧ Below w.heap.size w w' := by
  obtain ⟨i0, hi, hz0, hz1, hz2⟩ := info_parts info_int
  have HS := fSorted_calls w v ts R hn h0 hs hN
  have hlp : 0 < ts.length := List.length_pos_iff.2 h0
  obtain ⟨g, off, cap, hv, hg, hc⟩ := R.some (by omega)
  subst hv
  have hs' := hid hs
  have hc := hid hc
  have hlen : (rsort ts).length ≤ 1000 := by rw [rsort_length]; exact hN
  have hsl : (symsOf ts).length = (rsort ts).length := by simp [symsOf]
  clear R hs
  go_enter Tryz.func27, Tryz.ntmps27
  go_wp2_with fail
  refine HS.mono ?_; rintro o w1 ⟨v', rfl, ho, hb1⟩
  clear HS
  rcases own_cases ho with ⟨_, q, _⟩ | ⟨gr, capr, rfl, hgr, hgrs, _, hcr⟩
  · have : allRows ts ≠ [] := by
      cases ts with
      | nil => exact absurd rfl h0
      | cons s q => simp [allRows, rowsFrom]
    have h2 := rsort_length ts
    exact absurd (List.length_eq_zero_iff.1 (h2 ▸ q)) this
  clear ho
  have hcr := hid hcr
  have hsl := hid hsl
  generalize hll : (rsort ts).length = n at *
  have hll := hid hll
  go_wp2
  go_loopw [4, 5] (fun v3 c wr => ∃ i : Nat, i ≤ n ∧ c = .int .i64 i ∧ Below w1.heap.size w1 wr ∧ wr.ownsRow w1.heap.size 3 1 v3 i (((symsOf ts).take i).map fun x : Nat => .int .i64 (x : Int))) (fun _ c _ => n - (intOf c).toNat)
  case atStart => exact ⟨0, by omega, rfl, Below.refl _ _, World.ownsRow_nil _ _ _ _⟩
  case round =>
    obtain ⟨i, hin, rfl, hb, hoo⟩ := hrel
    by_cases hil : i = n
    · have fin := hid (show wr.ownsRow w.heap.size 3 1 u4 (symsOf ts).length ((symsOf ts).map fun x : Nat => .int .i64 (x : Int)) by
        rw [List.take_of_length_le (by rw [hsl.out]; omega)] at hoo
        rw [hsl.out]
        have := own_mono hoo hb1.size
        rw [hil] at this
        exact this)
      clear hoo
      subst hil
      go_wp2
      go_ret
      exact ⟨_, rfl, fin.out, bel_trans hb1 hb⟩
    · have hlt : i < n := by omega
      have hlt' : (i : Int) < (n : Nat) := by omega
      obtain ⟨⟨d, a⟩, hri⟩ : ∃ r, (rsort ts)[i]? = some r := ⟨(rsort ts)[i]'(by rw [hll.out]; exact hlt), List.getElem?_eq_getElem _⟩
      obtain ⟨f1, f2⟩ := flat2 hri
      have z1 : wr.cell? ⟨gr, i * 2, none⟩ = some (.int .i64 d) := ((bcell hb).1 gr _ hgrs).trans (hcr.out _ _ f1)
      have z2 : wr.cell? ⟨gr, i * 2 + 1, none⟩ = some (.int .i64 a) := ((bcell hb).1 gr _ hgrs).trans (hcr.out _ _ f2)
      obtain ⟨ok1, ok2⟩ := rsort_ok (List.mem_of_getElem? hri)
      simp only at ok1 ok2
      have es : (symsOf ts)[i]? = some (symAt ts (d, a)) := by unfold symsOf; rw [List.getElem?_map, hri]; rfl
      have hv3 := hoo.lt
      have hv3b := hid (show some gr ≠ u4.ownBlock ∧ some g ≠ u4.ownBlock from by
        rcases own_cases hoo with ⟨r, _⟩ | ⟨g', c', r, hg', _⟩
        · rw [r]; simp [Value.ownBlock]
        · rw [r]; simp only [Value.ownBlock, ne_eq, Option.some.injEq]; have := hb1.size; constructor <;> omega)
      have hgr2 : gr < wr.heap.size := Nat.lt_of_lt_of_le hgrs hb.size
      have hgg2 : g < wr.heap.size := by have := hb.size; have := hb1.size; omega
      have hs3 := hb.size
      have wi : IntKind.i64.wrap ((i : Int) + 1) = (i : Int) + 1 := by rw [show (i : Int) + 1 = ((i + 1 : Nat) : Int) by omega]; exact i64_nat (by omega)
      have etk := hid (show (((symsOf ts).take i).map fun x : Nat => Value.int .i64 (x : Int)) ++ [.int .i64 ((symAt ts (d, a) : Nat) : Int)] = ((symsOf ts).take (i + 1)).map fun x : Nat => Value.int .i64 (x : Int) by
        rw [List.take_add_one, es, List.map_append]; rfl)
      generalize ((symsOf ts).take i).map (fun x : Nat => Value.int .i64 (x : Int)) = X at hoo etk
      have hoo := hid hoo
      obtain ⟨s, hsd⟩ : ∃ s, ts[d]? = some s := ⟨ts[d], List.getElem?_eq_getElem ok1⟩
      have hgd : ts.getD d ByteArray.empty = s := by rw [List.getD_eq_getElem?_getD, hsd]; rfl
      rw [hgd] at ok2
      have z3 : wr.cell? ⟨g, off + d, none⟩ = some (.string s) := ((bcell hb).1 g _ (by have := hb1.size; omega)).trans (((bcell hb1).1 g _ hg).trans (hc.out d _ (strs_at hsd)))
      have hdn : (d : Int) < (ts.length : Nat) := by omega
      have hss := hs'.out s (List.mem_of_getElem? hsd)
      clear f1 f2 hri es hsd
      have wi2 := wi
      by_cases ha : a = 0
      · have eS : symAt ts (d, a) = 0 := by simp [symAt, ha]
        rw [eS] at etk
        subst ha
        clear eS hgd
        go_wp2_with (at_builtin; refine wpList_append_own _ rfl (.tmp 20) (.tmp 21) 50 rfl w1.heap.size 3 i0 (.int .i64 0) 1 8 Tryz.underlying50 hi hz0 hz1 hz2 rfl (by decide) u4 i _ rfl (hoo.out.alloc _) ⟨wr.heap.size, 0, none⟩ 1 1 [.int .i64 0] rfl rfl ?c1 ?c2 (by unfold maxLen; omega) (by omega) (by simp; omega) ?_)
        case c1 => intro j u hj; match j, hj with | 0, hj => (simp at hj; subst hj; simp only [Addr.add, if_true]; go_simp)
        case c2 => intro u hu; simp at hu; subst hu; rfl
        intro v' w3 ho3 hg3 _
        have hb4 := below_grown (bel_alloc hb _) (hoo.out.alloc _) hg3
        have etk := etk.out
        simp only [Int.natCast_zero] at etk
        rw [etk] at ho3
        clear hg3
        go_wp2
        go_roundw
        case rel => exact ⟨i + 1, by omega, by simp, hb4, ho3⟩
        case measure => simp [intOf]; omega
      · obtain ⟨k, rfl⟩ : ∃ k, a = k + 1 := ⟨a - 1, by omega⟩
        have hp : k < s.size := by omega
        have hpk : (k : Int) < (s.size : Nat) := by omega
        have wk : IntKind.i64.wrap (k : Int) = k := i64_nat (by omega)
        have eS : symAt ts (d, k + 1) = (s[k]).toNat + 1 := by
          simp only [symAt, if_neg ha, hgd]
          congr 1
          have : (bl s)[k]? = some s[k] := by
            rw [List.getElem?_eq_getElem (by rw [bl_length]; exact hp)]; rfl
          rw [Nat.add_sub_cancel, List.getD_eq_getElem?_getD, this]; rfl
        have hby := (s[k]).toNat_lt
        have wb : IntKind.i64.wrap ((s[k]).toNat : Int) = ((s[k]).toNat : Int) := i64_nat (by omega)
        have wb1 : IntKind.i64.wrap (((s[k]).toNat : Int) + 1) = ((s[k]).toNat : Int) + 1 := by rw [show ((s[k]).toNat : Int) + 1 = (((s[k]).toNat + 1 : Nat) : Int) by omega]; exact i64_nat (by omega)
        have qz : (((k : Int) + 1) == 0) = false := by simp; omega
        have qz2 : ¬ ((k : Int) + 1 = 0) := by omega
        rw [eS] at etk
        clear eS hgd
        have e8 : i * 2 + 1 = i * 2 + 1 := rfl
        go_wp2
        refine wp_region_can (fun w' => w'.cell? ⟨gr, i * 2, none⟩ = some (.int .i64 d) ∧ w'.cell? ⟨gr, i * 2 + 1, none⟩ = some (.int .i64 ((k : Int) + 1)) ∧ w'.cell? ⟨g, off + d, none⟩ = some (.string s)) [(0, false), (1, false), (2, false), (3, false), (4, false), (5, false), (6, false), (7, false), (8, false), (9, false), (10, false), (11, false), (12, false), (13, false), (14, false), (15, false), (16, false), (17, false), (18, true), (19, true), (20, false)] (by kernel_rfl) (by kernel_rfl) (fun _ d _ _ _ h => by cases d <;> exact h) ?_ ?_
        · exact ⟨z1, by simpa using z2, z3⟩
        repeat ((with_reducible refine wpCan_isq ?_); first | (apply wpCan_read rfl (by rfl); (· intro w' hS; go_simp; with_reducible rfl); (· try simp only [Act.put, List.setIfInBounds_toArray, List.set_cons_zero, List.set_cons_succ]; with_reducible rfl)) | (apply wpCan_no rfl (by rfl); (· try simp only [Act.put, List.setIfInBounds_toArray, List.set_cons_zero, List.set_cons_succ]; with_reducible rfl)))
        (with_reducible refine wpCan_isl ?_); apply wpCan_step rfl (by rfl); (· go_simp; first | with_reducible rfl | exact ⟨rfl, rfl⟩); (· try simp only [Act.put, List.setIfInBounds_toArray, List.set_cons_zero, List.set_cons_succ]; with_reducible rfl); (· exact ⟨by go_simp, by go_simp, by go_simp⟩)
        (with_reducible refine wpCan_isl ?_)
        refine wpCan_loud (toL rfl) (wantedL_eq.symm.trans (by rfl)) ?_
        have hbd := bel_drew hb
        refine wp_append_own _ (.tmp 23) (.tmp 41) 50 rfl w1.heap.size 3 i0 (.int .i64 0) 1 8 Tryz.underlying50 hi hz0 hz1 hz2 rfl (by decide) u4 i _ rfl ((own_below hoo.out (bel_drew (Below.refl _ wr))).alloc _) ⟨wr.heap.size, 0, none⟩ 1 1 [.int .i64 (((s[k]).toNat : Int) + 1)] rfl rfl ?cx1 ?cx2 (by unfold maxLen; omega) (by omega) (by simp; omega) ?_
        case cx1 => intro j u hj; match j, hj with | 0, hj => (simp at hj; subst hj; simp only [Addr.add, if_true]; go_simp)
        case cx2 => intro u hu; simp at hu; subst hu; rfl
        intro v' w3 ho3 hg3 _
        have hb4 := below_grown (bel_alloc hbd _) ((own_below hoo.out (bel_drew (Below.refl _ wr))).alloc _) hg3
        have etk := etk.out
        simp only [Int.natCast_add, Int.natCast_one] at etk
        rw [etk] at ho3
        have hne1 : some gr ≠ u4.ownBlock := fun q => by have := hv3b.out; exact this.1 q
        have hne2 : some g ≠ u4.ownBlock := fun q => by have := hv3b.out; exact this.2 q
        have ho3 := hid ho3
        refine ⟨⟨?_, ?_, ?_⟩, ?_⟩
        · rw [World.cell?_of_block (a := ⟨gr, i * 2, none⟩) (hg3.block gr (by simp; omega) hne1)]; go_simp
        · rw [World.cell?_of_block (a := ⟨gr, i * 2 + 1, none⟩) (hg3.block gr (by simp; omega) hne1)]; go_simp
        · rw [World.cell?_of_block (a := ⟨g, off + d, none⟩) (hg3.block g (by simp; omega) hne2)]; go_simp
        clear hg3
        try simp only [Act.put, List.setIfInBounds_toArray, List.set_cons_zero, List.set_cons_succ]
        repeat ((with_reducible refine wpCan_isq ?_); first | (apply wpCan_read rfl (by rfl); (· intro w' hS; go_simp; with_reducible rfl); (· try simp only [Act.put, List.setIfInBounds_toArray, List.set_cons_zero, List.set_cons_succ]; with_reducible rfl)) | (apply wpCan_no rfl (by rfl); (· try simp only [Act.put, List.setIfInBounds_toArray, List.set_cons_zero, List.set_cons_succ]; with_reducible rfl)))
        refine wpCan_nil ?_
        go_wp2
        go_roundw
        case rel => exact ⟨i + 1, by omega, by simp, hb4, ho3.out⟩
        case measure => simp [intOf]; omega
end Go.Proofs.YtngfalbabgpnnaaGreat

namespace Go.Proofs.YtngfalbabgpnnaaGreat
open Go.RowKit St

def noneHeld : Int → Nat := fun _ => 0
def hold4 (a b c d : Int) : Int → Nat := more a (more b (more c (more d noneHeld)))
structure BSt (S : St) (a b c d : Int) (ws : List Nat) (ms : List Bool) (sp tb : List (Nat × Nat)) : Prop where
  inv : S.Inv (hold4 a b c d)
  va : S.wv 9 a ws
  vb : S.br b ms
  vc : S.lr c sp
  vd : S.lr d tb

theorem hold4_le (a b c d : Int) (x : Int) : hold4 a b c d x ≤ 4 := by unfold hold4 noneHeld; simp only [more]; split <;> split <;> split <;> split <;> omega
theorem hold4_slack (a b c d : Int) (n : Nat) (h : n ≤ 1000000) : slack (hold4 a b c d) n := fun x => by
  have := hold4_le a b c d x; unfold big; omega
theorem hold4_a {a b c d x : Int} (h : x = a ∨ x = b ∨ x = c ∨ x = d) : 0 < hold4 a b c d x := by
  unfold hold4 noneHeld; simp only [more]
  rcases h with rfl | rfl | rfl | rfl <;> simp <;> omega
namespace BSt
variable {S : St} {a b c d : Int} {ws : List Nat} {ms : List Bool} {sp tb : List (Nat × Nat)}
theorem live (B : BSt S a b c d ws ms sp tb) {x : Int} (h : x = a ∨ x = b ∨ x = c ∨ x = d) (x0 : x ≠ 0) : S.live x := B.inv.held_pos x0 (hold4_a h)
/-- Its parts stay where they are held. -/
theorem keeps {S' : St} {f : Int → Nat} (B : BSt S a b c d ws ms sp tb) (k : Keeps S S') (I : S'.Inv f) :
    (0 < f a → S'.wv 9 a ws) ∧ (0 < f b → S'.br b ms) ∧ (0 < f c → S'.lr c sp) ∧ (0 < f d → S'.lr d tb) :=
  ⟨fun h => wv_kp k B.inv I (fun q => I.held_pos q h) B.va, fun h => br_kp k B.inv I (fun q => I.held_pos q h) B.vb, fun h => lr_kp k B.inv I (fun q => I.held_pos q h) B.vc, fun h => lr_kp k B.inv I (fun q => I.held_pos q h) B.vd⟩
theorem more_swap4 (g a b c d : Int) : more g (hold4 a b c d) = more a (hold4 g b c d) := by unfold hold4; rw [more_comm]
theorem swapB (a b c d : Int) : hold4 a b c d = hold4 b a c d := by unfold hold4; rw [more_comm]
theorem swapC (a b c d : Int) : hold4 a b c d = hold4 c a b d := by unfold hold4; rw [more_comm b c, more_comm a c]
theorem swapD (a b c d : Int) : hold4 a b c d = hold4 d a b c := by unfold hold4; rw [more_comm c d, more_comm b d, more_comm a d]

theorem stepA {S1 : St} {g : Int} {cost : Nat} {ws' : List Nat} (B : BSt S a b c d ws ms sp tb) (R : Res S (hold4 a b c d) 0 S1 g 0 cost) (V : S1.wv 9 g ws') : BSt (S1.drop a) g b c d ws' ms sp tb := by
  have I1 : S1.Inv (more a (hold4 g b c d)) := by rw [← more_swap4]; exact R.inv
  have I2 := I1.drop
  have k : Keeps S (S1.drop a) := (R.grow.trans (Grow.drop S1 a)).keeps
  obtain ⟨_, h2, h3, h4⟩ := B.keeps k I2
  exact ⟨I2, wv_kp (Grow.drop S1 a).keeps R.inv I2 (fun q => I2.held_pos q (hold4_a (Or.inl rfl))) V, h2 (hold4_a (by simp)), h3 (hold4_a (by simp)), h4 (hold4_a (by simp))⟩
theorem stepB {S1 : St} {g : Int} {cost : Nat} {ms' : List Bool} (B : BSt S a b c d ws ms sp tb) (R : Res S (hold4 a b c d) 0 S1 g 0 cost) (V : S1.br g ms') : BSt (S1.drop b) a g c d ws ms' sp tb := by
  have I1 : S1.Inv (more b (hold4 a g c d)) := by rw [swapB a g c d, ← more_swap4, ← swapB]; exact R.inv
  have I2 := I1.drop
  have k : Keeps S (S1.drop b) := (R.grow.trans (Grow.drop S1 b)).keeps
  obtain ⟨h1, _, h3, h4⟩ := B.keeps k I2
  exact ⟨I2, h1 (hold4_a (by simp)), br_kp (Grow.drop S1 b).keeps R.inv I2 (fun q => I2.held_pos q (hold4_a (by simp))) V, h3 (hold4_a (by simp)), h4 (hold4_a (by simp))⟩
theorem stepC {S1 : St} {g : Int} {cost : Nat} {sp' : List (Nat × Nat)} (B : BSt S a b c d ws ms sp tb) (R : Res S (hold4 a b c d) 0 S1 g 0 cost) (V : S1.lr g sp') : BSt (S1.drop c) a b g d ws ms sp' tb := by
  have I1 : S1.Inv (more c (hold4 a b g d)) := by rw [swapC a b g d, ← more_swap4, ← swapC]; exact R.inv
  have I2 := I1.drop
  have k : Keeps S (S1.drop c) := (R.grow.trans (Grow.drop S1 c)).keeps
  obtain ⟨h1, h2, _, h4⟩ := B.keeps k I2
  exact ⟨I2, h1 (hold4_a (by simp)), h2 (hold4_a (by simp)), lr_kp (Grow.drop S1 c).keeps R.inv I2 (fun q => I2.held_pos q (hold4_a (by simp))) V, h4 (hold4_a (by simp))⟩
theorem stepD {S1 : St} {g : Int} {cost : Nat} {tb' : List (Nat × Nat)} (B : BSt S a b c d ws ms sp tb) (R : Res S (hold4 a b c d) 0 S1 g 0 cost) (V : S1.lr g tb') : BSt (S1.drop d) a b c g ws ms sp tb' := by
  have I1 : S1.Inv (more d (hold4 a b c g)) := by rw [swapD a b c g, ← more_swap4, ← swapD]; exact R.inv
  have I2 := I1.drop
  have k : Keeps S (S1.drop d) := (R.grow.trans (Grow.drop S1 d)).keeps
  obtain ⟨h1, h2, h3, _⟩ := B.keeps k I2
  exact ⟨I2, h1 (hold4_a (by simp)), h2 (hold4_a (by simp)), h3 (hold4_a (by simp)), lr_kp (Grow.drop S1 d).keeps R.inv I2 (fun q => I2.held_pos q (hold4_a (by simp))) V⟩
theorem usedDrop (S1 : St) (x : Int) : (S1.drop x).usedN = S1.usedN := Inv.usedN_congr (drop_n _ _) (drop_used _ _)

/-- WORK. -/
theorem work (B : BSt S a b c d ws ms sp tb) (k : Nat) (hk : S.usedN < k) (hb : k < 100000) :
    ∃ m S', S.work k 1073741824 0 = some (m, S') ∧ BSt S' a b c d ws ms sp tb ∧ S'.wait = [] ∧ S'.n = S.n := by
  obtain ⟨m, S', h1, I', h2, sh, _⟩ := Inv.work (hold4_slack a b c d 4 (by omega)) k S 0 B.inv hk (by omega) (by omega)
  obtain ⟨q1, q2, q3, q4⟩ := B.keeps sh.keeps I'
  exact ⟨m, S', h1, ⟨I', q1 (hold4_a (by simp)), q2 (hold4_a (by simp)), q3 (hold4_a (by simp)), q4 (hold4_a (by simp))⟩, h2, sh.n⟩
theorem used (B : BSt S a b c d ws ms sp tb) (hw : S.wait = []) : S.usedN ≤ 27 * ws.length + 2 * ms.length + 2 * sp.length + 2 * tb.length := by
  refine Nat.le_trans (B.inv.usedN_cov hw (cov_more (cov_wv B.va) (cov_more (cov_br B.vb) (cov_more (cov_lr B.vc) (cov_more (cov_lr B.vd) cov_none))))) ?_
  omega
end BSt
theorem ins_end {α : Type} (l : List α) (x : α) : ins l l.length x = l ++ [x] := by simp [ins]
theorem Inv.of_new {n : Nat} (h1 : 1 ≤ n) (h2 : n ≤ 6000) : (St.new n).Inv noneHeld := by
  have hr : ∀ h, (St.new n).refs h = 0 := fun h => by
    unfold St.refs
    rw [sumTo_congr (h := fun _ => 0) (fun i _ => by simp [St.new]), sumTo_const]; simp
  have hu : (St.new n).usedN = 0 := by
    unfold St.usedN
    rw [sumTo_congr (h := fun _ => 0) (fun i _ => by simp [St.new]), sumTo_const]; simp
  refine ⟨St.WF.new h1 h2, fun h _ u => by simp [St.new] at u, fun h _ p => by simp [noneHeld] at p, fun g u => by simp [St.new] at u, ⟨fun _ => 0, fun g u => by simp [St.new] at u⟩, fun h u => by simp [St.new] at u, ?_, fun h _ => by simp [noneHeld]⟩
  rw [hu]; rfl
theorem BSt.new {n : Nat} (h1 : 1 ≤ n) (h2 : n ≤ 6000) : BSt (St.new n) 0 0 0 0 [] [] [] [] :=
  ⟨(Inv.of_new h1 h2).zero.zero.zero.zero, Or.inl ⟨rfl, rfl⟩, Or.inl ⟨rfl, rfl⟩, Or.inl ⟨rfl, rfl⟩, Or.inl ⟨rfl, rfl⟩⟩
end Go.Proofs.YtngfalbabgpnnaaGreat

namespace Go.Proofs.YtngfalbabgpnnaaGreat
open Go.RowKit St

set_option maxHeartbeats 1000000 in
theorem bNext_calls (w : World) (p : Nat) (S : St) (h g : Int) (bk ba : Nat) (H : Ar w p S) (ca : w.cell? ⟨ba, 0, none⟩ = some (.pointer (some ⟨p, 0, none⟩))) :
    Calls Tryz.prog 42 #[.int .i64 h, .int .i64 g, .int .i64 0, .pointer (some ⟨bk, 0, none⟩), .pointer (some ⟨ba, 0, none⟩)] w fun o w' => o = .returned (.int .i64 g) ∧ Ar w' p (S.drop h) ∧ Fr [] p w w' := by
  by_cases h0 : h = 0
  · subst h0
    have e := drop_zero H.2
    have e := hid e
    go_enter Tryz.func42, Tryz.ntmps42
    go_wp2
    go_ret
    exact ⟨rfl, by rw [e.out]; exact H, Fr.refl _ _ _⟩
  · have q : (h != 0) = true := by simp [h0]
    have q2 : (h == 0) = false := by simp [h0]
    have HD := Drop_calls w p S h H
    go_enter Tryz.func42, Tryz.ntmps42
    go_wp2_with fail
    refine HD.mono ?_; rintro o w1 ⟨rfl, H1, F1⟩
    go_wp2
    go_ret
    exact ⟨rfl, H1, F1⟩

/-- The parts at block P. -/
structure PAt (w : World) (p P : Nat) (a b c d : Int) : Prop where
  c0 : w.cell? ⟨P, 0, none⟩ = some (.int .i64 a)
  c1 : w.cell? ⟨P, 1, none⟩ = some (.int .i64 b)
  c2 : w.cell? ⟨P, 2, none⟩ = some (.int .i64 c)
  c3 : w.cell? ⟨P, 3, none⟩ = some (.int .i64 d)
  fz : ∀ i, w.frozen? ⟨P, i, none⟩ = false
  loc : Loc p w P
theorem PAt.fr {w w' : World} {p P : Nat} {a b c d : Int} (A : PAt w p P a b c d) (F : Fr [] p w w') : PAt w' p P a b c d := by
  obtain ⟨l, e⟩ := F.loc A.loc (by simp)
  have ec := fun i => World.cell?_of_block (a := ⟨P, i, none⟩) e
  exact ⟨(ec 0).trans A.c0, (ec 1).trans A.c1, (ec 2).trans A.c2, (ec 3).trans A.c3, fun i => (World.frozen?_of_block (a := ⟨P, i, none⟩) e).trans (A.fz i), l⟩
theorem PAt.set {w : World} {p P : Nat} {a b c d : Int} (A : PAt w p P a b c d) (k : Nat) (v : Int) (hk : k < 4) :
    PAt (w.setCell ⟨P, k, none⟩ (.int .i64 v)) p P (if k = 0 then v else a) (if k = 1 then v else b) (if k = 2 then v else c) (if k = 3 then v else d) := by
  have hne : P ≠ p := A.loc.ne
  have o : ∀ j x y, j ≠ k → w.cell? ⟨P, j, none⟩ = some x → (w.setCell ⟨P, k, none⟩ y).cell? ⟨P, j, none⟩ = some x := fun j x y hj h => by
    rw [World.cell?_setCell_other _ _ _ _ (by simp <;> omega)]; exact h
  have s : ∀ j x y, j = k → w.cell? ⟨P, j, none⟩ = some x → (w.setCell ⟨P, k, none⟩ y).cell? ⟨P, j, none⟩ = some y := fun j x y hj h => by
    subst hj; exact World.cell?_setCell_same _ _ _ h
  refine ⟨?_, ?_, ?_, ?_, fun i => by rw [World.frozen?_setCell]; exact A.fz i, A.loc.setCell _ hne⟩
  · split
    · rename_i q; exact s 0 _ _ q.symm A.c0
    · rename_i q; exact o 0 _ _ (Ne.symm q) A.c0
  · split
    · rename_i q; exact s 1 _ _ q.symm A.c1
    · rename_i q; exact o 1 _ _ (Ne.symm q) A.c1
  · split
    · rename_i q; exact s 2 _ _ q.symm A.c2
    · rename_i q; exact o 2 _ _ (Ne.symm q) A.c2
  · split
    · rename_i q; exact s 3 _ _ q.symm A.c3
    · rename_i q; exact o 3 _ _ (Ne.symm q) A.c3
theorem Env.fr0 {p : Nat} {bs : List Nat} {W0 w w' : World} (E : Env p bs W0 w) (F : Fr [] p w w') : Env p bs W0 w' := fun b hb => by
  obtain ⟨l, e⟩ := E b hb
  obtain ⟨l', e'⟩ := F.loc l (by simp)
  exact ⟨l', e'.trans e⟩
theorem Env.set {p : Nat} {bs : List Nat} {W0 w : World} (E : Env p bs W0 w) (a : Addr) (v : Value) (h : a.block ∉ bs) (hp : a.block ≠ p) : Env p bs W0 (w.setCell a v) := fun b hb => by
  obtain ⟨l, e⟩ := E b hb
  exact ⟨l.setCell _ hp, by rw [heap_setCell_other w a b v (fun q => h (by rw [← q]; exact hb))]; exact e⟩
theorem Env.cell {p : Nat} {bs : List Nat} {W0 w : World} (E : Env p bs W0 w) {b : Nat} (hb : b ∈ bs) (o : Nat) : w.cell? ⟨b, o, none⟩ = W0.cell? ⟨b, o, none⟩ := World.cell?_of_block (a := ⟨b, o, none⟩) (E b hb).2
/-- A store into a block that is no part of the arena, laid since W. -/
theorem Fr.setNew {p : Nat} {W w : World} (F : Fr [] p W w) (a : Addr) (v : Value) (h : W.heap.size ≤ a.block) (hp : a.block ≠ p) : Fr [] p W (w.setCell a v) := F.setCell v (Or.inl h) hp
end Go.Proofs.YtngfalbabgpnnaaGreat

namespace Go.Proofs.YtngfalbabgpnnaaGreat
open Go.RowKit St

/-- Where the walk of Build stands: w0 is the world it began in, W the one its loops began in. -/
structure Bd (w0 W : World) (p P : Nat) (bs : List Nat) (S : St) (a b c d : Int) (w : World) : Prop where
  ar : Ar w p S
  fr : Fr [] p w0 w
  env : Env p bs W w
  pat : PAt w p P a b c d
  new : w0.heap.size ≤ P
  out : P ∉ bs
namespace Bd
variable {w0 W w w' : World} {p P : Nat} {bs : List Nat} {S S' : St} {a b c d : Int}
theorem call (D : Bd w0 W p P bs S a b c d w) (H : Ar w' p S') (F : Fr [] p w w') : Bd w0 W p P bs S' a b c d w' :=
  ⟨H, D.fr.trans F, D.env.fr0 F, D.pat.fr F, D.new, D.out⟩
theorem drew (D : Bd w0 W p P bs S a b c d w) : Bd w0 W p P bs S a b c d w.drew := D.call D.ar.drew (Fr.refl [] p w).drew
theorem grew (D : Bd w0 W p P bs S a b c d w) (h : Below w.heap.size w w') : Bd w0 W p P bs S a b c d w' := D.call (D.ar.below h) (Fr.of_below D.ar h)
theorem ne (D : Bd w0 W p P bs S a b c d w) : P ≠ p := D.pat.loc.ne
theorem set (D : Bd w0 W p P bs S a b c d w) (k : Nat) (v : Int) (hk : k < 4) : Bd w0 W p P bs S (if k = 0 then v else a) (if k = 1 then v else b) (if k = 2 then v else c) (if k = 3 then v else d) (w.setCell ⟨P, k, none⟩ (.int .i64 v)) :=
  ⟨D.ar.setCell _ D.pat.loc.2, Fr.setNew D.fr _ _ D.new D.ne, D.env.set _ _ D.out D.ne, D.pat.set k v hk, D.new, D.out⟩
theorem set0 (D : Bd w0 W p P bs S a b c d w) (v : Int) : Bd w0 W p P bs S v b c d (w.setCell ⟨P, 0, none⟩ (.int .i64 v)) := D.set 0 v (by decide)
theorem set1 (D : Bd w0 W p P bs S a b c d w) (v : Int) : Bd w0 W p P bs S a v c d (w.setCell ⟨P, 1, none⟩ (.int .i64 v)) := D.set 1 v (by decide)
theorem set2 (D : Bd w0 W p P bs S a b c d w) (v : Int) : Bd w0 W p P bs S a b v d (w.setCell ⟨P, 2, none⟩ (.int .i64 v)) := D.set 2 v (by decide)
theorem set3 (D : Bd w0 W p P bs S a b c d w) (v : Int) : Bd w0 W p P bs S a b c v (w.setCell ⟨P, 3, none⟩ (.int .i64 v)) := D.set 3 v (by decide)
theorem at' (D : Bd w0 W p P bs S a b c d w) {b : Nat} (hb : b ∈ bs) {o : Nat} {v : Value} (h : W.cell? ⟨b, o, none⟩ = some v) : w.cell? ⟨b, o, none⟩ = some v := (D.env.cell hb o).trans h
end Bd

theorem ins_take {α : Type} {l : List α} {i : Nat} {x : α} (h : l[i]? = some x) : ins (l.take i) i x = l.take (i + 1) := by
  have hi := (List.getElem?_eq_some_iff.1 h).1
  unfold ins
  rw [List.take_take, Nat.min_self, List.drop_of_length_le (by rw [List.length_take]; omega), List.take_add_one, h]; rfl
theorem length_take' {α : Type} {l : List α} {i : Nat} (h : i ≤ l.length) : (l.take i).length = i := by rw [List.length_take]; omega

theorem BSt.made {S S1 : St} {a b c d r : Int} {ws : List Nat} {ms : List Bool} {sp tb : List (Nat × Nat)} (B : BSt S a b c d ws ms sp tb) (R : Res S (hold4 a b c d) 0 S1 r 0 1) (hn : S1.node r = rootNd a b c d) (hl : S1.live r) :
    ((((S1.drop a).drop b).drop c).drop d).Inv (more r noneHeld) ∧ ((((S1.drop a).drop b).drop c).drop d).vr r ws ms sp tb ∧ ((((S1.drop a).drop b).drop c).drop d).n = S.n ∧ ((((S1.drop a).drop b).drop c).drop d).usedN ≤ S.usedN + 1 := by
  have I1 : S1.Inv (more a (more b (more c (more d (more r noneHeld))))) := by
    have := R.inv
    unfold hold4 at this
    rw [more_comm r a, more_comm r b, more_comm r c, more_comm r d] at this
    exact this
  obtain ⟨h1, h2, h3, h4⟩ := B.keeps R.grow.keeps R.inv
  have pos : ∀ x, (x = a ∨ x = b ∨ x = c ∨ x = d) → 0 < more r (hold4 a b c d) x := fun x h => by
    have := hold4_a h; simp only [more]; omega
  have V1 : S1.vr r ws ms sp tb := ⟨a, b, c, d, hl, hn, h1 (pos a (by simp)), h2 (pos b (by simp)), h3 (pos c (by simp)), h4 (pos d (by simp))⟩
  have I2 := I1.drop.drop.drop.drop
  have r0 : r ≠ 0 := by have := (live.ne I1.wf hl).1; omega
  have k : Keeps S1 ((((S1.drop a).drop b).drop c).drop d) := ((((Grow.drop S1 a).trans (Grow.drop _ b)).trans (Grow.drop _ c)).trans (Grow.drop _ d)).keeps
  refine ⟨I2, vr_kp k I1 I2 (I2.held_pos r0 (by rw [more_self]; omega)) V1, ?_, ?_⟩
  · rw [drop_n, drop_n, drop_n, drop_n]; exact R.grow.n
  · rw [BSt.usedDrop, BSt.usedDrop, BSt.usedDrop, BSt.usedDrop]; exact R.made

/-- Its work done, a version is still there. -/
theorem vr_work {S : St} {f : Int → Nat} {r : Int} {ws : List Nat} {ms : List Bool} {sp tb : List (Nat × Nat)} (I : S.Inv f) (sl : slack f 4) (hr : 0 < f r) (V : S.vr r ws ms sp tb) (k : Nat) (hk : S.usedN < k) (hb : k < 100000) :
    ∃ m S', S.work k 1073741824 0 = some (m, S') ∧ S'.Inv f ∧ S'.vr r ws ms sp tb ∧ S'.wait = [] ∧ S'.n = S.n := by
  obtain ⟨m, S', h1, I', h2, sh, _⟩ := Inv.work sl k S 0 I hk (by omega) (by omega)
  have r0 : r ≠ 0 := by
    obtain ⟨_, _, _, _, hl, _⟩ := V
    have := (live.ne I.wf hl).1; omega
  exact ⟨m, S', h1, I', vr_kp sh.keeps I I' (I'.held_pos r0 hr) V, h2, sh.n⟩
end Go.Proofs.YtngfalbabgpnnaaGreat
