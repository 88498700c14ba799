/-
  How many bits are set: plain facts.
  The walks of package leaf.
  The walks of package leaf, more.
-/
import Derived.Test.YtngfalbabgpnnaaGreatM1
import Derived.Test.YtngfalbabgpnnaaGreatProg
import Derived.Deep.QuietTactic
import Derived.BigQuiet
import Derived.BigRegion
import Derived.Deep.RegionHeld3
set_option linter.unusedVariables false
set_option linter.unusedSimpArgs false
namespace Go.Proofs.YtngfalbabgpnnaaGreat
open Go.RowKit

def val (B : Nat) : List Nat → Nat
  | [] => 0
  | d :: r => d + B * val B r
def ps : List Nat → List Nat
  | a :: b :: r => (a + b) :: ps r
  | _ => []
def sumL : List Nat → Nat
  | [] => 0
  | d :: r => d + sumL r

theorem and_split {k u v p q : Nat} (hu : u < 2 ^ k) (hv : v < 2 ^ k) : (u + 2 ^ k * p) &&& (v + 2 ^ k * q) = (u &&& v) + 2 ^ k * (p &&& q) := by
  have huv : u &&& v < 2 ^ k := Nat.lt_of_le_of_lt Nat.and_le_left hu
  apply Nat.eq_of_testBit_eq
  intro i
  rw [Nat.testBit_and, Nat.add_comm u, Nat.add_comm v, Nat.add_comm (u &&& v), Nat.testBit_two_pow_mul_add _ hu, Nat.testBit_two_pow_mul_add _ hv, Nat.testBit_two_pow_mul_add _ huv]
  split
  · rw [Nat.testBit_and]
  · rw [Nat.testBit_and]
theorem and_low {s a b : Nat} (ha : a < 2 ^ s) : (a + 2 ^ s * b) &&& (2 ^ s - 1) = a := by
  rw [Nat.and_two_pow_sub_one_eq_mod, Nat.add_mul_mod_self_left, Nat.mod_eq_of_lt ha]

theorem sq_pow (s : Nat) : 2 ^ s * 2 ^ s = 2 ^ (s + s) := (Nat.pow_add 2 s s).symm
/-- Even digits, odd digits, by a mask. -/
theorem fold_pair (s : Nat) : ∀ (n : Nat) (ds : List Nat), ds.length = n + n → (∀ d ∈ ds, d < 2 ^ s) →
    (val (2 ^ s) ds / 2 ^ s &&& val (2 ^ (s + s)) (List.replicate n (2 ^ s - 1))) + (val (2 ^ s) ds &&& val (2 ^ (s + s)) (List.replicate n (2 ^ s - 1))) = val (2 ^ (s + s)) (ps ds)
  | 0, ds, hl, _ => by
    have : ds = [] := List.length_eq_zero_iff.1 (by omega)
    subst this
    simp [val, ps]
  | n + 1, ds, hl, hd => by
    match ds, hl, hd with
    | [], hl, _ => simp only [List.length_nil] at hl; omega
    | [_], hl, _ => simp only [List.length_cons, List.length_nil] at hl; omega
    | a :: b :: r, hl, hd =>
      have ha : a < 2 ^ s := hd a (by simp)
      have hb : b < 2 ^ s := hd b (by simp)
      have ih := fold_pair s n r (by simp at hl; omega) (fun d h => hd d (by simp [h]))
      have hp := Nat.two_pow_pos s
      have hm : 2 ^ s - 1 < 2 ^ (s + s) := by
        have : 2 ^ s ≤ 2 ^ (s + s) := Nat.pow_le_pow_right (by decide) (by omega)
        omega
      simp only [val, ps, List.replicate]
      generalize val (2 ^ (s + s)) (List.replicate n (2 ^ s - 1)) = M at *
      generalize val (2 ^ s) r = V at *
      have low : ∀ x y, x < 2 ^ s → y < 2 ^ s → x + 2 ^ s * y < 2 ^ (s + s) := fun x y hx hy => by
        rw [← sq_pow]
        have : 2 ^ s * y + 2 ^ s ≤ 2 ^ s * 2 ^ s := by rw [← Nat.mul_succ]; exact Nat.mul_le_mul_left _ hy
        omega
      have e1 : a + 2 ^ s * (b + 2 ^ s * V) = (a + 2 ^ s * b) + 2 ^ (s + s) * V := by
        rw [Nat.mul_add, ← Nat.mul_assoc, sq_pow]; omega
      have e2 : (a + 2 ^ s * (b + 2 ^ s * V)) / 2 ^ s = (b + 2 ^ s * (V % 2 ^ s)) + 2 ^ (s + s) * (V / 2 ^ s) := by
        rw [Nat.add_mul_div_left _ _ hp, Nat.div_eq_of_lt ha, Nat.zero_add]
        have := Nat.div_add_mod V (2 ^ s)
        rw [← sq_pow, Nat.mul_assoc]
        have : 2 ^ s * V = 2 ^ s * (2 ^ s * (V / 2 ^ s)) + 2 ^ s * (V % 2 ^ s) := by rw [← Nat.mul_add, this]
        omega
      rw [e2, e1, and_split (low _ _ hb (Nat.mod_lt _ hp)) hm, and_split (low _ _ ha hb) hm, and_low ha, and_low hb]
      rw [← ih, Nat.mul_add]
      omega

/-- The third step: nibbles of at most 4. -/
theorem fold_nib : ∀ (n : Nat) (ds : List Nat), ds.length = n + n → (∀ d ∈ ds, d ≤ 4) →
    ((val 16 ds / 16 + val 16 ds) &&& val 256 (List.replicate n 15)) = val 256 (ps ds)
  | 0, ds, hl, _ => by
    have : ds = [] := List.length_eq_zero_iff.1 (by omega)
    subst this
    simp [val, ps]
  | n + 1, ds, hl, hd => by
    match ds, hl, hd with
    | [], hl, _ => simp only [List.length_nil] at hl; omega
    | [_], hl, _ => simp only [List.length_cons, List.length_nil] at hl; omega
    | a :: b :: r, hl, hd =>
      have ha := hd a (by simp)
      have hb := hd b (by simp)
      have ih := fold_nib n r (by simp at hl; omega) (fun d h => hd d (by simp [h]))
      have hv : val 16 r % 16 ≤ 4 := by
        cases r with
        | nil => simp [val]
        | cons c q => have := hd c (by simp); simp only [val]; omega
      simp only [val, ps, List.replicate]
      generalize val 256 (List.replicate n 15) = M at *
      generalize val 16 r = V at *
      have e : (a + 16 * (b + 16 * V)) / 16 + (a + 16 * (b + 16 * V)) = ((a + b) + 2 ^ 4 * (b + V % 16)) + 2 ^ 8 * (V / 16 + V) := by omega
      have m : 15 + 256 * M = (2 ^ 4 - 1) + 2 ^ 8 * M := by omega
      rw [e, m, and_split (by omega) (by decide), and_low (by omega), ← ih]

theorem ps_length : ∀ (n : Nat) (ds : List Nat), ds.length = n + n → (ps ds).length = n
  | 0, ds, h => by
    have : ds = [] := List.length_eq_zero_iff.1 (by omega)
    subst this; rfl
  | n + 1, ds, h => by
    match ds, h with
    | [], h => simp only [List.length_nil] at h; omega
    | [_], h => simp only [List.length_cons, List.length_nil] at h; omega
    | a :: b :: r, h => simp only [ps, List.length_cons]; rw [ps_length n r (by simp at h; omega)]
theorem ps_sum : ∀ (n : Nat) (ds : List Nat), ds.length = n + n → sumL (ps ds) = sumL ds
  | 0, ds, h => by
    have : ds = [] := List.length_eq_zero_iff.1 (by omega)
    subst this; rfl
  | n + 1, ds, h => by
    match ds, h with
    | [], h => simp only [List.length_nil] at h; omega
    | [_], h => simp only [List.length_cons, List.length_nil] at h; omega
    | a :: b :: r, h => simp only [ps, sumL]; rw [ps_sum n r (by simp at h; omega)]; omega
theorem ps_le {m : Nat} : ∀ (n : Nat) (ds : List Nat), ds.length = n + n → (∀ d ∈ ds, d ≤ m) → ∀ d ∈ ps ds, d ≤ m + m
  | 0, ds, h, _ => by
    have : ds = [] := List.length_eq_zero_iff.1 (by omega)
    subst this
    intro d hd; simp [ps] at hd
  | n + 1, ds, h, hm => by
    match ds, h, hm with
    | [], h, _ => simp only [List.length_nil] at h; omega
    | [_], h, _ => simp only [List.length_cons, List.length_nil] at h; omega
    | a :: b :: r, h, hm =>
      intro d hd
      simp only [ps, List.mem_cons] at hd
      rcases hd with rfl | hd
      · have := hm a (by simp); have := hm b (by simp); omega
      · exact ps_le n r (by simp at h; omega) (fun d h => hm d (by simp [h])) d hd
theorem val_lt {B : Nat} : ∀ (ds : List Nat), (∀ d ∈ ds, d < B) → val B ds < B ^ ds.length
  | [], _ => by simp [val]
  | d :: r, h => by
    have h1 := h d (by simp)
    have ih := val_lt r fun x hx => h x (by simp [hx])
    simp only [val, List.length_cons, Nat.pow_succ]
    have : B * val B r + B ≤ B * B ^ r.length := by rw [← Nat.mul_succ]; exact Nat.mul_le_mul_left _ ih
    rw [Nat.mul_comm (B ^ r.length)]
    omega

/-- A list of bits as 64 digits. -/
def digs (l : List Bool) : List Nat := l.map (fun b => if b then 1 else 0) ++ List.replicate (64 - l.length) 0
theorem val_zero (B n : Nat) : val B (List.replicate n 0) = 0 := by
  induction n with
  | zero => rfl
  | succ n ih => simp [List.replicate, val, ih]
theorem sum_zero (n : Nat) : sumL (List.replicate n 0) = 0 := by
  induction n with
  | zero => rfl
  | succ n ih => simp [List.replicate, sumL, ih]
theorem digs_len {l : List Bool} (h : l.length ≤ 64) : (digs l).length = 64 := by simp [digs]; omega
theorem digs_le (l : List Bool) : ∀ d ∈ digs l, d ≤ 1 := by
  intro d hd
  unfold digs at hd
  rcases List.mem_append.1 hd with h | h
  · obtain ⟨b, _, rfl⟩ := List.mem_map.1 h; split <;> omega
  · have := (List.mem_replicate.1 h).2; omega
theorem digs_sum (l : List Bool) : sumL (digs l) = l.count true := by
  unfold digs
  generalize 64 - l.length = n
  induction l with
  | nil => simp [sum_zero]
  | cons b r ih => simp only [List.map_cons, List.cons_append, sumL, ih]; cases b <;> simp <;> omega
theorem digs_val (l : List Bool) : val 2 (digs l) = bitsOf l := by
  unfold digs
  generalize 64 - l.length = n
  induction l with
  | nil => simp [val_zero, bitsOf]
  | cons b r ih => simp only [List.map_cons, List.cons_append, val, ih, bitsOf]; cases b <;> simp

/-- The last steps: eight bytes of at most 8. -/
theorem fold_bytes {x4 x5 x6 : Nat} {e : List Nat} (he : e.length = 8) (h8 : ∀ d ∈ e, d ≤ 8) (h4 : x4 = val 256 e + val 256 e / 256) (h5 : x5 = x4 + x4 / 65536) (h6 : x6 = x5 + x5 / 4294967296) :
    x4 < 18446744073709551616 ∧ x5 < 18446744073709551616 ∧ x6 < 9223372036854775808 ∧ x6 % 128 = sumL e := by
  match e, he with
  | [a, b, c, d, p, q, r, s], _ =>
    have ha := h8 a (by simp)
    have hb := h8 b (by simp)
    have hc := h8 c (by simp)
    have hd := h8 d (by simp)
    have hp := h8 p (by simp)
    have hq := h8 q (by simp)
    have hr := h8 r (by simp)
    have hs := h8 s (by simp)
    simp only [val, sumL] at *
    have e4 : x4 = (a + b) + 256 * ((b + c) + 256 * ((c + d) + 256 * ((d + p) + 256 * ((p + q) + 256 * ((q + r) + 256 * ((r + s) + 256 * s)))))) := by omega
    have e5 : x5 = (a + b + c + d) + 256 * ((b + c + d + p) + 256 * ((c + d + p + q) + 256 * ((d + p + q + r) + 256 * ((p + q + r + s) + 256 * ((q + r + s) + 256 * ((r + s) + 256 * s)))))) := by
      clear h4; omega
    have e6 : x6 = (a + b + c + d + p + q + r + s) + 256 * ((b + c + d + p + q + r + s) + 256 * ((c + d + p + q + r + s) + 256 * ((d + p + q + r + s) + 256 * ((p + q + r + s) + 256 * ((q + r + s) + 256 * ((r + s) + 256 * s)))))) := by
      clear h4 h5 e4; omega
    clear h4 h5 h6
    refine ⟨by clear e5 e6; omega, by clear e4 e6; omega, by clear e4 e5; omega, by clear e4 e5; omega⟩
end Go.Proofs.YtngfalbabgpnnaaGreat

namespace Go.Proofs.YtngfalbabgpnnaaGreat
open Go.RowKit

theorem wrap_u64 (n : Int) : IntKind.u64.wrap n = n % 18446744073709551616 := by simp [IntKind.wrap, IntKind.bits, IntKind.signed]
theorem u64_id {x : Int} (h0 : 0 ≤ x) (h : x < 18446744073709551616) : IntKind.u64.wrap x = x := by rw [wrap_u64]; omega
theorem pow_int (n : Nat) : ((2 ^ n : Nat) : Int) = (2 : Int) ^ n := by simp
theorem pow_lt_64 {n : Nat} (h : n < 64) : 2 ^ n ≤ 9223372036854775808 := by
  have := Nat.pow_le_pow_right (n := 2) (by decide) (show n ≤ 63 by omega)
  simpa using this

theorem first_calls (w : World) (n : Nat) (h : n ≤ 64) : Calls Tryz.prog 153 #[.int .i64 (n : Int)] w fun e w' => e = .returned (.int .u64 (((2 ^ n - 1 : Nat) : Int))) ∧ w' = w := by
  by_cases h64 : n = 64
  · subst h64
    go_enter Tryz.func153, Tryz.ntmps153
    go_wp2
    go_ret
    exact ⟨rfl, rfl⟩
  · have hlt : ¬ (64 ≤ (n : Int)) := by omega
    have e : IntKind.u64.wrap (IntKind.u64.wrap ((2 : Int) ^ n) - 1) = ((2 ^ n - 1 : Nat) : Int) := by
      have h1 := pow_lt_64 (show n < 64 by omega)
      have h2 := Nat.two_pow_pos n
      rw [← pow_int, u64_id (x := ((2 ^ n : Nat) : Int)) (by omega) (by omega), u64_id (by omega) (by omega)]
      omega
    have E := hid e
    clear e
    go_enter Tryz.func153, Tryz.ntmps153
    go_wp2
    go_ret
    exact ⟨by rw [← E.out]; rfl, rfl⟩

theorem u64_bits {a b : Nat} (ha : a < 18446744073709551616) (hb : b < 18446744073709551616) : bits .and .u64 (a : Int) (b : Int) = ((a &&& b : Nat) : Int) ∧ bits .or .u64 (a : Int) (b : Int) = ((a ||| b : Nat) : Int) :=
  bits_nat .u64 64 (Nat.le_refl _) (fun n h0 h1 => u64_id h0 (by simpa using h1)) a b (by simpa using ha) (by simpa using hb)

/-- 'x &^ first(n) == 0' of a word of n bits. -/
theorem andNot_first {x n : Nat} (h : n ≤ 64) (hx : x < 2 ^ n) : bits .andNot .u64 (x : Int) ((2 ^ n - 1 : Nat) : Int) = 0 := by
  have e : (BitVec.ofInt IntKind.u64.bits (x : Int) &&& ~~~ BitVec.ofInt IntKind.u64.bits ((2 ^ n - 1 : Nat) : Int)) = 0 := by
    apply BitVec.eq_of_getLsbD_eq
    intro i hi
    simp only [BitVec.ofInt_natCast, BitVec.getLsbD_and, BitVec.getLsbD_not, BitVec.getLsbD_ofNat, hi, decide_true, Bool.true_and]
    by_cases hin : i < n
    · simp [Nat.testBit_two_pow_sub_one, hin]
    · have : x.testBit i = false := Nat.testBit_lt_two_pow (Nat.lt_of_lt_of_le hx (Nat.pow_le_pow_right (by decide) (by omega)))
      simp [this]
  show IntKind.u64.wrap (((BitVec.ofInt IntKind.u64.bits (x : Int) &&& ~~~ BitVec.ofInt IntKind.u64.bits ((2 ^ n - 1 : Nat) : Int)).toNat : Nat) : Int) = 0
  rw [e]; rfl

theorem and_first {x n : Nat} (h : n ≤ 64) (hx : x < 18446744073709551616) : bits .and .u64 (x : Int) ((2 ^ n - 1 : Nat) : Int) = ((x % 2 ^ n : Nat) : Int) := by
  have := pow_le_64 h
  have := Nat.two_pow_pos n
  rw [(u64_bits hx (by omega)).1, Nat.and_two_pow_sub_one_eq_mod]

theorem and_one {x : Nat} (hx : x < 18446744073709551616) : bits .and .u64 (x : Int) 1 = ((x % 2 : Nat) : Int) := by
  have := and_first (n := 1) (by decide) hx
  simpa using this

theorem or_join {a b n : Nat} (ha : a < 2 ^ n) (hb : a + 2 ^ n * b < 18446744073709551616) : bits .or .u64 (a : Int) ((2 ^ n * b : Nat) : Int) = ((a + 2 ^ n * b : Nat) : Int) := by
  rw [(u64_bits (by omega) (by omega)).2, Nat.or_comm, ← Nat.two_pow_add_eq_or_of_lt ha b, Nat.add_comm]

theorem shr_nat (x i : Nat) : (x : Int) / 2 ^ i = ((x / 2 ^ i : Nat) : Int) := by
  rw [Int.natCast_ediv, pow_int]

theorem shl_nat {x i : Nat} (hx : 2 ^ i * x < 18446744073709551616) : IntKind.u64.wrap ((x : Int) * 2 ^ i) = ((2 ^ i * x : Nat) : Int) := by
  rw [← pow_int, ← Int.natCast_mul, Nat.mul_comm, u64_id (by omega) (by omega)]

theorem Right_calls (w : World) (l : List Bool) (h : l.length ≤ 64) : Calls Tryz.prog 150 #[lfV l] w fun e w' => e = .returned (.bool true) ∧ Below w.heap.size w w' := by
  have HF := fun w => first_calls w l.length h
  have hA := andNot_first h (bitsOf_lt l)
  unfold lfV
  generalize bitsOf l = x at hA ⊢
  generalize l.length = n at h HF hA ⊢
  have h1 : (n : Int) ≤ 64 := by omega
  have HA := hid hA
  clear hA
  go_enter Tryz.func150, Tryz.ntmps150
  go_wp2
  go_quiet ((go_at_call 153; exact Calls.quiet_of_same (HF _)))
  go_wp2
  go_ret
  refine ⟨?_, ?_⟩
  · show Ending.returned (.bool (bits .andNot .u64 (x : Int) ((2 ^ n - 1 : Nat) : Int) == 0)) = _
    rw [HA.out]; rfl
  · exact (by repeat (first | with_reducible exact Below.refl _ _ | with_reducible assumption | with_reducible refine bel_drewN ?_ | with_reducible refine bel_drew ?_ | with_reducible refine bel_alloc ?_ _ | with_reducible refine bel_set ?_ _ ?_ | with_reducible refine bel_trans ?_ (by with_reducible assumption) | ((try dsimp only); omega)))

def lGet (l : List Bool) (i : Int) : Bool := decide (0 ≤ i) && l.getD i.toNat false

theorem lGet_neg {l : List Bool} {i : Int} (h : i < 0) : lGet l i = false := by
  have : ¬ (0 ≤ i) := by omega
  simp [lGet, this]
theorem lGet_over {l : List Bool} {i : Nat} (h : l.length ≤ i) : lGet l i = false := by
  simp [lGet, List.getD, List.getElem?_eq_none h]
theorem lGet_in {l : List Bool} {i : Nat} (h : i < l.length) : lGet l i = (bitsOf l / 2 ^ i % 2 == 1) := by
  rw [bitsOf_bit l i h]
  simp only [lGet, List.getD, Int.toNat_natCast, List.getElem?_eq_getElem h]
  cases l[i] <;> simp

set_option maxHeartbeats 400000 in
theorem lGet_calls (w : World) (l : List Bool) (i : Int) (h : l.length ≤ 64) : Calls Tryz.prog 135 #[lfV l, .int .i64 i] w fun e w' => e = .returned (.bool (lGet l i)) ∧ Below w.heap.size w w' := by
  have HR := fun w => Right_calls w l h
  have hx := bitsOf_lt64 h
  by_cases h0 : i < 0
  · have E := hid (lGet_neg (l := l) h0)
    have k0 : ¬ (0 ≤ i) := by omega
    unfold lfV at HR ⊢
    generalize bitsOf l = x at HR hx ⊢
    generalize l.length = n at h HR ⊢
    go_enter Tryz.func135, Tryz.ntmps135
    go_wp2_with (go_at_call 150; refine (HR _).mono ?_; rintro e w' ⟨rfl, hb⟩; obtain ⟨hc, hf⟩ := bcell hb)
    go_ret
    exact ⟨by rw [E.out]; rfl, (by repeat (first | with_reducible exact Below.refl _ _ | with_reducible assumption | with_reducible refine bel_drewN ?_ | with_reducible refine bel_drew ?_ | with_reducible refine bel_alloc ?_ _ | with_reducible refine bel_set ?_ _ ?_ | with_reducible refine bel_trans ?_ (by with_reducible assumption) | ((try dsimp only); omega)))⟩
  · obtain ⟨k, rfl⟩ := Int.eq_ofNat_of_zero_le (show 0 ≤ i by omega)
    by_cases hk : k < l.length
    · have E := hid (lGet_in hk)
      have k1 : (k : Int) < (l.length : Int) := by omega
      have k2 : (k : Int) ≤ 64 := by omega
      have hs := hid (shr_nat (bitsOf l) k)
      have ha := hid (and_one (x := bitsOf l / 2 ^ k) (Nat.lt_of_le_of_lt (Nat.div_le_self _ _) hx))
      unfold lfV at HR ⊢
      generalize bitsOf l = x at HR hx hs ha E ⊢
      generalize l.length = n at h HR k1 ⊢
      go_enter Tryz.func135, Tryz.ntmps135
      go_wp2_with (go_at_call 150; refine (HR _).mono ?_; rintro e w' ⟨rfl, hb⟩; obtain ⟨hc, hf⟩ := bcell hb)
      go_ret
      refine ⟨?_, (by repeat (first | with_reducible exact Below.refl _ _ | with_reducible assumption | with_reducible refine bel_drewN ?_ | with_reducible refine bel_drew ?_ | with_reducible refine bel_alloc ?_ _ | with_reducible refine bel_set ?_ _ ?_ | with_reducible refine bel_trans ?_ (by with_reducible assumption) | ((try dsimp only); omega)))⟩
      show Ending.returned (.bool (bits .and .u64 ((x : Int) / 2 ^ k) 1 == 1)) = _
      rw [hs.out, ha.out, E.out]
      have : ((((x / 2 ^ k % 2 : Nat) : Int)) == 1) = (x / 2 ^ k % 2 == 1) := by
        generalize x / 2 ^ k % 2 = y
        rw [Bool.eq_iff_iff, beq_iff_eq, beq_iff_eq]; omega
      rw [this]
    · have E := hid (lGet_over (l := l) (i := k) (by omega))
      have k1 : ¬ ((k : Int) < (l.length : Int)) := by omega
      unfold lfV at HR ⊢
      generalize bitsOf l = x at HR hx ⊢
      generalize l.length = n at h HR k1 ⊢
      go_enter Tryz.func135, Tryz.ntmps135
      go_wp2_with (go_at_call 150; refine (HR _).mono ?_; rintro e w' ⟨rfl, hb⟩; obtain ⟨hc, hf⟩ := bcell hb)
      go_ret
      exact ⟨by rw [E.out]; rfl, (by repeat (first | with_reducible exact Below.refl _ _ | with_reducible assumption | with_reducible refine bel_drewN ?_ | with_reducible refine bel_drew ?_ | with_reducible refine bel_alloc ?_ _ | with_reducible refine bel_set ?_ _ ?_ | with_reducible refine bel_trans ?_ (by with_reducible assumption) | ((try dsimp only); omega)))⟩

theorem i64_and {a b : Nat} (ha : a < 9223372036854775808) (hb : b < 9223372036854775808) : bits .and .i64 (a : Int) (b : Int) = ((a &&& b : Nat) : Int) :=
  (bits_nat .i64 63 (by decide) (fun n h0 h1 => by
    have : n < 9223372036854775808 := by simpa using h1
    simp [IntKind.wrap, IntKind.bits, IntKind.signed]; omega) a b (by simpa using ha) (by simpa using hb)).1

set_option maxHeartbeats 1000000 in
theorem OnesCount_calls (w : World) (l : List Bool) (h : l.length ≤ 64) : Calls Tryz.prog 174 #[.int .u64 (bitsOf l : Int)] w fun e w' => e = .returned (.int .i64 (l.count true : Int)) ∧ w' = w := by
  have hx := bitsOf_lt64 h
  have L0 := digs_len h
  have D0 := digs_le l
  have S0 := digs_sum l
  have V0 := digs_val l
  have P1 := fold_pair 1 32 (digs l) (by omega) (fun d hd => by have := D0 d hd; omega)
  have L1 := ps_length 32 (digs l) (by omega)
  have D1 := ps_le 32 (digs l) (by omega) D0
  have S1 := ps_sum 32 (digs l) (by omega)
  generalize ps (digs l) = d1 at *
  have P2 := fold_pair 2 16 d1 (by omega) (fun d hd => by have := D1 d hd; omega)
  have L2 := ps_length 16 d1 (by omega)
  have D2 := ps_le 16 d1 (by omega) D1
  have S2 := ps_sum 16 d1 (by omega)
  have B1 := val_lt (B := 4) d1 (fun d hd => by have := D1 d hd; omega)
  rw [L1] at B1
  generalize ps d1 = d2 at *
  have P3 := fold_nib 8 d2 (by omega) (fun d hd => by have := D2 d hd; omega)
  have L3 := ps_length 8 d2 (by omega)
  have D3 := ps_le 8 d2 (by omega) D2
  have S3 := ps_sum 8 d2 (by omega)
  have B2 := val_lt (B := 16) d2 (fun d hd => by have := D2 d hd; omega)
  have B2' := val_lt (B := 8) d2 (fun d hd => by have := D2 d hd; omega)
  rw [L2] at B2
  generalize ps d2 = d3 at *
  have hm1 : val (2 ^ (1 + 1)) (List.replicate 32 (2 ^ 1 - 1)) = 6148914691236517205 := by decide
  have hm2 : val (2 ^ (2 + 2)) (List.replicate 16 (2 ^ 2 - 1)) = 3689348814741910323 := by decide
  have hm3 : val 256 (List.replicate 8 15) = 1085102592571150095 := by decide
  rw [hm1] at P1
  rw [hm2] at P2
  rw [hm3] at P3
  rw [show (2 : Nat) ^ 1 = 2 from rfl, V0, show (2 : Nat) ^ (1 + 1) = 4 from rfl] at P1
  rw [show (2 : Nat) ^ 2 = 4 from rfl, show (2 : Nat) ^ (2 + 2) = 16 from rfl] at P2
  have Y3 : val 16 d2 / 16 + val 16 d2 < 18446744073709551616 := by
    have nib : ∀ d2 : List Nat, (∀ d ∈ d2, d ≤ 4) → val 16 d2 / 16 + val 16 d2 < 16 ^ d2.length := by
      intro d2
      induction d2 with
      | nil => intro _; simp [val]
      | cons a r ih =>
        intro hd
        have := ih (fun d h => hd d (by simp [h]))
        have := hd a (by simp)
        have hv : val 16 r % 16 ≤ 4 := by
          cases r with
          | nil => simp [val]
          | cons c q => have := hd c (by simp); simp only [val]; omega
        simp only [val, List.length_cons, Nat.pow_succ]
        omega
    have := nib d2 (fun d hd => by have := D2 d hd; omega)
    rw [L2] at this
    exact this
  obtain ⟨x4, h4⟩ : ∃ x, x = val 256 d3 + val 256 d3 / 256 := ⟨_, rfl⟩
  obtain ⟨x5, h5⟩ : ∃ x, x = x4 + x4 / 65536 := ⟨_, rfl⟩
  obtain ⟨x6, h6⟩ : ∃ x, x = x5 + x5 / 4294967296 := ⟨_, rfl⟩
  obtain ⟨B4, B5, B6, F⟩ := fold_bytes L3 (fun d hd => by have := D3 d hd; omega) h4 h5 h6
  have B1' : val 4 d1 < 18446744073709551616 := B1
  have B2'' : val 16 d2 < 18446744073709551616 := B2
  have B3 : val 256 d3 < 18446744073709551616 := by omega
  have a1 := (u64_bits (a := bitsOf l / 2) (b := 6148914691236517205) (by omega) (by omega)).1
  have b1 := (u64_bits (a := bitsOf l) (b := 6148914691236517205) (by omega) (by omega)).1
  have a2 := (u64_bits (a := val 4 d1 / 4) (b := 3689348814741910323) (by omega) (by omega)).1
  have b2 := (u64_bits (a := val 4 d1) (b := 3689348814741910323) (by omega) (by omega)).1
  have a3 := (u64_bits (a := val 16 d2 / 16 + val 16 d2) (b := 1085102592571150095) Y3 (by omega)).1
  rw [P3] at a3
  have a6 := i64_and (a := x6) (b := 127) B6 (by omega)
  rw [show (127 : Nat) = 2 ^ 7 - 1 from rfl, Nat.and_two_pow_sub_one_eq_mod, show (2 : Nat) ^ 7 = 128 from rfl, F, S3, S2, S1, S0] at a6
  generalize bitsOf l / 2 &&& 6148914691236517205 = p1 at a1 P1
  generalize bitsOf l &&& 6148914691236517205 = q1 at b1 P1
  generalize val 4 d1 / 4 &&& 3689348814741910323 = p2 at a2 P2
  generalize val 4 d1 &&& 3689348814741910323 = q2 at b2 P2
  generalize hX1 : val 4 d1 = X1 at *
  generalize hX2 : val 16 d2 = X2 at *
  generalize hX3 : val 256 d3 = X3 at *
  have c1 : IntKind.u64.wrap ((p1 : Int) + q1) = (X1 : Int) := by rw [← Int.natCast_add, P1]; exact u64_id (by omega) (by omega)
  have c2 : IntKind.u64.wrap ((p2 : Int) + q2) = (X2 : Int) := by rw [← Int.natCast_add, P2]; exact u64_id (by omega) (by omega)
  have c3 : IntKind.u64.wrap ((X2 : Int) / 16 + X2) = ((X2 / 16 + X2 : Nat) : Int) := by rw [Int.natCast_add, Int.natCast_ediv]; exact u64_id (by omega) (by omega)
  have c4 : IntKind.u64.wrap ((X3 : Int) + (X3 : Int) / 256) = (x4 : Int) := by rw [h4, Int.natCast_add, Int.natCast_ediv]; exact u64_id (by omega) (by omega)
  have c5 : IntKind.u64.wrap ((x4 : Int) + (x4 : Int) / 65536) = (x5 : Int) := by rw [h5, Int.natCast_add, Int.natCast_ediv]; exact u64_id (by omega) (by omega)
  have c6 : IntKind.u64.wrap ((x5 : Int) + (x5 : Int) / 4294967296) = (x6 : Int) := by rw [h6, Int.natCast_add, Int.natCast_ediv]; exact u64_id (by omega) (by omega)
  have c7 : IntKind.i64.wrap (x6 : Int) = (x6 : Int) := by simp [IntKind.wrap, IntKind.bits, IntKind.signed]; omega
  have a1 : bits .and .u64 ((bitsOf l : Int) / 2) 6148914691236517205 = (p1 : Int) := by rw [Int.natCast_ediv] at a1; exact a1
  have b1 : bits .and .u64 (bitsOf l : Int) 6148914691236517205 = (q1 : Int) := b1
  have a2 : bits .and .u64 ((X1 : Int) / 4) 3689348814741910323 = (p2 : Int) := by rw [Int.natCast_ediv] at a2; exact a2
  have b2 : bits .and .u64 (X1 : Int) 3689348814741910323 = (q2 : Int) := b2
  generalize hY3 : X2 / 16 + X2 = Y at *
  have a3 : bits .and .u64 (Y : Int) 1085102592571150095 = (X3 : Int) := a3
  have a6 : bits .and .i64 (x6 : Int) 127 = (l.count true : Int) := a6
  clear P1 P2 P3 L0 L1 L2 L3 D0 D1 D2 D3 S0 S1 S2 S3 V0 B1 B2 B2' B4 B5 B6 F h4 h5 h6 hm1 hm2 hm3 B1' B2'' B3 hX1 hX2 hX3 hY3 Y3 hx
  generalize bitsOf l = x at *
  generalize l.count true = c at *
  clear h
  go_enter Tryz.func174, Tryz.ntmps174
  go_wp2
  go_ret
  exact ⟨rfl, rfl⟩

set_option maxHeartbeats 1000000 in
theorem lRank_calls (w : World) (l : List Bool) (m : Nat) (h : l.length ≤ 64) (hml : m ≤ l.length) : Calls Tryz.prog 148 #[lfV l, .int .i64 (m : Int)] w fun e w' => e = .returned (.int .i64 ((l.take m).count true : Int)) ∧ Below w.heap.size w w' := by
  have HR := fun w => Right_calls w l h
  have hx := bitsOf_lt64 h
  have HF := fun w => first_calls w m (by omega)
  have HO := fun w => OnesCount_calls w (l.take m) (by rw [List.length_take]; omega)
  rw [bitsOf_take l m hml, ← and_first (x := bitsOf l) (n := m) (by omega) hx] at HO
  unfold lfV at HR ⊢
  generalize (l.take m).count true = c at HO ⊢
  generalize bitsOf l = x at HR hx HO ⊢
  generalize l.length = n at h HR hml ⊢
  have h1 : (m : Int) ≤ (n : Int) := by omega
  have h2 : 0 ≤ (m : Int) := by omega
  go_enter Tryz.func148, Tryz.ntmps148
  go_wp2_with (go_at_call 150; refine (HR _).mono ?_; rintro e w' ⟨rfl, hb⟩; obtain ⟨hc, hf⟩ := bcell hb)
  have l0 : w'.cell? ⟨w.heap.size, 0, none⟩ = some (.int .u64 x) := by go_simp
  have l1 : w'.cell? ⟨w.heap.size, 1, none⟩ = some (.int .i64 n) := by go_simp
  go_quiet ((first | (go_at_call 153; exact Calls.quiet_of_same (HF _)) | (go_at_call 174; exact Calls.quiet_of_same (HO _))))
  go_wp2
  go_ret
  exact ⟨rfl, (by repeat (first | with_reducible exact Below.refl _ _ | with_reducible assumption | with_reducible refine bel_drewN ?_ | with_reducible refine bel_drew ?_ | with_reducible refine bel_alloc ?_ _ | with_reducible refine bel_set ?_ _ ?_ | with_reducible refine bel_trans ?_ (by with_reducible assumption) | ((try dsimp only); omega)))⟩

set_option maxHeartbeats 1000000 in
/-- The halves of a split. -/
theorem lSplit_calls (w : World) (l : List Bool) (m : Nat) (h : l.length ≤ 64) (hml : m ≤ l.length) : Calls Tryz.prog 123 #[lfV l, .int .i64 (m : Int)] w fun e w' => e = .returned (.tuple #[lfV (l.take m), lfV (l.drop m)]) ∧ Below w.heap.size w w' := by
  have HR := fun w => Right_calls w l h
  have hx := bitsOf_lt64 h
  have HF := fun w => first_calls w m (by omega)
  unfold lfV at HR ⊢
  rw [bitsOf_take l m hml, bitsOf_drop l m hml, List.length_take, List.length_drop, Nat.min_eq_left hml]
  have ha := hid (and_first (x := bitsOf l) (n := m) (by omega) hx)
  have hs := hid (shr_nat (bitsOf l) m)
  have hn := hid (show ((l.length - m : Nat) : Int) = (l.length : Int) - m by omega)
  generalize bitsOf l = x at HR hx hs ha ⊢
  generalize l.length = n at h HR hml hn ⊢
  have h1 : (m : Int) ≤ (n : Int) := by omega
  have h2 : 0 ≤ (m : Int) := by omega
  have h3 : (n : Int) ≤ 64 := by omega
  go_enter Tryz.func123, Tryz.ntmps123
  go_wp2_with (go_at_call 150; refine (HR _).mono ?_; rintro e w' ⟨rfl, hb⟩; obtain ⟨hc, hf⟩ := bcell hb)
  have l0 : w'.cell? ⟨w.heap.size, 0, none⟩ = some (.int .u64 x) := by go_simp
  have l1 : w'.cell? ⟨w.heap.size, 1, none⟩ = some (.int .i64 n) := by go_simp
  have hz := hb.size
  go_region_held3 (fun w' => w'.cell? ⟨w.heap.size, 0, none⟩ = some (.int .u64 x) ∧ w'.cell? ⟨w.heap.size, 1, none⟩ = some (.int .i64 n))
    ((refine ⟨?_, ?_⟩ <;> rw [World.cell?_drew] <;> (repeat rw [World.cell?_setCell_other _ _ _ _ (fun h => by injection h; omega)]) <;> assumption)) ((go_at_call 153; refine (HF _).mono ?_; rintro e w' ⟨rfl, rfl⟩))
  go_wp2
  refine bodyPost_ret (v := .tuple #[.agg #[.int .u64 (bits .and .u64 (x : Int) ((2 ^ m - 1 : Nat) : Int)), .int .i64 m], .agg #[.int .u64 ((x : Int) / 2 ^ m), .int .i64 ((n : Int) - m)]]) ?_ rfl ⟨by rw [ha.out, hs.out, hn.out], (by repeat (first | with_reducible exact Below.refl _ _ | with_reducible assumption | with_reducible refine bel_drewN ?_ | with_reducible refine bel_drew ?_ | with_reducible refine bel_alloc ?_ _ | with_reducible refine bel_set ?_ _ ?_ | with_reducible refine bel_trans ?_ (by with_reducible assumption) | ((try dsimp only); omega)))⟩
  simp [results, Tryz.results123, go_sem, hc]
  rw [IntKind.wrap_i64]
  omega

theorem or_bits {a b : List Bool} (h : a.length + b.length ≤ 64) : bits .or .u64 (bitsOf a : Int) (IntKind.u64.wrap ((bitsOf b : Int) * 2 ^ a.length)) = ((bitsOf (a ++ b) : Nat) : Int) := by
  have h1 : bitsOf (a ++ b) < 18446744073709551616 := bitsOf_lt64 (by rw [List.length_append]; exact h)
  rw [bitsOf_append] at h1 ⊢
  rw [shl_nat (by omega), or_join (bitsOf_lt a) h1]

set_option maxHeartbeats 1000000 in
/-- Two leaves put together, if they have room. -/
theorem lJoin_calls (w : World) (a b : List Bool) (ha : a.length ≤ 64) (hb : b.length ≤ 64) : Calls Tryz.prog 151 #[lfV a, lfV b] w fun e w' =>
    e = .returned (.tuple #[if a.length + b.length ≤ 64 then lfV (a ++ b) else lfV [], .bool (decide (a.length + b.length ≤ 64))]) ∧ Below w.heap.size w w' := by
  have HR := fun w => Right_calls w a ha
  have HS := fun w => Right_calls w b hb
  by_cases hs : a.length + b.length ≤ 64
  · have ho := hid (or_bits hs)
    rw [if_pos hs, decide_eq_true hs]
    have hl := hid (show (((a ++ b).length : Nat) : Int) = (a.length : Int) + b.length by rw [List.length_append]; omega)
    unfold lfV at HR HS ⊢
    generalize bitsOf a = x at HR ho ⊢
    generalize bitsOf b = y at HS ho ⊢
    generalize bitsOf (a ++ b) = z at ho ⊢
    generalize (a ++ b).length = k at hl ⊢
    generalize a.length = n at *
    generalize b.length = m at *
    have h1 : (n : Int) + m ≤ 64 := by omega
    have h2 : (n : Int) ≤ 64 := by omega
    have h3 : (m : Int) ≤ 64 := by omega
    go_enter Tryz.func151, Tryz.ntmps151
    go_wp2_with fail
    refine (HR _).mono ?_; rintro e w1 ⟨rfl, hb1⟩; obtain ⟨hc1, hf1⟩ := bcell hb1
    have zz := hb1.size; (try simp only [World.size_alloc, World.size_drew, World.size_setCell] at zz); have : w.heap.size < w1.heap.size := (by omega); have : w.heap.size + 1 < w1.heap.size := (by omega); have : w.heap.size + 1 + 1 < w1.heap.size := (by omega); clear zz
    go_wp2_with fail
    refine (HS _).mono ?_; rintro e w2 ⟨rfl, hb2⟩; obtain ⟨hc2, hf2⟩ := bcell hb2
    go_wp2
    go_region
    go_wp2
    refine bodyPost_ret (v := .tuple #[.agg #[.int .u64 (bits .or .u64 (x : Int) (IntKind.u64.wrap ((y : Int) * 2 ^ n))), .int .i64 ((n : Int) + m)], .bool true]) ?_ rfl ⟨by rw [ho.out, hl.out], (by repeat (first | with_reducible exact Below.refl _ _ | with_reducible assumption | with_reducible refine bel_drewN ?_ | with_reducible refine bel_drew ?_ | with_reducible refine bel_alloc ?_ _ | with_reducible refine bel_set ?_ _ ?_ | with_reducible refine bel_trans ?_ (by with_reducible assumption) | ((try dsimp only); omega)))⟩
    simp [results, Tryz.results151, go_sem, *]
  · rw [if_neg hs, decide_eq_false hs]
    unfold lfV at HR HS ⊢
    generalize bitsOf a = x at HR ⊢
    generalize bitsOf b = y at HS ⊢
    generalize a.length = n at *
    generalize b.length = m at *
    have h1 : 64 < (n : Int) + m := by omega
    have h2 : (n : Int) ≤ 64 := by omega
    have h3 : (m : Int) ≤ 64 := by omega
    go_enter Tryz.func151, Tryz.ntmps151
    go_wp2_with fail
    refine (HR _).mono ?_; rintro e w1 ⟨rfl, hb1⟩; obtain ⟨hc1, hf1⟩ := bcell hb1
    have zz := hb1.size; (try simp only [World.size_alloc, World.size_drew, World.size_setCell] at zz); have : w.heap.size < w1.heap.size := (by omega); have : w.heap.size + 1 < w1.heap.size := (by omega); have : w.heap.size + 1 + 1 < w1.heap.size := (by omega); clear zz
    go_wp2_with fail
    refine (HS _).mono ?_; rintro e w2 ⟨rfl, hb2⟩; obtain ⟨hc2, hf2⟩ := bcell hb2
    go_wp2
    refine bodyPost_ret (v := .tuple #[.agg #[.int .u64 0, .int .i64 0], .bool false]) ?_ rfl ⟨rfl, (by repeat (first | with_reducible exact Below.refl _ _ | with_reducible assumption | with_reducible refine bel_drewN ?_ | with_reducible refine bel_drew ?_ | with_reducible refine bel_alloc ?_ _ | with_reducible refine bel_set ?_ _ ?_ | with_reducible refine bel_trans ?_ (by with_reducible assumption) | ((try dsimp only); omega)))⟩
    simp [results, Tryz.results151, go_sem, *]

end Go.Proofs.YtngfalbabgpnnaaGreat

namespace Go.Proofs.YtngfalbabgpnnaaGreat
open Go.RowKit

theorem bitsOf_snoc (l : List Bool) (b : Bool) : bitsOf (l ++ [b]) = bitsOf l + 2 ^ l.length * b.toNat := by
  rw [bitsOf_append]; simp [bitsOf]

set_option maxHeartbeats 1000000 in
/-- A leaf that is full takes no bit more. -/
theorem lInsert_full (w : World) (l : List Bool) (m : Nat) (one : Bool) (hl : l.length = 64) (hm : m ≤ l.length) : Calls Tryz.prog 120 #[lfV l, .int .i64 (m : Int), .bool one] w fun e w' =>
    e = .returned (.tuple #[lfV [], .bool false]) ∧ Below w.heap.size w w' := by
  have HR := fun w => Right_calls w l (by omega)
  rw [hl] at hm
  unfold lfV at HR ⊢
  rw [hl] at HR ⊢
  generalize bitsOf l = x at HR ⊢
  clear hl
  have h1 : ¬ ((m : Int) < 0) := by omega
  have h2 : ¬ ((64 : Int) < (m : Int)) := by omega
  go_enter Tryz.func120, Tryz.ntmps120
  go_wp2_with fail
  refine (HR _).mono ?_; rintro e w1 ⟨rfl, hb1⟩; obtain ⟨hc1, hf1⟩ := bcell hb1
  have zz := hb1.size; (try simp only [World.size_alloc, World.size_drew, World.size_setCell] at zz); have : w.heap.size < w1.heap.size := (by omega); have : w.heap.size + 1 < w1.heap.size := (by omega); clear zz
  go_wp2
  refine bodyPost_ret (v := .tuple #[.agg #[.int .u64 0, .int .i64 0], .bool false]) ?_ rfl ⟨rfl, (by repeat (first | with_reducible exact Below.refl _ _ | with_reducible assumption | with_reducible refine bel_drewN ?_ | with_reducible refine bel_drew ?_ | with_reducible refine bel_alloc ?_ _ | with_reducible refine bel_set ?_ _ ?_ | with_reducible refine bel_trans ?_ (by with_reducible assumption) | ((try dsimp only); omega)))⟩
  simp [results, Tryz.results120, go_sem, *]

set_option maxHeartbeats 2000000 in
set_option maxRecDepth 100000 in
theorem lInsert_room (w : World) (l : List Bool) (m : Nat) (one : Bool) (hl : l.length < 64) (hm : m ≤ l.length) : Calls Tryz.prog 120 #[lfV l, .int .i64 (m : Int), .bool one] w fun e w' =>
    e = .returned (.tuple #[lfV (l.take m ++ one :: l.drop m), .bool true]) ∧ Below w.heap.size w w' := by
  have HR := fun w => Right_calls w l (by omega)
  have HS := fun w => lSplit_calls w l m (by omega) hm
  have hlen : (l.take m ++ [one]).length + (l.drop m).length ≤ 64 := by simp; omega
  have HJ := fun w => lJoin_calls w (l.take m ++ [one]) (l.drop m) (by simp; omega) (by simp; omega)
  rw [if_pos hlen, decide_eq_true hlen, List.append_assoc, List.singleton_append] at HJ
  have ht : (l.take m).length = m := by rw [List.length_take]; omega
  have hb0 := or_bits (a := l.take m) (b := [true]) (by simp; omega)
  rw [ht] at hb0
  have ho := hid (show bits .or .u64 (bitsOf (l.take m) : Int) (IntKind.u64.wrap ((2 : Int) ^ m)) = ((bitsOf (l.take m ++ [true]) : Nat) : Int) by
    rw [← hb0]; simp [bitsOf])
  have hz : bitsOf (l.take m ++ [false]) = bitsOf (l.take m) := by rw [bitsOf_snoc]; simp
  unfold lfV at HR HS HJ ⊢
  generalize bitsOf (l.take m ++ one :: l.drop m) = z at HJ ⊢
  generalize (l.take m ++ one :: l.drop m).length = k at HJ ⊢
  have hl1 : (l.take m ++ [one]).length = m + 1 := by simp; omega
  rw [hl1] at HJ
  rw [ht] at HS
  generalize bitsOf l = x at HR HS ⊢
  have hxl : (l.length : Int) < 64 := by omega
  have h1 : ¬ ((m : Int) < 0) := by omega
  have h2 : ¬ ((l.length : Int) < (m : Int)) := by omega
  have h3 : ((l.length : Int) == 64) = false := by simp; omega
  have h4 : (m : Int) ≤ 64 := by omega
  generalize (l.drop m).length = dl at HS HJ
  generalize bitsOf (l.drop m) = db at HS HJ
  cases one with
  | true =>
    generalize bitsOf (l.take m ++ [true]) = tb' at HJ ho
    generalize bitsOf (l.take m) = tb at HS ho
    generalize l.length = n at *
    go_enter Tryz.func120, Tryz.ntmps120
    go_wp2_with fail
    refine (HR _).mono ?_; rintro e w1 ⟨rfl, hb1⟩; obtain ⟨hc1, hf1⟩ := bcell hb1
    have zz := hb1.size; (try simp only [World.size_alloc, World.size_drew, World.size_setCell] at zz); have : w.heap.size < w1.heap.size := (by omega); have : w.heap.size + 1 < w1.heap.size := (by omega); clear zz
    go_wp2_with fail
    refine (HS _).mono ?_; rintro e w2 ⟨rfl, hb2⟩; obtain ⟨hc2, hf2⟩ := bcell hb2
    have zz := hb2.size; (try simp only [World.size_alloc, World.size_drew, World.size_setCell] at zz); have : w.heap.size < w2.heap.size := (by omega); have : w.heap.size + 1 < w2.heap.size := (by omega); clear zz
    go_wp2
    go_region
    rw [← ho.out] at HJ
    simp only [Int.natCast_add, Int.cast_ofNat_Int] at HJ
    go_wp2_with fail
    refine (HJ _).mono ?_; rintro e w3 ⟨rfl, hb3⟩; obtain ⟨hc3, hf3⟩ := bcell hb3
    have zz := hb3.size; (try simp only [World.size_alloc, World.size_drew, World.size_setCell] at zz); have : w.heap.size < w3.heap.size := (by omega); have : w.heap.size + 1 < w3.heap.size := (by omega); clear zz
    have k0 : w3.cell? ⟨w.heap.size + 1, 0, none⟩ = some (.int .u64 0) := by go_simp
    have k1 : w3.cell? ⟨w.heap.size + 1, 1, none⟩ = some (.int .i64 0) := by go_simp
    go_wp2
    refine bodyPost_ret (v := .tuple #[.agg #[.int .u64 z, .int .i64 k], .bool true]) ?_ rfl ⟨rfl, (by repeat (first | with_reducible exact Below.refl _ _ | with_reducible assumption | with_reducible refine bel_drewN ?_ | with_reducible refine bel_drew ?_ | with_reducible refine bel_alloc ?_ _ | with_reducible refine bel_set ?_ _ ?_ | with_reducible refine bel_trans ?_ (by with_reducible assumption) | ((try dsimp only); omega)))⟩
    simp [results, Tryz.results120, go_sem, *]
  | false =>
    rw [hz] at HJ
    clear hz ho hb0
    generalize bitsOf (l.take m) = tb at HS HJ
    generalize l.length = n at *
    go_enter Tryz.func120, Tryz.ntmps120
    go_wp2_with fail
    refine (HR _).mono ?_; rintro e w1 ⟨rfl, hb1⟩; obtain ⟨hc1, hf1⟩ := bcell hb1
    have zz := hb1.size; (try simp only [World.size_alloc, World.size_drew, World.size_setCell] at zz); have : w.heap.size < w1.heap.size := (by omega); have : w.heap.size + 1 < w1.heap.size := (by omega); clear zz
    go_wp2_with fail
    refine (HS _).mono ?_; rintro e w2 ⟨rfl, hb2⟩; obtain ⟨hc2, hf2⟩ := bcell hb2
    have zz := hb2.size; (try simp only [World.size_alloc, World.size_drew, World.size_setCell] at zz); have : w.heap.size < w2.heap.size := (by omega); have : w.heap.size + 1 < w2.heap.size := (by omega); clear zz
    simp only [Int.natCast_add, Int.cast_ofNat_Int] at HJ
    go_wp2_with fail
    refine (HJ _).mono ?_; rintro e w3 ⟨rfl, hb3⟩; obtain ⟨hc3, hf3⟩ := bcell hb3
    have zz := hb3.size; (try simp only [World.size_alloc, World.size_drew, World.size_setCell] at zz); have : w.heap.size < w3.heap.size := (by omega); have : w.heap.size + 1 < w3.heap.size := (by omega); clear zz
    have k0 : w3.cell? ⟨w.heap.size + 1, 0, none⟩ = some (.int .u64 0) := by go_simp
    have k1 : w3.cell? ⟨w.heap.size + 1, 1, none⟩ = some (.int .i64 0) := by go_simp
    go_wp2
    refine bodyPost_ret (v := .tuple #[.agg #[.int .u64 z, .int .i64 k], .bool true]) ?_ rfl ⟨rfl, (by repeat (first | with_reducible exact Below.refl _ _ | with_reducible assumption | with_reducible refine bel_drewN ?_ | with_reducible refine bel_drew ?_ | with_reducible refine bel_alloc ?_ _ | with_reducible refine bel_set ?_ _ ?_ | with_reducible refine bel_trans ?_ (by with_reducible assumption) | ((try dsimp only); omega)))⟩
    simp [results, Tryz.results120, go_sem, *]
end Go.Proofs.YtngfalbabgpnnaaGreat
