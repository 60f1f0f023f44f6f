/- Plain law: the small functions of the two readers. -/
import Derived.Test.YtknccfhaoclimaaDoorL

set_option linter.unusedVariables false
set_option linter.unusedSimpArgs false
namespace Go.Ab
open Go
abbrev Nd := Int × List Int × List (List Int) × List Int × Unit

theorem wrapI {x : Int} (h1 : -4611686018427387904 ≤ x) (h2 : x ≤ 4611686018427387904) : IntKind.i64.wrap x = x := by
  simp [IntKind.wrap, IntKind.bits, IntKind.signed]; omega
theorem bif_if {α : Type} (c : Bool) (x y : α) : (bif c then x else y) = if c = true then x else y := by cases c <;> rfl

/-! ### Runs -/
def run (p : Int → Bool) (b : List Int) (i : Nat) : Nat := i + ((b.drop i).takeWhile p).length
theorem drop_at {b : List Int} {i : Nat} (h : i < b.length) : b.drop i = b.getD i 0 :: b.drop (i + 1) := by
  rw [List.drop_eq_getElem_cons h]; simp [h]
theorem run_step {p : Int → Bool} {b : List Int} {i : Nat} (h : i < b.length) (hp : p (b.getD i 0) = true) : run p b i = run p b (i + 1) := by
  unfold run
  rw [drop_at h, List.takeWhile_cons, if_pos hp]
  simp; omega
theorem run_stop {p : Int → Bool} {b : List Int} {i : Nat} (h : i < b.length → p (b.getD i 0) = false) : run p b i = i := by
  unfold run
  by_cases hl : i < b.length
  · rw [drop_at hl, List.takeWhile_cons, if_neg (by rw [h hl]; simp)]; rfl
  · rw [List.drop_eq_nil_of_le (by omega)]; rfl
theorem run_ge (p : Int → Bool) (b : List Int) (i : Nat) : i ≤ run p b i := Nat.le_add_right ..
theorem run_le {p : Int → Bool} {b : List Int} {i : Nat} (h : i ≤ b.length) : run p b i ≤ b.length := by
  unfold run
  have := (List.takeWhile_prefix (p := p) (l := b.drop i)).length_le
  simp at this; omega
theorem run_end {p : Int → Bool} {b : List Int} {i : Nat} (hi : i ≤ b.length) (h : run p b i < b.length) : p (b.getD (run p b i) 0) = false := by
  induction hn : b.length - i generalizing i with
  | zero => have := run_ge p b i; omega
  | succ n ih =>
    have hl : i < b.length := by omega
    cases hp : p (b.getD i 0) with
    | true =>
      rw [run_step hl hp] at h ⊢
      exact ih (by omega) h (by omega)
    | false => rw [run_stop (fun _ => hp)]; exact hp
def isBl (c : Int) : Bool := decide (c = 32) || (decide (c = 9) || (decide (c = 10) || decide (c = 13)))
def isDg (c : Int) : Bool := decide (48 ≤ c) && decide (c ≤ 57)
abbrev sk := run isBl
abbrev dg := run isDg

variable {b : List Int} {i : Nat} {deep err e c : Int} {nodes : List Nd}
theorem getD_cast : b.getD (i : Int).toNat 0 = b.getD i 0 := by simp

/-! ### The small ones -/
theorem S_fail {at_ : Int} : S.fail e b at_ deep err nodes = some (b, at_, deep, if err = 0 then e else err, nodes) := by
  simp only [S.fail, fail_m, fail_t]; by_cases h : err = 0 <;> simp [h]
theorem S_bad {at_ : Int} : S.bad e b at_ deep err nodes = some (b, at_, deep, if err = 0 then e else err, nodes) := by
  simp only [S.bad, bad_m, bad_t]; by_cases h : err = 0 <;> simp [h]
theorem here_loop : ∀ (k i : Nat), i ≤ b.length → b.length ≤ 4096 → b.length - i < k → here_m1 k b i deep 0 nodes = some (b.getD (sk b i) 0, b, (sk b i : Int), deep, 0, nodes)
  | 0, i, _, _, h => by omega
  | k + 1, i, hi, hb, h => by
    simp only [here_m1, here_t1, getD_cast]
    by_cases hl : i < b.length
    · have h1 : ((i : Int) < (b.length : Int)) := by omega
      have h2 : (0 : Int) ≤ (i : Int) := by omega
      have hw : IntKind.i64.wrap ((i : Int) + 1) = ((i + 1 : Nat) : Int) := by rw [wrapI (by omega) (by omega)]; omega
      simp only [h1, h2, hw, decide_true, cond_true]
      have ih := here_loop k (i + 1) (by omega) hb (by omega)
      by_cases c1 : b.getD i 0 = 32
      · simp only [c1, decide_true, cond_true]; rw [ih, sk, run_step hl (by rw [c1]; rfl)]
      by_cases c2 : b.getD i 0 = 9
      · simp only [c2, decide_true, cond_true]; rw [show decide ((9 : Int) = 32) = false by decide]; simp only [cond_false]; rw [ih, sk, run_step hl (by rw [c2]; rfl)]
      by_cases c3 : b.getD i 0 = 10
      · simp only [c3, decide_true, cond_true]; rw [show decide ((10 : Int) = 32) = false by decide, show decide ((10 : Int) = 9) = false by decide]; simp only [cond_false]; rw [ih, sk, run_step hl (by rw [c3]; rfl)]
      by_cases c4 : b.getD i 0 = 13
      · simp only [c4, decide_true, cond_true]; rw [show decide ((13 : Int) = 32) = false by decide, show decide ((13 : Int) = 9) = false by decide, show decide ((13 : Int) = 10) = false by decide]; simp only [cond_false]; rw [ih, sk, run_step hl (by rw [c4]; rfl)]
      simp only [c1, c2, c3, c4, decide_false, cond_false]
      rw [sk, run_stop (fun _ => by simp only [isBl, c1, c2, c3, c4, decide_false, Bool.or_self])]
    · have h1 : ¬ ((i : Int) < (b.length : Int)) := by omega
      simp only [h1, decide_true, decide_false, cond_true, cond_false]
      rw [sk, run_stop (fun h => absurd h hl)]
      simp [List.getElem?_eq_none (show b.length ≤ i by omega)]
theorem S_here (hi : i ≤ b.length) (hb : b.length ≤ 4096) : S.here b i deep 0 nodes = some (b.getD (sk b i) 0, b, (sk b i : Int), deep, 0, nodes) := by
  simp only [S.here, here_m, here_t]
  exact here_loop 1000000000 i hi hb (by omega)
theorem S_hereE {at_ : Int} (he : err ≠ 0) : S.here b at_ deep err nodes = some (0, b, at_, deep, err, nodes) := by
  show here_t1 (here_m1 999999999) some b at_ deep err nodes = _
  simp only [here_t1, he, decide_false, cond_false]
theorem blank_loop : ∀ (k i : Nat), i ≤ b.length → b.length ≤ 4096 → b.length - i < k → blank_m0 k b i deep err nodes = some (b, (sk b i : Int), deep, err, nodes)
  | 0, i, _, _, h => by omega
  | k + 1, i, hi, hb, h => by
    simp only [blank_m0, blank_t0, getD_cast]
    by_cases hl : i < b.length
    · have h1 : ((i : Int) < (b.length : Int)) := by omega
      have h2 : (0 : Int) ≤ (i : Int) := by omega
      have hw : IntKind.i64.wrap ((i : Int) + 1) = ((i + 1 : Nat) : Int) := by rw [wrapI (by omega) (by omega)]; omega
      simp only [h1, h2, hw, decide_true, cond_true]
      have ih := blank_loop k (i + 1) (by omega) hb (by omega)
      rw [ih]
      by_cases c1 : isBl (b.getD i 0) = true
      · have e : sk b i = sk b (i + 1) := run_step hl c1
        rw [e]
        generalize b.getD i 0 = c at *
        simp [isBl] at c1
        rcases c1 with c1 | c1 | c1 | c1 <;> simp [c1]
      · have e : sk b i = i := run_stop (fun _ => by simpa using c1)
        rw [e]
        generalize b.getD i 0 = c at *
        simp [isBl] at c1
        simp [c1]
    · have h1 : ¬ ((i : Int) < (b.length : Int)) := by omega
      simp only [h1, decide_true, decide_false, cond_true, cond_false]
      rw [sk, run_stop (fun h => absurd h hl)]
theorem S_blank (hi : i ≤ b.length) (hb : b.length ≤ 4096) : S.blank b i deep err nodes = some (b, (sk b i : Int), deep, err, nodes) := by
  simp only [S.blank, blank_m, blank_t]
  exact blank_loop 1000000000 i hi hb (by omega)
theorem S_is (hi : i ≤ b.length) : S.isR c b i deep err nodes = some (decide (i < b.length ∧ b.getD i 0 = c), b, (i : Int), deep, err, nodes) := by
  simp only [S.isR, isR_m, isR_t, getD_cast]
  by_cases hl : i < b.length
  · have h1 : ((i : Int) < (b.length : Int)) := by omega
    have h2 : (0 : Int) ≤ (i : Int) := by omega
    simp only [h1, h2, hl, decide_true, cond_true, true_and]
  · have h1 : ¬ ((i : Int) < (b.length : Int)) := by omega
    simp only [h1, hl, decide_false, cond_false, cond_true, false_and]
theorem S_sign (hi : i ≤ b.length) (hb : b.length ≤ 4096) (hc : c ≠ 0) : S.sign c b i deep 0 nodes =
    some (decide (sk b i < b.length ∧ b.getD (sk b i) 0 = c), b, (if sk b i < b.length ∧ b.getD (sk b i) 0 = c then ((sk b i + 1 : Nat) : Int) else (sk b i : Int)), deep, 0, nodes) := by
  simp only [S.sign, sign_m, sign_t]
  rw [S_here hi hb]
  simp only [Option.bind_some]
  have hle := run_le (p := isBl) hi
  have hw : IntKind.i64.wrap ((sk b i : Int) + 1) = ((sk b i + 1 : Nat) : Int) := by
    have : sk b i ≤ 4096 := Nat.le_trans hle hb
    rw [wrapI (by omega) (by omega)]; omega
  by_cases h1 : b.getD (sk b i) 0 = c
  · by_cases h2 : sk b i < b.length
    · have h3 : ¬ ((sk b i : Int) ≥ (b.length : Int)) := by omega
      simp only [h1, h2, h3, hw, decide_true, decide_false, cond_true, cond_false, and_self, if_true]
    · exfalso
      apply hc
      rw [← h1]
      simp [List.getElem?_eq_none (show b.length ≤ sk b i by omega)]
  · simp only [h1, decide_false, decide_true, cond_true, cond_false, and_false, if_false]
theorem S_signE {at_ : Int} (he : err ≠ 0) (hc : c ≠ 0) : S.sign c b at_ deep err nodes = some (false, b, at_, deep, err, nodes) := by
  simp only [S.sign, sign_m, sign_t]
  rw [S_hereE he]
  have : ¬ ((0 : Int) = c) := fun h => hc h.symm
  simp [this]
end Go.Ab

/- Plain law: numbers. -/
set_option linter.unusedVariables false
set_option linter.unusedSimpArgs false
namespace Go.Ab
open Go
variable {b : List Int} {i : Nat} {deep err e c : Int} {nodes : List Nd} {l : List Int} {x : Int}

theorem getD_lt {c : Int} (hc : c ≠ 0) (h : b.getD i 0 = c) : i < b.length := by
  rcases Nat.lt_or_ge i b.length with h1 | h1
  · exact h1
  · exfalso; apply hc; rw [← h]; simp [List.getElem?_eq_none h1]
theorem is_at (hi : i ≤ b.length) (hc : c ≠ 0) : S.isR c b i deep err nodes = some (decide (b.getD i 0 = c), b, (i : Int), deep, err, nodes) := by
  rw [S_is hi]
  congr 2
  by_cases h : b.getD i 0 = c
  · simp only [h, getD_lt hc h, and_self]
  · simp only [h, and_false]
theorem sign_at (hi : i ≤ b.length) (hb : b.length ≤ 4096) (hc : c ≠ 0) : S.sign c b i deep 0 nodes =
    some (decide (b.getD (sk b i) 0 = c), b, ((if b.getD (sk b i) 0 = c then sk b i + 1 else sk b i : Nat) : Int), deep, 0, nodes) := by
  rw [S_sign hi hb hc]
  by_cases h : b.getD (sk b i) 0 = c
  · simp only [h, getD_lt hc h, and_self, if_true]
  · simp only [h, and_false, if_false]

theorem idxB_loop (hl : l.length ≤ 4096) : ∀ (k j : Nat), j ≤ l.length → l.length - j < k → ∃ r : Int, idxB_m2 k l x l.length j = some r ∧ (0 ≤ r ↔ x ∈ l.drop j)
  | 0, j, _, h => by omega
  | k + 1, j, hj, h => by
    simp only [idxB_m2, idxB_t2, getD_cast]
    by_cases hlt : j < l.length
    · have h1 : ((j : Int) < (l.length : Int)) := by omega
      have h2 : (0 : Int) ≤ (j : Int) := by omega
      simp only [h1, h2, decide_true, cond_true]
      rw [drop_at hlt]
      by_cases hx : x = l.getD j 0
      · exact ⟨j, by simp only [← hx, decide_true, cond_true], by rw [← hx]; simp⟩
      · have hw : IntKind.i64.wrap ((j : Int) + 1) = ((j + 1 : Nat) : Int) := by rw [wrapI (by omega) (by omega)]; omega
        obtain ⟨r, h3, h4⟩ := idxB_loop hl k (j + 1) (by omega) (by omega)
        refine ⟨r, by simp only [hx, decide_false, cond_false, hw]; exact h3, ?_⟩
        rw [h4, List.mem_cons]
        simp only [hx, false_or]
    · have h1 : ¬ ((j : Int) < (l.length : Int)) := by omega
      refine ⟨-1, by simp only [h1, decide_false, cond_false], ?_⟩
      rw [List.drop_eq_nil_of_le (by omega)]
      simp
theorem S_hasB (hl : l.length ≤ 4096) : S.hasB l x = some (decide (x ∈ l)) := by
  simp only [S.hasB, hasB_m, hasB_t, S.idxB, idxB_m, idxB_t]
  obtain ⟨r, h1, h2⟩ := idxB_loop hl 1000000000 0 (Nat.zero_le _) (by omega) (x := x)
  have h1' : idxB_m2 1000000000 l x (l.length : Int) 0 = some r := h1
  rw [h1']
  simp only [Option.bind_some, List.drop_zero, ge_iff_le] at h2 ⊢
  simp only [h2]

/-! ### Digits -/
def opt (l b : List Int) (i : Nat) : Nat := if b.getD i 0 ∈ l then i + 1 else i
theorem opt_le (h0 : (0 : Int) ∉ l) (hi : i ≤ b.length) : opt l b i ≤ b.length := by
  unfold opt
  split
  · rename_i h
    rcases Nat.lt_or_ge i b.length with h1 | h1
    · omega
    · exfalso; apply h0
      rw [List.getD_eq_getElem?_getD, List.getElem?_eq_none h1] at h
      exact h
  · exact hi
theorem S_num2 (hi : i ≤ b.length) (hb : b.length ≤ 4096) (hl : l.length ≤ 4096) (h0 : (0 : Int) ∉ l) : S.num2 l b i deep err nodes = some (decide (b.getD i 0 ∈ l), b, (opt l b i : Int), deep, err, nodes) := by
  simp only [S.num2, num2_m, num2_t, getD_cast]
  by_cases hlt : i < b.length
  · have h1 : ((i : Int) < (b.length : Int)) := by omega
    have h2 : (0 : Int) ≤ (i : Int) := by omega
    have hw : IntKind.i64.wrap ((i : Int) + 1) = ((i + 1 : Nat) : Int) := by rw [wrapI (by omega) (by omega)]; omega
    simp only [h1, h2, decide_true, cond_true, hw]
    rw [S_hasB hl]
    simp only [Option.bind_some, opt]
    by_cases hm : b.getD i 0 ∈ l
    · simp only [hm, decide_true, cond_true, if_true]
    · simp only [hm, decide_false, cond_false, if_false]
  · have h1 : ¬ ((i : Int) < (b.length : Int)) := by omega
    have hm : b.getD i 0 ∉ l := by rw [List.getD_eq_getElem?_getD, List.getElem?_eq_none (by omega)]; exact h0
    simp only [h1, decide_false, cond_false, opt, hm, if_false]
theorem num1_loop {t2 : Int} : ∀ (k i : Nat), i ≤ b.length → b.length ≤ 4096 → b.length - i < k → num1_m2 k t2 b i deep err nodes = some (decide ((dg b i : Int) > t2), b, (dg b i : Int), deep, err, nodes)
  | 0, i, _, _, h => by omega
  | k + 1, i, hi, hb, h => by
    simp only [num1_m2, num1_t2, getD_cast]
    by_cases hl : i < b.length
    · have h1 : ((i : Int) < (b.length : Int)) := by omega
      have h2 : (0 : Int) ≤ (i : Int) := by omega
      have hw : IntKind.i64.wrap ((i : Int) + 1) = ((i + 1 : Nat) : Int) := by rw [wrapI (by omega) (by omega)]; omega
      simp only [h1, h2, hw, decide_true, cond_true]
      rw [num1_loop k (i + 1) (by omega) hb (by omega)]
      by_cases c1 : isDg (b.getD i 0) = true
      · have e : dg b i = dg b (i + 1) := run_step hl c1
        rw [e]
        generalize b.getD i 0 = c at *
        simp [isDg] at c1
        simp [c1]
      · have e : dg b i = i := run_stop (fun _ => by simpa using c1)
        rw [e]
        generalize b.getD i 0 = c at *
        simp only [isDg, Bool.and_eq_true, decide_eq_true_eq, ge_iff_le] at c1 ⊢
        by_cases c2 : 48 ≤ c
        · have : ¬ c ≤ 57 := fun h => c1 ⟨c2, h⟩
          simp [c2, this]
        · simp [c2]
    · have h1 : ¬ ((i : Int) < (b.length : Int)) := by omega
      have e : dg b i = i := run_stop (fun h => absurd h hl)
      simp only [h1, decide_true, decide_false, cond_true, cond_false, e]
theorem S_num1 (hi : i ≤ b.length) (hb : b.length ≤ 4096) : S.num1 b i deep err nodes = some (decide (i < dg b i), b, (dg b i : Int), deep, err, nodes) := by
  simp only [S.num1, num1_m, num1_t]
  rw [num1_loop 1000000000 i hi hb (by omega)]
  simp only [gt_iff_lt, Int.ofNat_lt]
theorem digits_loop : ∀ (k i : Nat) (t : Nat), i ≤ b.length → b.length ≤ 4096 → t ≤ i → b.length - i < k → digits_m2 k (t : Int) b i deep err nodes = some (((t + (dg b i - i) : Nat) : Int), b, (dg b i : Int), deep, err, nodes)
  | 0, i, _, _, _, _, h => by omega
  | k + 1, i, t, hi, hb, ht, h => by
    simp only [digits_m2, digits_t2, getD_cast]
    by_cases hl : i < b.length
    · have h1 : ((i : Int) < (b.length : Int)) := by omega
      have h2 : (0 : Int) ≤ (i : Int) := by omega
      have hw : IntKind.i64.wrap ((i : Int) + 1) = ((i + 1 : Nat) : Int) := by rw [wrapI (by omega) (by omega)]; omega
      have hw2 : IntKind.i64.wrap ((t : Int) + 1) = ((t + 1 : Nat) : Int) := by rw [wrapI (by omega) (by omega)]; omega
      simp only [h1, h2, hw, hw2, decide_true, cond_true]
      rw [digits_loop k (i + 1) (t + 1) (by omega) hb (by omega) (by omega)]
      by_cases c1 : isDg (b.getD i 0) = true
      · have e : dg b i = dg b (i + 1) := run_step hl c1
        have hge := run_ge isDg b (i + 1)
        rw [e]
        rw [show t + 1 + (dg b (i + 1) - (i + 1)) = t + (dg b (i + 1) - i) by have : i + 1 ≤ dg b (i + 1) := hge; omega]
        generalize b.getD i 0 = c at *
        simp [isDg] at c1
        simp [c1]
      · have e : dg b i = i := run_stop (fun _ => by simpa using c1)
        rw [e]
        generalize b.getD i 0 = c at *
        simp only [isDg, Bool.and_eq_true, decide_eq_true_eq, ge_iff_le] at c1 ⊢
        by_cases c2 : 48 ≤ c
        · have : ¬ c ≤ 57 := fun h => c1 ⟨c2, h⟩
          simp [c2, this]
        · simp [c2]
    · have h1 : ¬ ((i : Int) < (b.length : Int)) := by omega
      have e : dg b i = i := run_stop (fun h => absurd h hl)
      simp only [h1, decide_true, decide_false, cond_true, cond_false, e, Nat.sub_self, Nat.add_zero]
theorem S_digits (hi : i ≤ b.length) (hb : b.length ≤ 4096) : S.digits b i deep err nodes = some (((dg b i - i : Nat) : Int), b, (dg b i : Int), deep, err, nodes) := by
  simp only [S.digits, digits_m, digits_t]
  have := digits_loop (b := b) (deep := deep) (err := err) (nodes := nodes) 1000000000 i 0 hi hb (Nat.zero_le _) (by omega)
  rw [Nat.zero_add] at this
  exact this
theorem take_drop_one {j : Nat} (h : i < b.length) : (b.take (i + 1)).drop i = [b.getD i 0] := by
  rw [List.take_add_one, List.drop_append_of_le_length (by simp; omega)]
  simp [h]
theorem S_word1 (hi : i ≤ b.length) (hb : b.length ≤ 4096) (hx : x ≠ 0) : S.wordR [x] b i deep err nodes = some (decide (b.getD i 0 = x), b, (opt [x] b i : Int), deep, err, nodes) := by
  simp only [S.wordR, wordR_m, wordR_t, List.length_singleton]
  have hs : IntKind.i64.wrap ((b.length : Int) - (i : Int)) = ((b.length - i : Nat) : Int) := by rw [wrapI (by omega) (by omega)]; omega
  have hw : IntKind.i64.wrap ((i : Int) + ((1 : Nat) : Int)) = ((i + 1 : Nat) : Int) := by rw [wrapI (by omega) (by omega)]; omega
  simp only [hs, hw, Int.toNat_natCast, Int.ofNat_lt, Int.ofNat_le, Int.natCast_nonneg, decide_true]
  by_cases hl : i < b.length
  · have h1 : ¬ (b.length - i < 1) := by omega
    have h2 : i ≤ i + 1 := by omega
    have h3 : i + 1 ≤ b.length := by omega
    rw [take_drop_one (j := 0) hl]
    have h4 : ([b.getD i 0] : List Int).length ≤ maxStr := by simp [maxStr]
    simp only [h1, h2, h3, h4, decide_true, decide_false, cond_true, cond_false, opt, List.mem_singleton, List.cons.injEq, and_true]
    by_cases hc : b.getD i 0 = x
    · simp only [hc, decide_true, cond_false, if_true]
    · simp only [hc, decide_false, cond_true, if_false]
  · have h1 : b.length - i < 1 := by omega
    have hc : ¬ b.getD i 0 = x := fun h => hl (getD_lt hx h)
    simp only [h1, decide_true, cond_true, opt, List.mem_singleton, hc, decide_false, if_false]
end Go.Ab

/- Plain law: numbers read by both; words that are none. -/
set_option linter.unusedVariables false
set_option linter.unusedSimpArgs false
namespace Go.Ab
open Go
variable {b : List Int} {i : Nat} {deep err e c : Int} {nodes : List Nd} {l : List Int} {x : Int}

def expo (b : List Int) (q : Nat) : Bool × Nat :=
  if b.getD q 0 ∈ [(101 : Int), 69] then (decide (opt [43, 45] b (q + 1) < dg b (opt [43, 45] b (q + 1))), dg b (opt [43, 45] b (q + 1))) else (true, q)
def numF (b : List Int) (i : Nat) : Bool × Nat :=
  if opt [45] b i < dg b (opt [45] b i) ∧ (dg b (opt [45] b i) = opt [45] b i + 1 ∨ b.getD (opt [45] b i) 0 ≠ 48) then
    if b.getD (dg b (opt [45] b i)) 0 = 46 then
      if dg b (opt [45] b i) + 1 < dg b (dg b (opt [45] b i) + 1) then expo b (dg b (dg b (opt [45] b i) + 1)) else (false, dg b (dg b (opt [45] b i) + 1))
    else expo b (dg b (opt [45] b i))
  else (false, dg b (opt [45] b i))
theorem opt_ge : i ≤ opt l b i := by unfold opt; split <;> omega
theorem dg_ge : i ≤ dg b i := run_ge ..
theorem dg_le (hi : i ≤ b.length) : dg b i ≤ b.length := run_le hi
theorem opt_in (h : b.getD i 0 ∈ l) : opt l b i = i + 1 := by unfold opt; rw [if_pos h]
theorem opt_out (h : b.getD i 0 ∉ l) : opt l b i = i := by unfold opt; rw [if_neg h]
theorem expo_ge {q : Nat} : q ≤ (expo b q).2 := by
  unfold expo
  split
  · have h1 := opt_ge (l := [43, 45]) (b := b) (i := q + 1)
    have h2 := dg_ge (b := b) (i := opt [43, 45] b (q + 1))
    show q ≤ dg b (opt [43, 45] b (q + 1))
    omega
  · exact Nat.le_refl _
theorem expo_le {q : Nat} (hq : q ≤ b.length) : (expo b q).2 ≤ b.length := by
  unfold expo
  split
  · rename_i h
    have : q < b.length := by
      simp only [List.mem_cons, List.mem_nil_iff, or_false] at h
      rcases h with h | h
      · exact getD_lt (by decide) h
      · exact getD_lt (by decide) h
    exact dg_le (opt_le (by decide) (by omega))
  · exact hq
theorem numF_ge : i ≤ (numF b i).2 := by
  have h1 := opt_ge (l := [45]) (b := b) (i := i)
  have h2 := dg_ge (b := b) (i := opt [45] b i)
  have h3 := dg_ge (b := b) (i := dg b (opt [45] b i) + 1)
  have h4 := expo_ge (b := b) (q := dg b (opt [45] b i))
  have h5 := expo_ge (b := b) (q := dg b (dg b (opt [45] b i) + 1))
  unfold numF
  split
  · split
    · split
      · omega
      · show i ≤ dg b (dg b (opt [45] b i) + 1); omega
    · omega
  · show i ≤ dg b (opt [45] b i); omega
theorem numF_le (hi : i ≤ b.length) : (numF b i).2 ≤ b.length := by
  have h1 : dg b (opt [45] b i) ≤ b.length := dg_le (opt_le (by decide) hi)
  unfold numF
  split
  · split
    · rename_i h
      have h2 := getD_lt (by decide) h
      have h3 : dg b (dg b (opt [45] b i) + 1) ≤ b.length := dg_le (by omega)
      split
      · exact expo_le h3
      · exact h3
    · exact expo_le h1
  · exact h1
def numOut (b : List Int) (i : Nat) (deep err : Int) (nodes : List Nd) (r : Bool × Nat) : List Int × List Int × Int × Int × Int × List Nd :=
  ((b.take r.2).drop i, b, (r.2 : Int), deep, if r.1 = true then err else (if err = 0 then 11 else err), nodes)
theorem cut_ok {α : Type} {j : Nat} (hi : i ≤ j) (hj : j ≤ b.length) (hb : b.length ≤ 4096) {f : Option α} :
    (bif decide ((0 : Int) ≤ (i : Int)) then (bif decide ((i : Int) ≤ (j : Int)) then (bif decide ((j : Int) ≤ (b.length : Int)) then (bif decide ((List.drop (i : Int).toNat (List.take (j : Int).toNat b)).length ≤ maxStr) then f else none) else none) else none) else none) = f := by
  have h1 : (0 : Int) ≤ (i : Int) := by omega
  have h2 : (i : Int) ≤ (j : Int) := by omega
  have h3 : (j : Int) ≤ (b.length : Int) := by omega
  have h4 : (List.drop (i : Int).toNat (List.take (j : Int).toNat b)).length ≤ maxStr := by simp [maxStr]; omega
  simp only [h1, h2, h3, h4, decide_true, cond_true]
theorem num2_45 (hi : i ≤ b.length) (hb : b.length ≤ 4096) : S.num2 [45] b i deep err nodes = some (decide (b.getD i 0 ∈ [(45 : Int)]), b, (opt [45] b i : Int), deep, err, nodes) := S_num2 hi hb (by simp) (by decide)
theorem num2_46 (hi : i ≤ b.length) (hb : b.length ≤ 4096) : S.num2 [46] b i deep err nodes = some (decide (b.getD i 0 ∈ [(46 : Int)]), b, (opt [46] b i : Int), deep, err, nodes) := S_num2 hi hb (by simp) (by decide)
theorem num2_E (hi : i ≤ b.length) (hb : b.length ≤ 4096) : S.num2 [101, 69] b i deep err nodes = some (decide (b.getD i 0 ∈ [(101 : Int), 69]), b, (opt [101, 69] b i : Int), deep, err, nodes) := S_num2 hi hb (by simp) (by decide)
theorem num2_s (hi : i ≤ b.length) (hb : b.length ≤ 4096) : S.num2 [43, 45] b i deep err nodes = some (decide (b.getD i 0 ∈ [(43 : Int), 45]), b, (opt [43, 45] b i : Int), deep, err, nodes) := S_num2 hi hb (by simp) (by decide)
theorem S_numJ (hi : i ≤ b.length) (hb : b.length ≤ 4096) : S.numJ b i deep err nodes = some (numOut b i deep err nodes (numF b i)) := by
  have hk : opt [45] b i ≤ b.length := opt_le (by decide) hi
  have hj : dg b (opt [45] b i) ≤ b.length := dg_le hk
  have gk : i ≤ opt [45] b i := opt_ge
  have gj : opt [45] b i ≤ dg b (opt [45] b i) := dg_ge
  simp only [S.numJ, numJ_m, numJ_t]
  rw [num2_45 hi hb]
  simp only [Option.bind_some]
  rw [S_num1 hk hb]
  simp only [Option.bind_some]
  generalize hkk : opt [45] b i = k at *
  generalize hjj : dg b k = j at *
  have hw : IntKind.i64.wrap ((k : Int) + 1) = ((k + 1 : Nat) : Int) := by rw [wrapI (by omega) (by omega)]; omega
  have hF : numF b i = if k < j ∧ (j = k + 1 ∨ b.getD k 0 ≠ 48) then (if b.getD j 0 = 46 then (if j + 1 < dg b (j + 1) then expo b (dg b (j + 1)) else (false, dg b (j + 1))) else expo b j) else (false, j) := by
    unfold numF; rw [hkk, hjj]
  have hm : ∀ q, (List.drop i (List.take q b)).length ≤ maxStr := fun q => by simp [maxStr]; omega
  simp only [hw, getD_cast, Int.ofNat_inj, Int.ofNat_lt, Int.natCast_nonneg, decide_true]
  rw [hF]
  by_cases h1 : k < j
  · have hkl : k < b.length := by omega
    by_cases h2 : j = k + 1
    · rw [if_pos ⟨h1, .inl h2⟩]
      have h1d : decide (k < j) = true := decide_eq_true h1
      have h2d : decide (j = k + 1) = true := decide_eq_true h2
      simp only [h1d, h2d, cond_true]
      rw [num2_46 hj hb]
      simp only [Option.bind_some]
      by_cases h3 : b.getD j 0 = 46
      · have hjl := getD_lt (by decide) h3
        have h3' : b.getD j 0 ∈ [(46 : Int)] := by rw [h3]; simp
        rw [if_pos h3]
        simp only [h3', decide_true, cond_true]
        rw [opt_in h3', S_num1 (show j + 1 ≤ b.length by omega) hb]
        simp only [Option.bind_some]
        by_cases h4 : j + 1 < dg b (j + 1)
        · rw [if_pos h4]
          simp only [h4, decide_true, cond_true]
          have hq0 : dg b (j + 1) ≤ b.length := dg_le (by omega)
          have hiq0 : i ≤ dg b (j + 1) := by omega
          generalize dg b (j + 1) = q at hq0 hiq0 ⊢
          rw [num2_E hq0 hb]
          simp only [Option.bind_some]
          by_cases h5 : b.getD q 0 ∈ [(101 : Int), 69]
          · have hql : q < b.length := by
              simp only [List.mem_cons, List.mem_nil_iff, or_false] at h5
              rcases h5 with h | h
              · exact getD_lt (by decide) h
              · exact getD_lt (by decide) h
            have hE : expo b q = (decide (opt [43, 45] b (q + 1) < dg b (opt [43, 45] b (q + 1))), dg b (opt [43, 45] b (q + 1))) := by unfold expo; rw [if_pos h5]
            rw [hE]
            simp only [h5, decide_true, cond_true]
            rw [opt_in h5, num2_s (by omega) hb]
            simp only [Option.bind_some]
            have ho : opt [43, 45] b (q + 1) ≤ b.length := opt_le (by decide) (by omega)
            have hog : q + 1 ≤ opt [43, 45] b (q + 1) := opt_ge
            rw [S_num1 ho hb]
            simp only [Option.bind_some]
            have hq : dg b (opt [43, 45] b (q + 1)) ≤ b.length := dg_le ho
            have hdg : opt [43, 45] b (q + 1) ≤ dg b (opt [43, 45] b (q + 1)) := dg_ge
            have hiq : i ≤ dg b (opt [43, 45] b (q + 1)) := by omega
            by_cases h6 : opt [43, 45] b (q + 1) < dg b (opt [43, 45] b (q + 1))
            · simp only [h6, decide_true]
              simp only [S_fail, Option.bind_some, Int.ofNat_le, Int.toNat_natCast, hiq, hq, hm, decide_true, cond_true, cond_false, numOut, if_true, Bool.false_eq_true, if_false]
            · simp only [h6, decide_false]
              simp only [S_fail, Option.bind_some, Int.ofNat_le, Int.toNat_natCast, hiq, hq, hm, decide_true, cond_true, cond_false, numOut, if_true, Bool.false_eq_true, if_false]
          · have hE : expo b q = (true, q) := by unfold expo; rw [if_neg h5]
            rw [hE]
            simp only [h5, decide_false, cond_false]
            rw [opt_out h5]
            have hq := hq0
            have hiq := hiq0
            simp only [S_fail, Option.bind_some, Int.ofNat_le, Int.toNat_natCast, hiq, hq, hm, decide_true, cond_true, cond_false, numOut, if_true, Bool.false_eq_true, if_false]
        · rw [if_neg h4]
          simp only [h4, decide_false, cond_false]
          have hq : dg b (j + 1) ≤ b.length := dg_le (by omega)
          have hg : j + 1 ≤ dg b (j + 1) := dg_ge
          have hiq : i ≤ dg b (j + 1) := by omega
          simp only [S_fail, Option.bind_some, Int.ofNat_le, Int.toNat_natCast, hiq, hq, hm, decide_true, cond_true, cond_false, numOut, if_true, Bool.false_eq_true, if_false]
      · have h3' : ¬ b.getD j 0 ∈ [(46 : Int)] := by simpa using h3
        rw [if_neg h3]
        simp only [h3', decide_false, cond_false]
        rw [opt_out h3']
        have hq0 : j ≤ b.length := hj
        have hiq0 : i ≤ j := by omega
        generalize j = q at hq0 hiq0 ⊢
        rw [num2_E hq0 hb]
        simp only [Option.bind_some]
        by_cases h5 : b.getD q 0 ∈ [(101 : Int), 69]
        · have hql : q < b.length := by
            simp only [List.mem_cons, List.mem_nil_iff, or_false] at h5
            rcases h5 with h | h
            · exact getD_lt (by decide) h
            · exact getD_lt (by decide) h
          have hE : expo b q = (decide (opt [43, 45] b (q + 1) < dg b (opt [43, 45] b (q + 1))), dg b (opt [43, 45] b (q + 1))) := by unfold expo; rw [if_pos h5]
          rw [hE]
          simp only [h5, decide_true, cond_true]
          rw [opt_in h5, num2_s (by omega) hb]
          simp only [Option.bind_some]
          have ho : opt [43, 45] b (q + 1) ≤ b.length := opt_le (by decide) (by omega)
          have hog : q + 1 ≤ opt [43, 45] b (q + 1) := opt_ge
          rw [S_num1 ho hb]
          simp only [Option.bind_some]
          have hq : dg b (opt [43, 45] b (q + 1)) ≤ b.length := dg_le ho
          have hdg : opt [43, 45] b (q + 1) ≤ dg b (opt [43, 45] b (q + 1)) := dg_ge
          have hiq : i ≤ dg b (opt [43, 45] b (q + 1)) := by omega
          by_cases h6 : opt [43, 45] b (q + 1) < dg b (opt [43, 45] b (q + 1))
          · simp only [h6, decide_true]
            simp only [S_fail, Option.bind_some, Int.ofNat_le, Int.toNat_natCast, hiq, hq, hm, decide_true, cond_true, cond_false, numOut, if_true, Bool.false_eq_true, if_false]
          · simp only [h6, decide_false]
            simp only [S_fail, Option.bind_some, Int.ofNat_le, Int.toNat_natCast, hiq, hq, hm, decide_true, cond_true, cond_false, numOut, if_true, Bool.false_eq_true, if_false]
        · have hE : expo b q = (true, q) := by unfold expo; rw [if_neg h5]
          rw [hE]
          simp only [h5, decide_false, cond_false]
          rw [opt_out h5]
          have hq := hq0
          have hiq := hiq0
          simp only [S_fail, Option.bind_some, Int.ofNat_le, Int.toNat_natCast, hiq, hq, hm, decide_true, cond_true, cond_false, numOut, if_true, Bool.false_eq_true, if_false]
    · by_cases h2b : b.getD k 0 = 48
      · rw [if_neg (by rintro ⟨_, h | h⟩; exact h2 h; exact h h2b)]
        have h1d : decide (k < j) = true := decide_eq_true h1
        have h2d : decide (j = k + 1) = false := decide_eq_false h2
        have h3d : decide (b.getD k 0 = 48) = true := decide_eq_true h2b
        have hq := hj
        have hiq : i ≤ j := by omega
        simp only [h1d, h2d, h3d, hkl, decide_true, cond_true, cond_false]
        simp only [S_fail, Option.bind_some, Int.ofNat_le, Int.toNat_natCast, hiq, hq, hm, decide_true, cond_true, cond_false, numOut, if_true, Bool.false_eq_true, if_false]
      · rw [if_pos ⟨h1, .inr h2b⟩]
        have h1d : decide (k < j) = true := decide_eq_true h1
        have h2d : decide (j = k + 1) = false := decide_eq_false h2
        have h3d : decide (b.getD k 0 = 48) = false := decide_eq_false h2b
        simp only [h1d, h2d, h3d, hkl, decide_true, cond_true, cond_false]
        rw [num2_46 hj hb]
        simp only [Option.bind_some]
        by_cases h3 : b.getD j 0 = 46
        · have hjl := getD_lt (by decide) h3
          have h3' : b.getD j 0 ∈ [(46 : Int)] := by rw [h3]; simp
          rw [if_pos h3]
          simp only [h3', decide_true, cond_true]
          rw [opt_in h3', S_num1 (show j + 1 ≤ b.length by omega) hb]
          simp only [Option.bind_some]
          by_cases h4 : j + 1 < dg b (j + 1)
          · rw [if_pos h4]
            simp only [h4, decide_true, cond_true]
            have hq0 : dg b (j + 1) ≤ b.length := dg_le (by omega)
            have hiq0 : i ≤ dg b (j + 1) := by omega
            generalize dg b (j + 1) = q at hq0 hiq0 ⊢
            rw [num2_E hq0 hb]
            simp only [Option.bind_some]
            by_cases h5 : b.getD q 0 ∈ [(101 : Int), 69]
            · have hql : q < b.length := by
                simp only [List.mem_cons, List.mem_nil_iff, or_false] at h5
                rcases h5 with h | h
                · exact getD_lt (by decide) h
                · exact getD_lt (by decide) h
              have hE : expo b q = (decide (opt [43, 45] b (q + 1) < dg b (opt [43, 45] b (q + 1))), dg b (opt [43, 45] b (q + 1))) := by unfold expo; rw [if_pos h5]
              rw [hE]
              simp only [h5, decide_true, cond_true]
              rw [opt_in h5, num2_s (by omega) hb]
              simp only [Option.bind_some]
              have ho : opt [43, 45] b (q + 1) ≤ b.length := opt_le (by decide) (by omega)
              have hog : q + 1 ≤ opt [43, 45] b (q + 1) := opt_ge
              rw [S_num1 ho hb]
              simp only [Option.bind_some]
              have hq : dg b (opt [43, 45] b (q + 1)) ≤ b.length := dg_le ho
              have hdg : opt [43, 45] b (q + 1) ≤ dg b (opt [43, 45] b (q + 1)) := dg_ge
              have hiq : i ≤ dg b (opt [43, 45] b (q + 1)) := by omega
              by_cases h6 : opt [43, 45] b (q + 1) < dg b (opt [43, 45] b (q + 1))
              · simp only [h6, decide_true]
                simp only [S_fail, Option.bind_some, Int.ofNat_le, Int.toNat_natCast, hiq, hq, hm, decide_true, cond_true, cond_false, numOut, if_true, Bool.false_eq_true, if_false]
              · simp only [h6, decide_false]
                simp only [S_fail, Option.bind_some, Int.ofNat_le, Int.toNat_natCast, hiq, hq, hm, decide_true, cond_true, cond_false, numOut, if_true, Bool.false_eq_true, if_false]
            · have hE : expo b q = (true, q) := by unfold expo; rw [if_neg h5]
              rw [hE]
              simp only [h5, decide_false, cond_false]
              rw [opt_out h5]
              have hq := hq0
              have hiq := hiq0
              simp only [S_fail, Option.bind_some, Int.ofNat_le, Int.toNat_natCast, hiq, hq, hm, decide_true, cond_true, cond_false, numOut, if_true, Bool.false_eq_true, if_false]
          · rw [if_neg h4]
            simp only [h4, decide_false, cond_false]
            have hq : dg b (j + 1) ≤ b.length := dg_le (by omega)
            have hg : j + 1 ≤ dg b (j + 1) := dg_ge
            have hiq : i ≤ dg b (j + 1) := by omega
            simp only [S_fail, Option.bind_some, Int.ofNat_le, Int.toNat_natCast, hiq, hq, hm, decide_true, cond_true, cond_false, numOut, if_true, Bool.false_eq_true, if_false]
        · have h3' : ¬ b.getD j 0 ∈ [(46 : Int)] := by simpa using h3
          rw [if_neg h3]
          simp only [h3', decide_false, cond_false]
          rw [opt_out h3']
          have hq0 : j ≤ b.length := hj
          have hiq0 : i ≤ j := by omega
          generalize j = q at hq0 hiq0 ⊢
          rw [num2_E hq0 hb]
          simp only [Option.bind_some]
          by_cases h5 : b.getD q 0 ∈ [(101 : Int), 69]
          · have hql : q < b.length := by
              simp only [List.mem_cons, List.mem_nil_iff, or_false] at h5
              rcases h5 with h | h
              · exact getD_lt (by decide) h
              · exact getD_lt (by decide) h
            have hE : expo b q = (decide (opt [43, 45] b (q + 1) < dg b (opt [43, 45] b (q + 1))), dg b (opt [43, 45] b (q + 1))) := by unfold expo; rw [if_pos h5]
            rw [hE]
            simp only [h5, decide_true, cond_true]
            rw [opt_in h5, num2_s (by omega) hb]
            simp only [Option.bind_some]
            have ho : opt [43, 45] b (q + 1) ≤ b.length := opt_le (by decide) (by omega)
            have hog : q + 1 ≤ opt [43, 45] b (q + 1) := opt_ge
            rw [S_num1 ho hb]
            simp only [Option.bind_some]
            have hq : dg b (opt [43, 45] b (q + 1)) ≤ b.length := dg_le ho
            have hdg : opt [43, 45] b (q + 1) ≤ dg b (opt [43, 45] b (q + 1)) := dg_ge
            have hiq : i ≤ dg b (opt [43, 45] b (q + 1)) := by omega
            by_cases h6 : opt [43, 45] b (q + 1) < dg b (opt [43, 45] b (q + 1))
            · simp only [h6, decide_true]
              simp only [S_fail, Option.bind_some, Int.ofNat_le, Int.toNat_natCast, hiq, hq, hm, decide_true, cond_true, cond_false, numOut, if_true, Bool.false_eq_true, if_false]
            · simp only [h6, decide_false]
              simp only [S_fail, Option.bind_some, Int.ofNat_le, Int.toNat_natCast, hiq, hq, hm, decide_true, cond_true, cond_false, numOut, if_true, Bool.false_eq_true, if_false]
          · have hE : expo b q = (true, q) := by unfold expo; rw [if_neg h5]
            rw [hE]
            simp only [h5, decide_false, cond_false]
            rw [opt_out h5]
            have hq := hq0
            have hiq := hiq0
            simp only [S_fail, Option.bind_some, Int.ofNat_le, Int.toNat_natCast, hiq, hq, hm, decide_true, cond_true, cond_false, numOut, if_true, Bool.false_eq_true, if_false]
  · rw [if_neg (fun h => h1 h.1)]
    have h1d : decide (k < j) = false := decide_eq_false h1
    have hq := hj
    have hiq : i ≤ j := by omega
    simp only [h1d, decide_true, cond_true, cond_false]
    simp only [S_fail, Option.bind_some, Int.ofNat_le, Int.toNat_natCast, hiq, hq, hm, decide_true, cond_true, cond_false, numOut, if_true, Bool.false_eq_true, if_false]
end Go.Ab

/- Plain law: numbers read by the reference. -/
set_option linter.unusedVariables false
set_option linter.unusedSimpArgs false
namespace Go.Ab
open Go
variable {b : List Int} {i : Nat} {deep err e c : Int} {nodes : List Nd} {l : List Int} {x : Int}
theorem opt_45 {q : Nat} (h : ¬ b.getD q 0 = 43) : opt [45] b q = opt [43, 45] b q := by
  unfold opt
  by_cases h2 : b.getD q 0 = 45
  · rw [if_pos (by rw [h2]; simp), if_pos (by rw [h2]; simp)]
  · rw [if_neg (by simpa using h2), if_neg (by simp only [List.mem_cons, List.mem_nil_iff, or_false]; rintro (h3 | h3); exact h h3; exact h2 h3)]
def numROut (b : List Int) (i : Nat) (deep err : Int) (nodes : List Nd) (r : Bool × Nat) : List Int × Bool × List Int × Int × Int × Int × List Nd :=
  (if r.1 = true then (b.take r.2).drop i else [], r.1, b, (r.2 : Int), deep, err, nodes)
set_option maxHeartbeats 1000000 in
theorem S_numR (hi : i ≤ b.length) (hb : b.length ≤ 4096) : S.numR b i deep err nodes = some (numROut b i deep err nodes (numF b i)) := by
  have hk : opt [45] b i ≤ b.length := opt_le (by decide) hi
  have hj : dg b (opt [45] b i) ≤ b.length := dg_le hk
  have gk : i ≤ opt [45] b i := opt_ge
  have gj : opt [45] b i ≤ dg b (opt [45] b i) := dg_ge
  simp only [S.numR, numR_m, numR_t]
  rw [S_word1 (x := 45) hi hb (by decide)]
  simp only [Option.bind_some]
  rw [is_at hk (by decide)]
  simp only [Option.bind_some]
  rw [S_digits hk hb]
  simp only [Option.bind_some]
  generalize hkk : opt [45] b i = k at *
  generalize hjj : dg b k = j at *
  have hF : numF b i = if k < j ∧ (j = k + 1 ∨ b.getD k 0 ≠ 48) then (if b.getD j 0 = 46 then (if j + 1 < dg b (j + 1) then expo b (dg b (j + 1)) else (false, dg b (j + 1))) else expo b j) else (false, j) := by
    unfold numF; rw [hkk, hjj]
  have hm : ∀ q, (List.drop i (List.take q b)).length ≤ maxStr := fun q => by simp [maxStr]; omega
  simp only [Int.ofNat_inj, Int.ofNat_lt, Int.natCast_nonneg, decide_true]
  rw [hF]
  by_cases h2 : k < j ∧ (j = k + 1 ∨ b.getD k 0 ≠ 48)
  · have hcond : (bif decide (((j - k : Nat) : Int) = 0) then true else bif decide (b.getD k 0 = 48) then decide (((j - k : Nat) : Int) > 1) else false) = false := by
      have a1 : decide (((j - k : Nat) : Int) = 0) = false := decide_eq_false (by omega)
      rw [a1]
      simp only [cond_false]
      by_cases a2 : b.getD k 0 = 48
      · have a3 : decide (((j - k : Nat) : Int) > 1) = false := decide_eq_false (by rcases h2.2 with h | h; omega; exact absurd a2 h)
        rw [decide_eq_true a2, a3]; rfl
      · rw [decide_eq_false a2]; rfl
    rw [if_pos h2]
    simp only [hcond, cond_false]
    rw [S_word1 (x := 46) hj hb (by decide)]
    simp only [Option.bind_some]
    by_cases h3 : b.getD j 0 = 46
    · have hjl := getD_lt (by decide) h3
      have h3d : decide (b.getD j 0 = 46) = true := decide_eq_true h3
      rw [if_pos h3, opt_in (by rw [h3]; simp)]
      simp only [h3d, cond_true]
      rw [S_digits (show j + 1 ≤ b.length by omega) hb]
      simp only [Option.bind_some]
      have hg : j + 1 ≤ dg b (j + 1) := dg_ge
      have hq : dg b (j + 1) ≤ b.length := dg_le (by omega)
      by_cases h4 : j + 1 < dg b (j + 1)
      · have h4d : decide (((dg b (j + 1) - (j + 1) : Nat) : Int) = 0) = false := decide_eq_false (by omega)
        rw [if_pos h4]
        simp only [h4d, cond_false]
        clear hq hg h4d
        have hq0 : dg b (j + 1) ≤ b.length := dg_le (by omega)
        have hiq0 : i ≤ dg b (j + 1) := by omega
        generalize dg b (j + 1) = q at hq0 hiq0 ⊢
        rw [S_word1 (x := 101) hq0 hb (by decide)]
        simp only [Option.bind_some]
        by_cases h5 : b.getD q 0 = 101
        · have hql := getD_lt (by decide) h5
          have hE : expo b q = (decide (opt [43, 45] b (q + 1) < dg b (opt [43, 45] b (q + 1))), dg b (opt [43, 45] b (q + 1))) := by unfold expo; rw [if_pos (by rw [h5]; simp)]
          rw [hE, opt_in (by rw [h5]; simp)]
          have h5d : decide (b.getD q 0 = 101) = true := decide_eq_true h5
          simp only [h5d, cond_true]
          have ho : opt [43, 45] b (q + 1) ≤ b.length := opt_le (by decide) (by omega)
          have hog : q + 1 ≤ opt [43, 45] b (q + 1) := opt_ge
          have hq : dg b (opt [43, 45] b (q + 1)) ≤ b.length := dg_le ho
          have hdg : opt [43, 45] b (q + 1) ≤ dg b (opt [43, 45] b (q + 1)) := dg_ge
          have hiq : i ≤ dg b (opt [43, 45] b (q + 1)) := by omega
          rw [S_word1 (x := 43) (show q + 1 ≤ b.length by omega) hb (by decide)]
          simp only [Option.bind_some]
          by_cases h7 : b.getD (q + 1) 0 = 43
          · have e1 : opt [43] b (q + 1) = opt [43, 45] b (q + 1) := by rw [opt_in (by rw [h7]; simp), opt_in (by rw [h7]; simp)]
            rw [e1]
            have h7d : decide (b.getD (q + 1) 0 = 43) = true := decide_eq_true h7
            simp only [h7d, cond_false]
            rw [S_digits ho hb]
            simp only [Option.bind_some]
            by_cases h6 : opt [43, 45] b (q + 1) < dg b (opt [43, 45] b (q + 1))
            · have h6d : decide (((dg b (opt [43, 45] b (q + 1)) - opt [43, 45] b (q + 1) : Nat) : Int) = 0) = false := decide_eq_false (by omega)
              simp only [h6d, h6, decide_true]
              simp only [Option.bind_some, Int.ofNat_le, Int.toNat_natCast, hiq, hq, hm, decide_true, cond_true, cond_false, numROut, if_true, Bool.false_eq_true, if_false]
            · have h6d : decide (((dg b (opt [43, 45] b (q + 1)) - opt [43, 45] b (q + 1) : Nat) : Int) = 0) = true := decide_eq_true (by omega)
              simp only [h6d, h6, decide_false]
              simp only [Option.bind_some, Int.ofNat_le, Int.toNat_natCast, hiq, hq, hm, decide_true, cond_true, cond_false, numROut, if_true, Bool.false_eq_true, if_false]
          · have e1 : opt [43] b (q + 1) = q + 1 := opt_out (by simpa using h7)
            have e2 : opt [45] b (q + 1) = opt [43, 45] b (q + 1) := opt_45 h7
            rw [e1]
            have h7d : decide (b.getD (q + 1) 0 = 43) = false := decide_eq_false h7
            simp only [h7d, cond_true]
            rw [S_word1 (x := 45) (show q + 1 ≤ b.length by omega) hb (by decide), e2]
            simp only [Option.bind_some]
            rw [S_digits ho hb]
            simp only [Option.bind_some]
            by_cases h6 : opt [43, 45] b (q + 1) < dg b (opt [43, 45] b (q + 1))
            · have h6d : decide (((dg b (opt [43, 45] b (q + 1)) - opt [43, 45] b (q + 1) : Nat) : Int) = 0) = false := decide_eq_false (by omega)
              simp only [h6d, h6, decide_true]
              simp only [Option.bind_some, Int.ofNat_le, Int.toNat_natCast, hiq, hq, hm, decide_true, cond_true, cond_false, numROut, if_true, Bool.false_eq_true, if_false]
            · have h6d : decide (((dg b (opt [43, 45] b (q + 1)) - opt [43, 45] b (q + 1) : Nat) : Int) = 0) = true := decide_eq_true (by omega)
              simp only [h6d, h6, decide_false]
              simp only [Option.bind_some, Int.ofNat_le, Int.toNat_natCast, hiq, hq, hm, decide_true, cond_true, cond_false, numROut, if_true, Bool.false_eq_true, if_false]
        · have h5d : decide (b.getD q 0 = 101) = false := decide_eq_false h5
          simp only [h5d, cond_false]
          rw [opt_out (by simpa using h5), S_word1 (x := 69) hq0 hb (by decide)]
          simp only [Option.bind_some]
          by_cases h8 : b.getD q 0 = 69
          · have hql := getD_lt (by decide) h8
            have hE : expo b q = (decide (opt [43, 45] b (q + 1) < dg b (opt [43, 45] b (q + 1))), dg b (opt [43, 45] b (q + 1))) := by unfold expo; rw [if_pos (by rw [h8]; simp)]
            rw [hE, opt_in (by rw [h8]; simp)]
            have h8d : decide (b.getD q 0 = 69) = true := decide_eq_true h8
            simp only [h8d, cond_true]
            have ho : opt [43, 45] b (q + 1) ≤ b.length := opt_le (by decide) (by omega)
            have hog : q + 1 ≤ opt [43, 45] b (q + 1) := opt_ge
            have hq : dg b (opt [43, 45] b (q + 1)) ≤ b.length := dg_le ho
            have hdg : opt [43, 45] b (q + 1) ≤ dg b (opt [43, 45] b (q + 1)) := dg_ge
            have hiq : i ≤ dg b (opt [43, 45] b (q + 1)) := by omega
            rw [S_word1 (x := 43) (show q + 1 ≤ b.length by omega) hb (by decide)]
            simp only [Option.bind_some]
            by_cases h7 : b.getD (q + 1) 0 = 43
            · have e1 : opt [43] b (q + 1) = opt [43, 45] b (q + 1) := by rw [opt_in (by rw [h7]; simp), opt_in (by rw [h7]; simp)]
              rw [e1]
              have h7d : decide (b.getD (q + 1) 0 = 43) = true := decide_eq_true h7
              simp only [h7d, cond_false]
              rw [S_digits ho hb]
              simp only [Option.bind_some]
              by_cases h6 : opt [43, 45] b (q + 1) < dg b (opt [43, 45] b (q + 1))
              · have h6d : decide (((dg b (opt [43, 45] b (q + 1)) - opt [43, 45] b (q + 1) : Nat) : Int) = 0) = false := decide_eq_false (by omega)
                simp only [h6d, h6, decide_true]
                simp only [Option.bind_some, Int.ofNat_le, Int.toNat_natCast, hiq, hq, hm, decide_true, cond_true, cond_false, numROut, if_true, Bool.false_eq_true, if_false]
              · have h6d : decide (((dg b (opt [43, 45] b (q + 1)) - opt [43, 45] b (q + 1) : Nat) : Int) = 0) = true := decide_eq_true (by omega)
                simp only [h6d, h6, decide_false]
                simp only [Option.bind_some, Int.ofNat_le, Int.toNat_natCast, hiq, hq, hm, decide_true, cond_true, cond_false, numROut, if_true, Bool.false_eq_true, if_false]
            · have e1 : opt [43] b (q + 1) = q + 1 := opt_out (by simpa using h7)
              have e2 : opt [45] b (q + 1) = opt [43, 45] b (q + 1) := opt_45 h7
              rw [e1]
              have h7d : decide (b.getD (q + 1) 0 = 43) = false := decide_eq_false h7
              simp only [h7d, cond_true]
              rw [S_word1 (x := 45) (show q + 1 ≤ b.length by omega) hb (by decide), e2]
              simp only [Option.bind_some]
              rw [S_digits ho hb]
              simp only [Option.bind_some]
              by_cases h6 : opt [43, 45] b (q + 1) < dg b (opt [43, 45] b (q + 1))
              · have h6d : decide (((dg b (opt [43, 45] b (q + 1)) - opt [43, 45] b (q + 1) : Nat) : Int) = 0) = false := decide_eq_false (by omega)
                simp only [h6d, h6, decide_true]
                simp only [Option.bind_some, Int.ofNat_le, Int.toNat_natCast, hiq, hq, hm, decide_true, cond_true, cond_false, numROut, if_true, Bool.false_eq_true, if_false]
              · have h6d : decide (((dg b (opt [43, 45] b (q + 1)) - opt [43, 45] b (q + 1) : Nat) : Int) = 0) = true := decide_eq_true (by omega)
                simp only [h6d, h6, decide_false]
                simp only [Option.bind_some, Int.ofNat_le, Int.toNat_natCast, hiq, hq, hm, decide_true, cond_true, cond_false, numROut, if_true, Bool.false_eq_true, if_false]
          · have h8d : decide (b.getD q 0 = 69) = false := decide_eq_false h8
            have hE : expo b q = (true, q) := by unfold expo; rw [if_neg (by simp only [List.mem_cons, List.mem_nil_iff, or_false]; rintro (h | h); exact h5 h; exact h8 h)]
            rw [hE, opt_out (by simpa using h8)]
            have hq := hq0
            have hiq := hiq0
            simp only [h8d, cond_false]
            simp only [Option.bind_some, Int.ofNat_le, Int.toNat_natCast, hiq, hq, hm, decide_true, cond_true, cond_false, numROut, if_true, Bool.false_eq_true, if_false]
      · have h4d : decide (((dg b (j + 1) - (j + 1) : Nat) : Int) = 0) = true := decide_eq_true (by omega)
        rw [if_neg h4]
        have hiq : i ≤ dg b (j + 1) := by omega
        simp only [h4d, cond_true]
        simp only [Option.bind_some, Int.ofNat_le, Int.toNat_natCast, hiq, hq, hm, decide_true, cond_true, cond_false, numROut, if_true, Bool.false_eq_true, if_false]
    · have h3d : decide (b.getD j 0 = 46) = false := decide_eq_false h3
      rw [if_neg h3, opt_out (by simpa using h3)]
      simp only [h3d, cond_false]
      have hq0 : j ≤ b.length := hj
      have hiq0 : i ≤ j := by omega
      generalize j = q at hq0 hiq0 ⊢
      rw [S_word1 (x := 101) hq0 hb (by decide)]
      simp only [Option.bind_some]
      by_cases h5 : b.getD q 0 = 101
      · have hql := getD_lt (by decide) h5
        have hE : expo b q = (decide (opt [43, 45] b (q + 1) < dg b (opt [43, 45] b (q + 1))), dg b (opt [43, 45] b (q + 1))) := by unfold expo; rw [if_pos (by rw [h5]; simp)]
        rw [hE, opt_in (by rw [h5]; simp)]
        have h5d : decide (b.getD q 0 = 101) = true := decide_eq_true h5
        simp only [h5d, cond_true]
        have ho : opt [43, 45] b (q + 1) ≤ b.length := opt_le (by decide) (by omega)
        have hog : q + 1 ≤ opt [43, 45] b (q + 1) := opt_ge
        have hq : dg b (opt [43, 45] b (q + 1)) ≤ b.length := dg_le ho
        have hdg : opt [43, 45] b (q + 1) ≤ dg b (opt [43, 45] b (q + 1)) := dg_ge
        have hiq : i ≤ dg b (opt [43, 45] b (q + 1)) := by omega
        rw [S_word1 (x := 43) (show q + 1 ≤ b.length by omega) hb (by decide)]
        simp only [Option.bind_some]
        by_cases h7 : b.getD (q + 1) 0 = 43
        · have e1 : opt [43] b (q + 1) = opt [43, 45] b (q + 1) := by rw [opt_in (by rw [h7]; simp), opt_in (by rw [h7]; simp)]
          rw [e1]
          have h7d : decide (b.getD (q + 1) 0 = 43) = true := decide_eq_true h7
          simp only [h7d, cond_false]
          rw [S_digits ho hb]
          simp only [Option.bind_some]
          by_cases h6 : opt [43, 45] b (q + 1) < dg b (opt [43, 45] b (q + 1))
          · have h6d : decide (((dg b (opt [43, 45] b (q + 1)) - opt [43, 45] b (q + 1) : Nat) : Int) = 0) = false := decide_eq_false (by omega)
            simp only [h6d, h6, decide_true]
            simp only [Option.bind_some, Int.ofNat_le, Int.toNat_natCast, hiq, hq, hm, decide_true, cond_true, cond_false, numROut, if_true, Bool.false_eq_true, if_false]
          · have h6d : decide (((dg b (opt [43, 45] b (q + 1)) - opt [43, 45] b (q + 1) : Nat) : Int) = 0) = true := decide_eq_true (by omega)
            simp only [h6d, h6, decide_false]
            simp only [Option.bind_some, Int.ofNat_le, Int.toNat_natCast, hiq, hq, hm, decide_true, cond_true, cond_false, numROut, if_true, Bool.false_eq_true, if_false]
        · have e1 : opt [43] b (q + 1) = q + 1 := opt_out (by simpa using h7)
          have e2 : opt [45] b (q + 1) = opt [43, 45] b (q + 1) := opt_45 h7
          rw [e1]
          have h7d : decide (b.getD (q + 1) 0 = 43) = false := decide_eq_false h7
          simp only [h7d, cond_true]
          rw [S_word1 (x := 45) (show q + 1 ≤ b.length by omega) hb (by decide), e2]
          simp only [Option.bind_some]
          rw [S_digits ho hb]
          simp only [Option.bind_some]
          by_cases h6 : opt [43, 45] b (q + 1) < dg b (opt [43, 45] b (q + 1))
          · have h6d : decide (((dg b (opt [43, 45] b (q + 1)) - opt [43, 45] b (q + 1) : Nat) : Int) = 0) = false := decide_eq_false (by omega)
            simp only [h6d, h6, decide_true]
            simp only [Option.bind_some, Int.ofNat_le, Int.toNat_natCast, hiq, hq, hm, decide_true, cond_true, cond_false, numROut, if_true, Bool.false_eq_true, if_false]
          · have h6d : decide (((dg b (opt [43, 45] b (q + 1)) - opt [43, 45] b (q + 1) : Nat) : Int) = 0) = true := decide_eq_true (by omega)
            simp only [h6d, h6, decide_false]
            simp only [Option.bind_some, Int.ofNat_le, Int.toNat_natCast, hiq, hq, hm, decide_true, cond_true, cond_false, numROut, if_true, Bool.false_eq_true, if_false]
      · have h5d : decide (b.getD q 0 = 101) = false := decide_eq_false h5
        simp only [h5d, cond_false]
        rw [opt_out (by simpa using h5), S_word1 (x := 69) hq0 hb (by decide)]
        simp only [Option.bind_some]
        by_cases h8 : b.getD q 0 = 69
        · have hql := getD_lt (by decide) h8
          have hE : expo b q = (decide (opt [43, 45] b (q + 1) < dg b (opt [43, 45] b (q + 1))), dg b (opt [43, 45] b (q + 1))) := by unfold expo; rw [if_pos (by rw [h8]; simp)]
          rw [hE, opt_in (by rw [h8]; simp)]
          have h8d : decide (b.getD q 0 = 69) = true := decide_eq_true h8
          simp only [h8d, cond_true]
          have ho : opt [43, 45] b (q + 1) ≤ b.length := opt_le (by decide) (by omega)
          have hog : q + 1 ≤ opt [43, 45] b (q + 1) := opt_ge
          have hq : dg b (opt [43, 45] b (q + 1)) ≤ b.length := dg_le ho
          have hdg : opt [43, 45] b (q + 1) ≤ dg b (opt [43, 45] b (q + 1)) := dg_ge
          have hiq : i ≤ dg b (opt [43, 45] b (q + 1)) := by omega
          rw [S_word1 (x := 43) (show q + 1 ≤ b.length by omega) hb (by decide)]
          simp only [Option.bind_some]
          by_cases h7 : b.getD (q + 1) 0 = 43
          · have e1 : opt [43] b (q + 1) = opt [43, 45] b (q + 1) := by rw [opt_in (by rw [h7]; simp), opt_in (by rw [h7]; simp)]
            rw [e1]
            have h7d : decide (b.getD (q + 1) 0 = 43) = true := decide_eq_true h7
            simp only [h7d, cond_false]
            rw [S_digits ho hb]
            simp only [Option.bind_some]
            by_cases h6 : opt [43, 45] b (q + 1) < dg b (opt [43, 45] b (q + 1))
            · have h6d : decide (((dg b (opt [43, 45] b (q + 1)) - opt [43, 45] b (q + 1) : Nat) : Int) = 0) = false := decide_eq_false (by omega)
              simp only [h6d, h6, decide_true]
              simp only [Option.bind_some, Int.ofNat_le, Int.toNat_natCast, hiq, hq, hm, decide_true, cond_true, cond_false, numROut, if_true, Bool.false_eq_true, if_false]
            · have h6d : decide (((dg b (opt [43, 45] b (q + 1)) - opt [43, 45] b (q + 1) : Nat) : Int) = 0) = true := decide_eq_true (by omega)
              simp only [h6d, h6, decide_false]
              simp only [Option.bind_some, Int.ofNat_le, Int.toNat_natCast, hiq, hq, hm, decide_true, cond_true, cond_false, numROut, if_true, Bool.false_eq_true, if_false]
          · have e1 : opt [43] b (q + 1) = q + 1 := opt_out (by simpa using h7)
            have e2 : opt [45] b (q + 1) = opt [43, 45] b (q + 1) := opt_45 h7
            rw [e1]
            have h7d : decide (b.getD (q + 1) 0 = 43) = false := decide_eq_false h7
            simp only [h7d, cond_true]
            rw [S_word1 (x := 45) (show q + 1 ≤ b.length by omega) hb (by decide), e2]
            simp only [Option.bind_some]
            rw [S_digits ho hb]
            simp only [Option.bind_some]
            by_cases h6 : opt [43, 45] b (q + 1) < dg b (opt [43, 45] b (q + 1))
            · have h6d : decide (((dg b (opt [43, 45] b (q + 1)) - opt [43, 45] b (q + 1) : Nat) : Int) = 0) = false := decide_eq_false (by omega)
              simp only [h6d, h6, decide_true]
              simp only [Option.bind_some, Int.ofNat_le, Int.toNat_natCast, hiq, hq, hm, decide_true, cond_true, cond_false, numROut, if_true, Bool.false_eq_true, if_false]
            · have h6d : decide (((dg b (opt [43, 45] b (q + 1)) - opt [43, 45] b (q + 1) : Nat) : Int) = 0) = true := decide_eq_true (by omega)
              simp only [h6d, h6, decide_false]
              simp only [Option.bind_some, Int.ofNat_le, Int.toNat_natCast, hiq, hq, hm, decide_true, cond_true, cond_false, numROut, if_true, Bool.false_eq_true, if_false]
        · have h8d : decide (b.getD q 0 = 69) = false := decide_eq_false h8
          have hE : expo b q = (true, q) := by unfold expo; rw [if_neg (by simp only [List.mem_cons, List.mem_nil_iff, or_false]; rintro (h | h); exact h5 h; exact h8 h)]
          rw [hE, opt_out (by simpa using h8)]
          have hq := hq0
          have hiq := hiq0
          simp only [h8d, cond_false]
          simp only [Option.bind_some, Int.ofNat_le, Int.toNat_natCast, hiq, hq, hm, decide_true, cond_true, cond_false, numROut, if_true, Bool.false_eq_true, if_false]
  · have hcond : (bif decide (((j - k : Nat) : Int) = 0) then true else bif decide (b.getD k 0 = 48) then decide (((j - k : Nat) : Int) > 1) else false) = true := by
      by_cases a1 : k < j
      · have a2 : b.getD k 0 = 48 := Decidable.byContradiction fun h => h2 ⟨a1, .inr h⟩
        have a3 : ¬ j = k + 1 := fun h => h2 ⟨a1, .inl h⟩
        rw [decide_eq_false (show ¬ ((j - k : Nat) : Int) = 0 by omega), decide_eq_true a2, decide_eq_true (show ((j - k : Nat) : Int) > 1 by omega)]; rfl
      · rw [decide_eq_true (show ((j - k : Nat) : Int) = 0 by omega)]; rfl
    rw [if_neg h2]
    have hq := hj
    have hiq : i ≤ j := by omega
    simp only [hcond, cond_true]
    simp only [Option.bind_some, Int.ofNat_le, Int.toNat_natCast, hiq, hq, hm, decide_true, cond_true, cond_false, numROut, if_true, Bool.false_eq_true, if_false]
end Go.Ab

/- Plain law: words that are none; lists of nodes that are the same. -/
set_option linter.unusedVariables false
set_option linter.unusedSimpArgs false
namespace Go.Ab
open Go
variable {b : List Int} {i : Nat} {deep err e c : Int} {nodes : List Nd} {l : List Int} {x : Int}

theorem cut_head {n : Nat} {x : Int} {w : List Int} (hl : i < b.length) (h : b.getD i 0 ≠ x) : (b.take (i + n)).drop i ≠ x :: w := by
  intro he
  rw [List.drop_take] at he
  rw [drop_at hl] at he
  cases n with
  | zero => simp at he
  | succ n =>
    rw [show i + (n + 1) - i = n + 1 by omega, List.take_succ_cons] at he
    exact h (List.cons.inj he).1
theorem S_wordNo {w : List Int} (hi : i ≤ b.length) (hb : b.length ≤ 4096) (hw : w.length ≤ 100) (h : b.getD i 0 ≠ x) : S.wordR (x :: w) b i deep err nodes = some (false, b, (i : Int), deep, err, nodes) := by
  simp only [S.wordR, wordR_m, wordR_t]
  have hs : IntKind.i64.wrap ((b.length : Int) - (i : Int)) = ((b.length - i : Nat) : Int) := by rw [wrapI (by omega) (by omega)]; omega
  have hlen : (x :: w).length ≤ 101 := by simp; omega
  generalize hn : (x :: w).length = n at *
  have hw2 : IntKind.i64.wrap ((i : Int) + (n : Int)) = ((i + n : Nat) : Int) := by rw [wrapI (by omega) (by omega)]; omega
  simp only [hs, hw2, Int.toNat_natCast, Int.ofNat_lt, Int.ofNat_le, Int.natCast_nonneg, decide_true]
  by_cases hlt : b.length - i < n
  · simp only [hlt, decide_true, cond_true]
  · have h1 : i ≤ i + n := by omega
    have h2 : i + n ≤ b.length := by omega
    have hl : i < b.length := by simp at hn; omega
    have h4 : ((b.take (i + n)).drop i).length ≤ maxStr := by simp [maxStr]; omega
    have h5 := cut_head (w := w) (n := n) hl h
    simp only [hlt, h1, h2, h4, h5, decide_true, decide_false, cond_true, cond_false]
theorem wordJ_step {k : Nat} {t : Nat} {tab : List (List Int × Int × Unit)} {y : Int} {a : Int} {a2 : List Int} (hi : i ≤ b.length) (hb : b.length ≤ 4096) (ht : t < tab.length) (h3 : tab.length ≤ 100) {w : List Int} {kd : Int} (hg : tab.getD t (Ty.str.pr ((Ty.int .u8).pr Ty.un)).dflt = (y :: w, kd, ())) (hw : w.length ≤ 100) (h : b.getD i 0 ≠ y) :
    wordJ_m2 (k + 1) (tab.length : Int) (t : Int) b i deep err nodes a a2 tab = wordJ_m2 k (tab.length : Int) ((t + 1 : Nat) : Int) b i deep err nodes a a2 tab := by
  simp only [wordJ_m2, wordJ_t2]
  have hs : IntKind.i64.wrap ((b.length : Int) - (i : Int)) = ((b.length - i : Nat) : Int) := by rw [wrapI (by omega) (by omega)]; omega
  have hwt : IntKind.i64.wrap ((t : Int) + 1) = ((t + 1 : Nat) : Int) := by rw [wrapI (by omega) (by omega)]; omega
  have hlen : (y :: w).length ≤ 101 := by simp; omega
  simp only [Int.toNat_natCast, hg, hs, hwt]
  generalize hn : (y :: w).length = n at *
  have hw2 : IntKind.i64.wrap ((i : Int) + (n : Int)) = ((i + n : Nat) : Int) := by rw [wrapI (by omega) (by omega)]; omega
  simp only [hw2, Int.toNat_natCast, Int.ofNat_lt, Int.ofNat_le, Int.natCast_nonneg, decide_true, ht, cond_true]
  by_cases hle : n ≤ b.length - i
  · have h1 : i ≤ i + n := by omega
    have h2 : i + n ≤ b.length := by omega
    have hl : i < b.length := by simp at hn; omega
    have h4 : ((b.take (i + n)).drop i).length ≤ maxStr := by simp [maxStr]; omega
    have h5 := cut_head (w := w) (n := n) hl h
    simp only [hle, h1, h2, h4, h5, decide_true, decide_false, cond_true, cond_false]
  · simp only [hle, decide_false, cond_false, cond_true]
theorem S_wordJ (hi : i ≤ b.length) (hb : b.length ≤ 4096) (h1 : b.getD i 0 ≠ 116) (h2 : b.getD i 0 ≠ 102) (h3 : b.getD i 0 ≠ 110) :
    S.wordJ b i deep err nodes = some (0, [], [], [], b, (i : Int), deep, if err = 0 then 11 else err, nodes) := by
  show wordJ_m2 (999999996 + 1 + 1 + 1 + 1) ((3 : Nat) : Int) ((0 : Nat) : Int) b i deep err nodes 0 [] [([116, 114, 117, 101], 5, ()), ([102, 97, 108, 115, 101], 6, ()), ([110, 117, 108, 108], 7, ())] = _
  generalize htab : ([([116, 114, 117, 101], 5, ()), ([102, 97, 108, 115, 101], 6, ()), ([110, 117, 108, 108], 7, ())] : List (List Int × Int × Unit)) = tab
  have hl : tab.length = 3 := by rw [← htab]; rfl
  have e1 := wordJ_step (k := 999999996 + 1 + 1 + 1) (t := 0) (tab := tab) (y := 116) (w := [114, 117, 101]) (kd := 5) (deep := deep) (err := err) (nodes := nodes) (a := 0) (a2 := []) hi hb (by omega) (by omega) (by rw [← htab]; rfl) (by simp) h1
  have e2 := wordJ_step (k := 999999996 + 1 + 1) (t := 1) (tab := tab) (y := 102) (w := [97, 108, 115, 101]) (kd := 6) (deep := deep) (err := err) (nodes := nodes) (a := 0) (a2 := []) hi hb (by omega) (by omega) (by rw [← htab]; rfl) (by simp) h2
  have e3 := wordJ_step (k := 999999996 + 1) (t := 2) (tab := tab) (y := 110) (w := [117, 108, 108]) (kd := 7) (deep := deep) (err := err) (nodes := nodes) (a := 0) (a2 := []) hi hb (by omega) (by omega) (by rw [← htab]; rfl) (by simp) h3
  rw [hl] at e1 e2 e3
  rw [e1, e2, e3]
  show wordJ_t2 (wordJ_m2 999999996) some _ _ _ _ _ _ _ _ _ _ = _
  simp only [wordJ_t2]
  rw [decide_eq_false (show ¬ (((2 + 1 : Nat) : Int) < ((3 : Nat) : Int)) by omega)]
  simp only [cond_false, S_fail, Option.bind_some]
theorem run_idem {p : Int → Bool} (hi : i ≤ b.length) : run p b (run p b i) = run p b i := run_stop fun h => run_end hi h

/-! ### The same nodes -/
def Small (nodes : List Nd) : Prop := ∀ x ∈ nodes, x.2.2.1.length ≤ 5000 ∧ x.2.2.2.1.length ≤ 5000
abbrev nd0 : Nd := nodeT.dflt
end Go.Ab

/- Plain law: a list of nodes is the same as itself. -/
set_option linter.unusedVariables false
set_option linter.unusedSimpArgs false
namespace Go.Ab
open Go
variable {a : List Nd}
theorem same14 {t : Nat} (ht : t < a.length) (ha : a.length ≤ 300) {r : Nat} (hk : (a.getD t nd0).2.2.2.1.length ≤ 5000) : ∀ (d u : Nat), (a.getD t nd0).2.2.2.1.length = u + d → same_m14 (d + 1 + r) a a (t : Int) (u : Int) = same_m4 r a a ((t + 1 : Nat) : Int)
  | 0, u, h => by
    rw [show 0 + 1 + r = r + 1 by omega]
    simp only [same_m14, same_t14, Int.toNat_natCast]
    have e : (a.getD t (Ty.pr (Ty.int .u8) (Ty.pr .str (Ty.pr (.sl .str) (Ty.pr (.sl (.int .i64)) .un)))).dflt) = a.getD t nd0 := rfl
    simp only [e]
    have h1 : (t : Int) < (a.length : Int) := by omega
    have h2 : ¬ ((u : Int) < ((a.getD t nd0).2.2.2.1.length : Int)) := by omega
    have hw : IntKind.i64.wrap ((t : Int) + 1) = ((t + 1 : Nat) : Int) := by rw [wrapI (by omega) (by omega)]; omega
    simp only [h1, h2, hw, Int.natCast_nonneg, decide_true, decide_false, cond_true, cond_false]
  | d + 1, u, h => by
    rw [show d + 1 + 1 + r = (d + 1 + r) + 1 by omega]
    simp only [same_m14, same_t14, Int.toNat_natCast]
    have e : (a.getD t (Ty.pr (Ty.int .u8) (Ty.pr .str (Ty.pr (.sl .str) (Ty.pr (.sl (.int .i64)) .un)))).dflt) = a.getD t nd0 := rfl
    simp only [e]
    have h1 : (t : Int) < (a.length : Int) := by omega
    have h2 : ((u : Int) < ((a.getD t nd0).2.2.2.1.length : Int)) := by omega
    have hw : IntKind.i64.wrap ((u : Int) + 1) = ((u + 1 : Nat) : Int) := by rw [wrapI (by omega) (by omega)]; omega
    simp only [h1, h2, hw, Int.natCast_nonneg, decide_true, decide_false, cond_true, cond_false]
    exact same14 ht ha hk d (u + 1) (by omega)
theorem same9 {t : Nat} (ht : t < a.length) (ha : a.length ≤ 300) {r : Nat} (hk : (a.getD t nd0).2.2.1.length ≤ 5000) : ∀ (d u : Nat), (a.getD t nd0).2.2.1.length = u + d → same_m9 (d + 1 + r) a a (t : Int) (u : Int) = same_m14 r a a (t : Int) 0
  | 0, u, h => by
    rw [show 0 + 1 + r = r + 1 by omega]
    simp only [same_m9, same_t9, Int.toNat_natCast]
    have e : (a.getD t (Ty.pr (Ty.int .u8) (Ty.pr .str (Ty.pr (.sl .str) (Ty.pr (.sl (.int .i64)) .un)))).dflt) = a.getD t nd0 := rfl
    simp only [e]
    have h1 : (t : Int) < (a.length : Int) := by omega
    have h2 : ¬ ((u : Int) < ((a.getD t nd0).2.2.1.length : Int)) := by omega
    simp only [h1, h2, Int.natCast_nonneg, decide_true, decide_false, cond_true, cond_false]
  | d + 1, u, h => by
    rw [show d + 1 + 1 + r = (d + 1 + r) + 1 by omega]
    simp only [same_m9, same_t9, Int.toNat_natCast]
    have e : (a.getD t (Ty.pr (Ty.int .u8) (Ty.pr .str (Ty.pr (.sl .str) (Ty.pr (.sl (.int .i64)) .un)))).dflt) = a.getD t nd0 := rfl
    simp only [e]
    have h1 : (t : Int) < (a.length : Int) := by omega
    have h2 : ((u : Int) < ((a.getD t nd0).2.2.1.length : Int)) := by omega
    have hw : IntKind.i64.wrap ((u : Int) + 1) = ((u + 1 : Nat) : Int) := by rw [wrapI (by omega) (by omega)]; omega
    simp only [h1, h2, hw, Int.natCast_nonneg, decide_true, decide_false, cond_true, cond_false]
    exact same9 ht ha hk d (u + 1) (by omega)
theorem same4 (hs : Small a) (ha : a.length ≤ 300) : ∀ (d t k : Nat), a.length = t + d → d * 10010 + 1 ≤ k → same_m4 k a a (t : Int) = some true := by
  intro d
  induction d with
  | zero =>
    intro t k h hk
    obtain ⟨k, rfl⟩ : ∃ m, k = m + 1 := ⟨k - 1, by omega⟩
    simp only [same_m4, same_t4, Int.toNat_natCast]
    have h1 : ¬ ((t : Int) < (a.length : Int)) := by omega
    simp only [h1, decide_false, cond_false]
  | succ d ih =>
    intro t k h hk
    have ht : t < a.length := by omega
    have hx : a.getD t nd0 ∈ a := by rw [List.getD_eq_getElem?_getD, List.getElem?_eq_getElem ht]; exact List.getElem_mem ht
    obtain ⟨s1, s2⟩ := hs _ hx
    obtain ⟨r, rfl⟩ : ∃ r, k = ((a.getD t nd0).2.2.1.length + 1 + ((a.getD t nd0).2.2.2.1.length + 1 + r)) + 1 := ⟨k - ((a.getD t nd0).2.2.1.length + 1 + ((a.getD t nd0).2.2.2.1.length + 1)) - 1, by omega⟩
    simp only [same_m4, same_t4, Int.toNat_natCast]
    have h1 : (t : Int) < (a.length : Int) := by omega
    simp only [h1, Int.natCast_nonneg, decide_true, decide_false, cond_true, cond_false]
    have e9 := same9 ht ha s1 (r := (a.getD t nd0).2.2.2.1.length + 1 + r) (a.getD t nd0).2.2.1.length 0 (by omega)
    have e14 := same14 ht ha s2 (r := r) (a.getD t nd0).2.2.2.1.length 0 (by omega)
    rw [show ((0 : Nat) : Int) = 0 from rfl] at e9 e14
    rw [e9, e14]
    have hr : d * 10010 + 1 ≤ r := by
      clear e9 e14 ih h1 hx
      rw [Nat.succ_mul] at hk
      generalize (a.getD t nd0).2.2.1.length = N at *
      generalize (a.getD t nd0).2.2.2.1.length = K at *
      generalize d * 10010 = D at *
      omega
    exact ih (t + 1) r (by omega) hr
theorem same_self (hs : Small a) (ha : a.length ≤ 300) : S.same a a = some true := by
  simp only [S.same, same_m, same_t]
  have hK : a.length * 10010 + 1 ≤ 1000000000 := by omega
  have := same4 hs ha a.length 0 1000000000 (Nat.zero_add _).symm hK
  rw [show ((0 : Nat) : Int) = 0 from rfl] at this
  rw [this]
  simp
end Go.Ab

/- Plain law: arrays, read by both. -/
set_option linter.unusedVariables false
set_option linter.unusedSimpArgs false
namespace Go.Ab
open Go
variable {b : List Int} {i : Nat} {deep err e c : Int} {nodes : List Nd} {l : List Int} {x : Int}

noncomputable def vJ : Nat → valJ_T
  | 0 => fun _ _ _ _ _ => none
  | n + 1 => fun b at_ deep err nodes => S.valueJ (vJ n) b at_ deep err nodes
noncomputable def vR : Nat → valR_T
  | 0 => fun _ _ _ _ _ => none
  | n + 1 => fun b at_ deep err nodes => S.valueR (vR n) b at_ deep err nodes

def RelV (b : List Int) (i n0 : Nat) (deep : Int) (x y : Option (Int × List Int × Int × Int × Int × List Nd)) : Prop :=
  ∃ (v w : Int) (j j' : Nat) (er : Int) (ns ns' : List Nd), x = some (v, b, (j : Int), deep, er, ns) ∧ y = some (w, b, (j' : Int), deep, er, ns') ∧ j ≤ b.length ∧ j' ≤ b.length ∧ n0 ≤ ns.length ∧ n0 ≤ ns'.length ∧
    (er = 0 → v = w ∧ j = j' ∧ i ≤ j ∧ ns = ns' ∧ ns.length ≤ 256 ∧ Small ns)
def RelA (b : List Int) (i n0 : Nat) (deep : Int) (x y : Option (Int × List Int × List (List Int) × List Int × List Int × Int × Int × Int × List Nd)) : Prop :=
  ∃ (ks ks' : List Int) (j j' : Nat) (er : Int) (ns ns' : List Nd), x = some (2, [], [], ks, b, (j : Int), deep, er, ns) ∧ y = some (2, [], [], ks', b, (j' : Int), deep, er, ns') ∧ j ≤ b.length ∧ j' ≤ b.length ∧ n0 ≤ ns.length ∧ n0 ≤ ns'.length ∧
    (er = 0 → ks = ks' ∧ j = j' ∧ i ≤ j ∧ ns = ns' ∧ ns.length ≤ 256 ∧ Small ns ∧ ks.length ≤ 5000)
theorem RelA.mono {i' n1 : Nat} {x y : Option (Int × List Int × List (List Int) × List Int × List Int × Int × Int × Int × List Nd)} (h : RelA b i n1 deep x y) (hi : i' ≤ i) {n0 : Nat} (hn : n0 ≤ n1) : RelA b i' n0 deep x y := by
  obtain ⟨ks, ks', j, j', er, ns, ns', h1, h2, h3, h4, h5, h6, h7⟩ := h
  refine ⟨ks, ks', j, j', er, ns, ns', h1, h2, h3, h4, by omega, by omega, fun h => ?_⟩
  obtain ⟨a1, a2, a3, a4⟩ := h7 h
  exact ⟨a1, a2, by omega, a4⟩
section
variable {V : valJ_T} {W : valR_T} {k : Nat}
theorem m6_eq {at_ o1 o2 : Int} {o3 : List Nd} {a : Int} {a2 : List Int} {c1 : Int} {c2 d1 : List Int} : arrJ_m6 V (k + 1) b at_ o1 o2 o3 a a2 c1 c2 d1 = arrJ_t6 V (arrJ_m6 V k) (arrJ_m1010 V k) some b at_ o1 o2 o3 a a2 c1 c2 d1 := by rw [arrJ_m6]
theorem m1010_eq {at_ o1 o2 : Int} {o3 : List Nd} {a : Int} {a2 : List Int} {c1 : Int} {c2 d1 : List Int} : arrJ_m1010 V (k + 1) b at_ o1 o2 o3 a a2 c1 c2 d1 = arrJ_t1010 V (arrJ_m6 V k) (arrJ_m1010 V k) some b at_ o1 o2 o3 a a2 c1 c2 d1 := by rw [arrJ_m1010]
theorem r16_eq {t4 at_ o1 o2 : Int} {o3 : List Nd} {a : Int} {a2 : List Int} {c1 : Int} {c2 : List Int} {d0 : List (List Int)} {d1 : List Int} : groupR_m16 W (k + 1) t4 b at_ o1 o2 o3 a a2 c1 c2 d0 d1 = groupR_t16 W (groupR_m16 W k) (groupR_m1019 W k) (groupR_m1023 W k) some t4 b at_ o1 o2 o3 a a2 c1 c2 d0 d1 := by rw [groupR_m16]
theorem r1019_eq {t4 at_ o1 o2 : Int} {o3 : List Nd} {a : Int} {a2 : List Int} {c1 : Int} {c2 : List Int} {d0 : List (List Int)} {d1 : List Int} : groupR_m1019 W (k + 1) t4 b at_ o1 o2 o3 a a2 c1 c2 d0 d1 = groupR_t1019 W (groupR_m16 W k) (groupR_m1019 W k) (groupR_m1023 W k) some t4 b at_ o1 o2 o3 a a2 c1 c2 d0 d1 := by rw [groupR_m1019]
theorem r1023_eq {t4 at_ o1 o2 : Int} {o3 : List Nd} {a : Int} {a2 : List Int} {c1 : Int} {c2 : List Int} {d0 : List (List Int)} {d1 : List Int} : groupR_m1023 W (k + 1) t4 b at_ o1 o2 o3 a a2 c1 c2 d0 d1 = groupR_t1023 W (groupR_m16 W k) (groupR_m1019 W k) (groupR_m1023 W k) some t4 b at_ o1 o2 o3 a a2 c1 c2 d0 d1 := by rw [groupR_m1023]
theorem sk_le (hi : i ≤ b.length) : sk b i ≤ b.length := run_le hi
theorem sk_ge : i ≤ sk b i := run_ge ..

theorem arr_loop (hb : b.length ≤ 4096) (hd0 : 0 ≤ deep) (hd8 : deep ≤ 8) (hV : ∀ (p : Nat) (ns : List Nd), p ≤ b.length → ns.length ≤ 256 → Small ns → RelV b p ns.length (deep + 1) (V b p (deep + 1) 0 ns) (W b p (deep + 1) 0 ns)) :
    ∀ (d p : Nat) (ks : List Int) (ns : List Nd) (kJ kR : Nat), p ≤ b.length → b.length - p ≤ d → ns.length ≤ 256 → Small ns → ks.length ≤ p → 2 * d + 4 ≤ kJ → 3 * d + 6 ≤ kR → ∀ (a a' : Int) (a2 a2' : List Int),
      RelA b p ns.length deep (arrJ_m6 V kJ b p (deep + 1) 0 ns a a2 2 [] ks) (groupR_m16 W kR 93 b p (deep + 1) 0 ns a' a2' 2 [] [] ks) := by
  intro d
  induction d using Nat.strongRecOn with
  | ind d ih =>
  intro p ks ns kJ0 kR0 hp hdp hn hs hks hkJ hkR a a' a2 a2'
  obtain ⟨kJ, rfl⟩ : ∃ m, kJ0 = m + 1 + 1 + 1 := ⟨kJ0 - 3, by omega⟩
  obtain ⟨kR, rfl⟩ : ∃ m, kR0 = m + 1 + 1 + 1 + 1 := ⟨kR0 - 4, by omega⟩
  obtain ⟨v, w, j, j', er, ns1, ns1', hx, hy, hj, hj', hn1, hn1', hz⟩ := hV p ns hp hn hs
  have hw : IntKind.i64.wrap (deep + 1 - 1) = deep := by rw [wrapI (by omega) (by omega)]; omega
  have hkl : (ks.length + 1) * 8 ≤ maxBytes := by simp [maxBytes]; omega
  rw [m6_eq, r16_eq]
  simp only [arrJ_t6, groupR_t16, decide_true, cond_true]
  rw [show decide ((2 : Int) = 1) = false from rfl]
  simp only [cond_false]
  rw [r1019_eq]
  simp only [groupR_t1019, decide_true]
  rw [hx, hy]
  simp only [Option.bind_some, hkl, decide_true, cond_true, cond_false]
  by_cases he : er = 0
  · subst he
    obtain ⟨rfl, rfl, hpj, rfl, hn256, hs1⟩ := hz rfl
    have hsj : sk b j ≤ b.length := sk_le hj
    have hsg : j ≤ sk b j := sk_ge
    rw [sign_at hj hb (by decide)]
    simp only [Option.bind_some, decide_true, cond_true, cond_false]
    rw [r1023_eq]
    simp only [groupR_t1023]
    rw [S_blank hj hb]
    simp only [Option.bind_some]
    rw [is_at hsj (by decide)]
    simp only [Option.bind_some]
    by_cases h93 : b.getD (sk b j) 0 = 93
    · have hlt := getD_lt (by decide) h93
      have hw2 : IntKind.i64.wrap ((sk b j : Int) + 1) = ((sk b j + 1 : Nat) : Int) := by rw [wrapI (by omega) (by omega)]; omega
      simp only [h93, decide_true, cond_true, if_true, hw, hw2]
      exact ⟨_, _, _, _, 0, _, _, rfl, rfl, by omega, by omega, hn1, hn1, fun _ => ⟨rfl, rfl, by omega, rfl, hn256, hs1, by simp; omega⟩⟩
    · simp only [h93, decide_false, cond_false, if_false]
      rw [m1010_eq]
      simp only [arrJ_t1010]
      rw [sign_at hsj hb (by decide), S_word1 (x := 44) hsj hb (by decide)]
      simp only [Option.bind_some]
      have hid : sk b (sk b j) = sk b j := run_idem hj
      rw [hid]
      by_cases h44 : b.getD (sk b j) 0 = 44
      · have hlt := getD_lt (by decide) h44
        rw [opt_in (show b.getD (sk b j) 0 ∈ [(44 : Int)] by rw [h44]; simp)]
        simp only [h44, decide_true, if_true, cond_false]
        exact (ih (d - 1) (by omega) (sk b j + 1) (ks.append [v]) ns1 (kJ + 1) (kR + 1) (by omega) (by omega) hn256 hs1 (by simp; omega) (by omega) (by omega) a a' a2 a2').mono (by omega) hn1
      · rw [opt_out (show b.getD (sk b j) 0 ∉ [(44 : Int)] by simpa using h44)]
        simp only [h44, decide_false, if_false, cond_true]
        rw [S_fail, S_bad]
        simp only [Option.bind_some, if_true]
        rw [m6_eq, r16_eq]
        simp only [arrJ_t6, groupR_t16]
        rw [show decide ((11 : Int) = 0) = false from rfl]
        simp only [cond_false, hw]
        exact ⟨_, _, _, _, 11, _, _, rfl, rfl, by omega, by omega, hn1, hn1, fun h => absurd h (by decide)⟩
  · rw [S_signE he (by decide)]
    simp only [Option.bind_some, cond_false]
    rw [m1010_eq]
    simp only [arrJ_t1010]
    rw [S_signE he (by decide)]
    simp only [Option.bind_some, cond_true]
    rw [S_fail]
    simp only [Option.bind_some, he, if_false]
    rw [m6_eq]
    simp only [arrJ_t6, he, decide_false, cond_false, cond_true, hw]
    exact ⟨_, _, _, _, er, _, _, rfl, rfl, hj, hj', hn1, hn1', fun h => absurd h he⟩
end
end Go.Ab

/- Plain law: values, read by both; texts without quotes, braces, words. -/
set_option linter.unusedVariables false
set_option linter.unusedSimpArgs false
namespace Go.Ab
open Go
variable {b : List Int} {i : Nat} {deep err e c : Int} {nodes ns : List Nd} {l : List Int} {x : Int} {V : valJ_T} {W : valR_T}

theorem S_open (hi : i < b.length) (hb : b.length ≤ 4096) (hd0 : 0 ≤ deep) (hd8 : deep ≤ 8) : S.openB b i deep 0 ns = some (b, ((i + 1 : Nat) : Int), deep + 1, if deep + 1 > 8 then 13 else 0, ns) := by
  simp only [S.openB, openB_m, openB_t]
  have hw : IntKind.i64.wrap (deep + 1) = deep + 1 := wrapI (by omega) (by omega)
  have hw2 : IntKind.i64.wrap ((i : Int) + 1) = ((i + 1 : Nat) : Int) := by rw [wrapI (by omega) (by omega)]; omega
  simp only [hw, hw2, S_fail, Option.bind_some, if_true]
  by_cases h : deep + 1 > 8
  · simp only [h, decide_true, cond_true, if_true]
  · simp only [h, decide_false, cond_false, if_false]
theorem arr_rel (hb : b.length ≤ 4096) (hd0 : 0 ≤ deep) (hd8 : deep ≤ 8) (h91 : b.getD i 0 = 91) (hn : ns.length ≤ 256) (hs : Small ns)
    (hV : deep < 8 → ∀ (p : Nat) (ns : List Nd), p ≤ b.length → ns.length ≤ 256 → Small ns → RelV b p ns.length (deep + 1) (V b p (deep + 1) 0 ns) (W b p (deep + 1) 0 ns)) :
    RelA b i ns.length deep (S.arrJ V b i deep 0 ns) (S.groupR W b i deep 0 ns) := by
  have hi := getD_lt (by decide) h91
  have hw : IntKind.i64.wrap (deep + 1 - 1) = deep := by rw [wrapI (by omega) (by omega)]; omega
  have hwd : IntKind.i64.wrap (deep + 1) = deep + 1 := wrapI (by omega) (by omega)
  have hw2 : IntKind.i64.wrap ((i : Int) + 1) = ((i + 1 : Nat) : Int) := by rw [wrapI (by omega) (by omega)]; omega
  simp only [S.arrJ, arrJ_m, arrJ_t, S.groupR, groupR_m, groupR_t]
  rw [S_open hi hb hd0 hd8, is_at (show i ≤ b.length by omega) (by decide)]
  simp only [Option.bind_some]
  rw [h91]
  rw [show decide ((91 : Int) = 123) = false from rfl]
  simp only [cond_false]
  by_cases h8 : deep = 8
  · subst h8
    rw [if_pos (by decide), S_signE (by decide) (by decide)]
    simp only [Option.bind_some, cond_false]
    show RelA _ _ _ _ (arrJ_m6 V (999999999 + 1) _ _ _ _ _ _ _ _ _ _) _
    rw [m6_eq]
    simp only [arrJ_t6]
    rw [show decide ((13 : Int) = 0) = false from rfl]
    simp only [cond_false, hw, decide_true, cond_true]
    rw [S_bad]
    simp only [Option.bind_some, if_true]
    exact ⟨_, _, i + 1, i, 13, _, _, rfl, rfl, by omega, by omega, Nat.le_refl _, Nat.le_refl _, fun h => absurd h (by decide)⟩
  · have h8' : deep < 8 := by omega
    rw [if_neg (by omega), sign_at (show i + 1 ≤ b.length by omega) hb (by decide)]
    simp only [Option.bind_some, h8, decide_false, cond_false, hwd, hw2]
    rw [S_blank (show i + 1 ≤ b.length by omega) hb]
    simp only [Option.bind_some]
    have hsj : sk b (i + 1) ≤ b.length := sk_le (by omega)
    have hsg : i + 1 ≤ sk b (i + 1) := sk_ge
    rw [is_at hsj (by decide)]
    simp only [Option.bind_some]
    by_cases h93 : b.getD (sk b (i + 1)) 0 = 93
    · have hlt := getD_lt (by decide) h93
      have hw3 : IntKind.i64.wrap ((sk b (i + 1) : Int) + 1) = ((sk b (i + 1) + 1 : Nat) : Int) := by rw [wrapI (by omega) (by omega)]; omega
      simp only [h93, decide_true, cond_true, if_true, hw, hw3]
      exact ⟨_, _, _, _, 0, _, _, rfl, rfl, by omega, by omega, Nat.le_refl _, Nat.le_refl _, fun _ => ⟨rfl, rfl, by omega, rfl, hn, hs, by simp⟩⟩
    · simp only [h93, decide_false, cond_false, if_false]
      have hK1 : 2 * b.length + 4 ≤ 1000000000 := by omega
      have hK2 : 3 * b.length + 6 ≤ 1000000000 := by omega
      exact (arr_loop hb hd0 hd8 (hV h8') b.length (sk b (i + 1)) [] ns 1000000000 1000000000 hsj (by omega) hn hs (Nat.zero_le _) hK1 hK2 0 0 [] []).mono (by omega) (Nat.le_refl _)

/-! ### Values -/
def Plain (b : List Int) : Prop := ∀ j, b.getD j 0 ≠ 34 ∧ b.getD j 0 ≠ 123 ∧ b.getD j 0 ≠ 116 ∧ b.getD j 0 ≠ 102 ∧ b.getD j 0 ≠ 110
theorem v1018 {t at_ o1 o2 : Int} {o3 : List Nd} {a : Int} {a2 : List Int} {a3 : List (List Int)} {a4 : List Int} : valueJ_m1018 V 1000000000 t b at_ o1 o2 o3 a a2 a3 a4 = valueJ_t1018 V (valueJ_m1018 V 999999999) some t b at_ o1 o2 o3 a a2 a3 a4 := by
  show valueJ_m1018 V (999999999 + 1) t b at_ o1 o2 o3 a a2 a3 a4 = _
  rw [valueJ_m1018]
theorem v1023 {t : Int} {t5 : Bool} {at_ o1 o2 : Int} {o3 : List Nd} {a : Int} {a2 : List Int} {a3 : List (List Int)} {a4 : List Int} : valueR_m1023 W 1000000000 t t5 b at_ o1 o2 o3 a a2 a3 a4 = valueR_t1023 W (valueR_m1023 W 999999999) some t t5 b at_ o1 o2 o3 a a2 a3 a4 := by
  show valueR_m1023 W (999999999 + 1) t t5 b at_ o1 o2 o3 a a2 a3 a4 = _
  rw [valueR_m1023]
theorem Small.set {x : Nd} (hs : Small ns) (h1 : x.2.2.1.length ≤ 5000) (h2 : x.2.2.2.1.length ≤ 5000) (t : Nat) : Small (ns.set t x) := by
  intro y hy
  rcases List.mem_or_eq_of_mem_set hy with h | h
  · exact hs y h
  · subst h; exact ⟨h1, h2⟩
theorem Small.add (hs : Small ns) : Small (ns.append [((0 : Int), ([] : List Int), ([] : List (List Int)), ([] : List Int), ())]) := by
  intro y hy
  rcases List.mem_append.1 hy with h | h
  · exact hs y h
  · simp at h; subst h; exact ⟨by simp, by simp⟩
/-- What was read is laid where it belongs. -/
theorem put_J {t j : Nat} {a : Int} {a2 : List Int} {a3 : List (List Int)} {a4 : List Int} (ht : t < ns.length) : valueJ_m1018 V 1000000000 (t : Int) b (j : Int) deep err ns a a2 a3 a4 = some ((t : Int), b, (j : Int), deep, err, ns.set t (a, a2, a3, a4, ())) := by
  rw [v1018]
  simp only [valueJ_t1018, Int.toNat_natCast, Int.natCast_nonneg, Int.ofNat_lt, ht, decide_true, cond_true]
theorem put_R {t j : Nat} {ok : Bool} {a : Int} {a2 : List Int} {a3 : List (List Int)} {a4 : List Int} (ht : t < ns.length) : valueR_m1023 W 1000000000 (t : Int) ok b (j : Int) deep err ns a a2 a3 a4 = some ((t : Int), b, (j : Int), deep, if ok = true then err else (if err = 0 then 11 else err), ns.set t (a, a2, a3, a4, ())) := by
  rw [v1023]
  simp only [valueR_t1023, Int.toNat_natCast, Int.natCast_nonneg, Int.ofNat_lt, ht, decide_true, cond_true, S_bad, Option.bind_some]
  cases ok <;> simp
theorem val_step (hb : b.length ≤ 4096) (hP : Plain b) (hi : i ≤ b.length) (hd0 : 0 ≤ deep) (hd8 : deep ≤ 8) (hn : ns.length ≤ 256) (hs : Small ns)
    (hV : deep < 8 → ∀ (p : Nat) (ns : List Nd), p ≤ b.length → ns.length ≤ 256 → Small ns → RelV b p ns.length (deep + 1) (V b p (deep + 1) 0 ns) (W b p (deep + 1) 0 ns)) :
    RelV b i ns.length deep (S.valueJ V b i deep 0 ns) (S.valueR W b i deep 0 ns) := by
  have hsj : sk b i ≤ b.length := sk_le hi
  have hsg : i ≤ sk b i := sk_ge
  simp only [S.valueJ, valueJ_m, valueJ_t, S.valueR, valueR_m, valueR_t]
  rw [S_here hi hb, S_blank hi hb]
  simp only [Option.bind_some, decide_true, cond_true]
  by_cases h256 : ns.length = 256
  · have g1 : ((ns.length : Int) ≥ 256) := by omega
    have g2 : ((ns.length : Int) = 256) := by omega
    simp only [g1, g2, decide_true, cond_true]
    rw [S_fail, S_bad]
    simp only [Option.bind_some, if_true]
    rw [show decide ((14 : Int) = 0) = false from rfl]
    simp only [cond_true]
    exact ⟨_, _, _, _, 14, _, _, rfl, rfl, hsj, hsj, Nat.le_refl _, Nat.le_refl _, fun h => absurd h (by decide)⟩
  · have g1 : ¬ ((ns.length : Int) ≥ 256) := by omega
    have g2 : ¬ ((ns.length : Int) = 256) := by omega
    have g3 : (ns.length + 1) * 72 ≤ maxBytes := by simp [maxBytes]; omega
    simp only [g1, g2, g3, decide_true, decide_false, cond_true, cond_false]
    obtain ⟨p1, p2, p3, p4, p5⟩ := hP (sk b i)
    generalize hns1 : ns.append [((0 : Int), ([] : List Int), ([] : List (List Int)), ([] : List Int), ())] = ns1
    have hl1 : ns1.length = ns.length + 1 := by rw [← hns1]; simp
    have hs1 : Small ns1 := by rw [← hns1]; exact hs.add
    generalize hs' : sk b i = s at *
    rw [is_at hsj (by decide)]
    simp only [Option.bind_some, p2, decide_false, cond_false]
    rw [is_at hsj (by decide)]
    simp only [Option.bind_some]
    by_cases h91 : b.getD s 0 = 91
    · simp only [h91, decide_true, cond_true]
      obtain ⟨ks, ks', j, j', er, n2, n2', hx, hy, hj, hj', hm, hm', hz⟩ := arr_rel (V := V) (W := W) hb hd0 hd8 h91 (show ns1.length ≤ 256 by omega) hs1 hV
      rw [hx, hy]
      simp only [Option.bind_some]
      rw [put_J (show ns.length < n2.length by omega), put_R (show ns.length < n2'.length by omega)]
      refine ⟨_, _, j, j', er, _, _, rfl, rfl, hj, hj', by simp; omega, by simp; omega, fun h => ?_⟩
      obtain ⟨rfl, rfl, hij, rfl, q1, q2, q3⟩ := hz h
      exact ⟨rfl, rfl, by omega, rfl, by simpa using q1, q2.set (by simp) q3 _⟩
    · simp only [h91, decide_false, cond_false, p1]
      rw [is_at hsj (by decide)]
      simp only [Option.bind_some, p1, decide_false, cond_false]
      rw [S_wordNo hsj hb (by simp) p3]
      simp only [Option.bind_some, cond_false]
      rw [S_wordNo hsj hb (by simp) p4]
      simp only [Option.bind_some, cond_false]
      rw [S_wordNo hsj hb (by simp) p5]
      simp only [Option.bind_some, cond_false]
      rw [S_numR hsj hb]
      simp only [Option.bind_some, numROut]
      rw [put_R (show ns.length < ns1.length by omega)]
      have hle := numF_le hsj
      by_cases hnum : b.getD s 0 = 45 ∨ (48 ≤ b.getD s 0 ∧ b.getD s 0 ≤ 57)
      · have hc : (bif decide (b.getD s 0 = 45) then true else bif decide (b.getD s 0 ≥ 48) then decide (b.getD s 0 ≤ 57) else false) = true := by
          rcases hnum with h | ⟨h1, h2⟩
          · rw [decide_eq_true h]; rfl
          · by_cases h3 : b.getD s 0 = 45
            · rw [decide_eq_true h3]; rfl
            · rw [decide_eq_false h3, decide_eq_true (show b.getD s 0 ≥ 48 from h1), decide_eq_true h2]; rfl
        simp only [hc, cond_true]
        rw [S_numJ hsj hb]
        simp only [Option.bind_some, numOut]
        rw [put_J (show ns.length < ns1.length by omega)]
        refine ⟨_, _, _, _, _, _, _, rfl, rfl, hle, hle, by simp; omega, by simp; omega, fun h => ?_⟩
        have hge := numF_ge (b := b) (i := s)
        cases hok : (numF b s).1 with
        | false => rw [hok] at h; simp at h
        | true => exact ⟨rfl, rfl, by omega, by simp, by simp; omega, hs1.set (by simp) (by simp) _⟩
      · have hc : (bif decide (b.getD s 0 = 45) then true else bif decide (b.getD s 0 ≥ 48) then decide (b.getD s 0 ≤ 57) else false) = false := by
          rw [decide_eq_false (fun h => hnum (.inl h))]
          by_cases h3 : b.getD s 0 ≥ 48
          · rw [decide_eq_true h3, decide_eq_false (fun h => hnum (.inr ⟨h3, h⟩))]; rfl
          · rw [decide_eq_false h3]; rfl
        simp only [hc, cond_false]
        rw [S_wordJ hsj hb p3 p4 p5]
        simp only [Option.bind_some, if_true]
        rw [put_J (show ns.length < ns1.length by omega)]
        have ho : opt [45] b s = s := opt_out (by simpa using fun h => hnum (.inl h))
        have hd : dg b s = s := run_stop fun _ => by
          simp only [isDg]
          by_cases h3 : 48 ≤ b.getD s 0
          · rw [decide_eq_false (show ¬ b.getD s 0 ≤ 57 from fun h => hnum (.inr ⟨h3, h⟩))]; simp
          · rw [decide_eq_false h3]; rfl
        have hF : numF b s = (false, s) := by
          unfold numF
          rw [ho, hd, if_neg (fun h => absurd h.1 (Nat.lt_irrefl _))]
        rw [hF]
        simp only [Bool.false_eq_true, if_false, if_true]
        exact ⟨_, _, s, s, 11, _, _, rfl, rfl, hsj, hsj, by simp; omega, by simp; omega, fun h => absurd h (by decide)⟩
theorem val_rel (hb : b.length ≤ 4096) (hP : Plain b) : ∀ (n : Nat) (i : Nat) (deep : Int) (ns : List Nd), i ≤ b.length → 0 ≤ deep → deep ≤ 8 → 9 ≤ n + deep → ns.length ≤ 256 → Small ns → RelV b i ns.length deep (vJ n b i deep 0 ns) (vR n b i deep 0 ns)
  | 0, i, deep, ns, _, _, h8, h9, _, _ => by omega
  | n + 1, i, deep, ns, hi, h0, h8, h9, hn, hs => by
    show RelV b i ns.length deep (S.valueJ (vJ n) b i deep 0 ns) (S.valueR (vR n) b i deep 0 ns)
    exact val_step hb hP hi h0 h8 hn hs fun h p ns hp hn hs => val_rel hb hP n p (deep + 1) ns hp (by omega) (by omega) (by omega) hn hs
end Go.Ab

/- Plain law: whole texts; the law of numbers. -/
set_option linter.unusedVariables false
set_option linter.unusedSimpArgs false
namespace Go.Ab
open Go
variable {b : List Int} {i : Nat} {deep err e c : Int} {nodes ns : List Nd} {l : List Int} {x : Int} {V : valJ_T} {W : valR_T}

theorem pJ1004 {t : List Int} {at_ o1 o2 : Int} {o3 : List Nd} : parseJ_m1004 V 1000000000 t b at_ o1 o2 o3 = parseJ_t1004 V (parseJ_m1004 V 999999999) some t b at_ o1 o2 o3 := by
  show parseJ_m1004 V (999999999 + 1) t b at_ o1 o2 o3 = _
  rw [parseJ_m1004]
theorem pR1004 {t : List Int} {at_ o1 o2 : Int} {o3 : List Nd} : parseR_m1004 W 1000000000 t b at_ o1 o2 o3 = parseR_t1004 W (parseR_m1004 W 999999999) some t b at_ o1 o2 o3 := by
  show parseR_m1004 W (999999999 + 1) t b at_ o1 o2 o3 = _
  rw [parseR_m1004]
/-- Both readers answer alike. -/
theorem parse_rel (hb : b.length ≤ 4096) (hV : RelV b 0 0 0 (V b 0 0 0 []) (W b 0 0 0 [])) :
    ∃ er ns, S.parseJ V b = some (ns, er) ∧ S.parseR W b = some (ns, er) ∧ ns.length ≤ 256 ∧ Small ns := by
  obtain ⟨v, w, j, j', er, n2, n2', hx, hy, hj, hj', _, _, hz⟩ := hV
  simp only [S.parseJ, parseJ_m, parseJ_t, S.parseR, parseR_m, parseR_t]
  have g1 : ¬ ((b.length : Int) > 4096) := by omega
  simp only [g1, decide_false, cond_false]
  rw [pJ1004, pR1004]
  simp only [parseJ_t1004, parseR_t1004]
  rw [hx, hy]
  simp only [Option.bind_some]
  by_cases he : er = 0
  · subst he
    obtain ⟨_, rfl, _, rfl, h256, hs⟩ := hz rfl
    have hsj : sk b j ≤ b.length := sk_le hj
    rw [S_here hj hb, S_blank hj hb]
    simp only [Option.bind_some, Int.ofNat_lt]
    by_cases hlt : sk b j < b.length
    · simp only [hlt, decide_true, cond_true]
      rw [S_fail, S_bad]
      simp only [Option.bind_some, if_true]
      rw [show decide ((11 : Int) = 0) = false from rfl]
      refine ⟨11, [], ?_, rfl, by simp, fun x hx => by simp at hx⟩
      cases decide (b.getD (sk b j) 0 = 0) <;> rfl
    · have h0 : b.getD (sk b j) 0 = 0 := by rw [List.getD_eq_getElem?_getD, List.getElem?_eq_none (by omega)]; rfl
      simp only [h0, hlt, decide_true, decide_false, cond_true, cond_false]
      exact ⟨0, n2, rfl, rfl, h256, hs⟩
  · rw [S_hereE he, S_blank hj' hb]
    simp only [Option.bind_some]
    rw [S_fail]
    simp only [Option.bind_some, he, decide_true, decide_false, cond_true, cond_false, if_false]
    refine ⟨er, [], ?_, rfl, by simp, fun x hx => by simp at hx⟩
    cases decide ((j : Int) < (b.length : Int)) <;> rfl
theorem told_true (hb : b.length ≤ 4096) (hP : Plain b) : S.told (vJ 9) (vR 9) b = some true := by
  obtain ⟨er, ns, h1, h2, h3, h4⟩ := parse_rel hb (val_rel hb hP 9 0 0 [] (Nat.zero_le _) (by decide) (by decide) (by decide) (by simp) (fun x hx => by simp at hx))
  simp only [S.told, told_m, told_t]
  have hm : (0 + b.length) * 1 ≤ maxBytes := by simp [maxBytes]; omega
  rw [h1, h2]
  simp only [hm, decide_true, cond_true, Option.bind_some]
  rw [same_self h4 (by omega)]
  rfl
/-! ### The law of numbers -/
def alpha : List Int := [48, 49, 50, 51, 52, 53, 54, 55, 56, 57, 45, 43, 46, 101, 69, 48]
def okSign (x : Int) : Prop := x ≠ 34 ∧ x ≠ 123 ∧ x ≠ 116 ∧ x ≠ 102 ∧ x ≠ 110
theorem plain_of {b : List Int} (h : ∀ x ∈ b, okSign x) : Plain b := fun j => by
  by_cases hj : j < b.length
  · have : b.getD j 0 ∈ b := by rw [List.getD_eq_getElem?_getD, List.getElem?_eq_getElem hj]; exact List.getElem_mem hj
    exact h _ this
  · rw [List.getD_eq_getElem?_getD, List.getElem?_eq_none (by omega)]
    simp
theorem alpha_ok {k : Nat} : okSign (alpha.getD k 0) := by
  by_cases hk : k < 16
  · have : ∀ k : _root_.Fin 16, okSign (alpha.getD k.val 0) := by unfold okSign alpha; decide
    exact this ⟨k, hk⟩
  · rw [List.getD_eq_getElem?_getD, List.getElem?_eq_none (by simp [alpha]; omega)]
    simp [okSign]
theorem ok_append {s t : List Int} (hs : ∀ x ∈ s, okSign x) (ht : ∀ x ∈ t, okSign x) : ∀ x ∈ s.append t, okSign x := fun x hx => by
  rcases List.mem_append.1 hx with h | h
  · exact hs x h
  · exact ht x h
theorem numbers_end (t : List Int) (ht : t.length ≤ 100) (hok : ∀ x ∈ t, okSign x) (t11 : List Int) (n : Int) (k : Nat) : numbers_m7 (vJ 9) (vR 9) (k + 1) t t11 n n = some true := by
  simp only [numbers_m7, numbers_t7]
  have h1 : ¬ (n < n) := by omega
  rw [told_true (by omega) (plain_of hok)]
  simp only [h1, decide_false, cond_false, Option.bind_some, cond_true]
  have hl : ∀ s u : List Int, (s.append u).length = s.length + u.length := fun s u => by simp
  have hmx : ∀ n : Nat, n ≤ 1000 → decide (n ≤ maxStr) = true := fun n hn => decide_eq_true (by simp [maxStr]; omega)
  have h44 : ∀ x ∈ ([44] : List Int), okSign x := by simp [okSign]
  have h93 : ∀ x ∈ ([93] : List Int), okSign x := by simp [okSign]
  have h91 : okSign 91 := by simp [okSign]
  rw [hmx _ (by omega), hmx _ (by omega), hmx _ (by simp; omega), hmx _ (by simp; omega)]
  simp only [cond_true]
  rw [told_true (b := (91 : Int) :: ((t.append [44]).append t).append [93]) (by simp; omega) (plain_of fun x hx => by
    rcases List.mem_cons.1 hx with h | h
    · subst h; exact h91
    · exact ok_append (ok_append (ok_append hok h44) hok) h93 x h)]
  rfl
theorem numbers_loop (hl : ∀ x ∈ l, 0 ≤ x ∧ x ≤ 255) (hlen : l.length ≤ 100) : ∀ (d j k : Nat) (t : List Int), l.length = j + d → t.length = j → (∀ x ∈ t, okSign x) → d + 1 ≤ k → numbers_m7 (vJ 9) (vR 9) k t l l.length j = some true := by
  intro d
  induction d with
  | zero =>
    intro j k t h ht hok hk
    obtain ⟨k, rfl⟩ : ∃ m, k = m + 1 := ⟨k - 1, by omega⟩
    have : (j : Int) = (l.length : Int) := by omega
    rw [this]
    exact numbers_end t (by omega) hok l _ k
  | succ d ih =>
    intro j k t h ht hok hk
    obtain ⟨k, rfl⟩ : ∃ m, k = m + 1 := ⟨k - 1, by omega⟩
    simp only [numbers_m7, numbers_t7, getD_cast]
    have h1 : (j : Int) < (l.length : Int) := by omega
    have hx : l.getD j 0 ∈ l := by rw [List.getD_eq_getElem?_getD, List.getElem?_eq_getElem (by omega)]; exact List.getElem_mem _
    obtain ⟨x0, x1⟩ := hl _ hx
    have hm : Int.tmod (l.getD j 0) 16 = (l.getD j 0) % 16 := Int.tmod_eq_emod_of_nonneg x0
    have m0 : 0 ≤ Int.tmod (l.getD j 0) 16 := by rw [hm]; omega
    have m1 : Int.tmod (l.getD j 0) 16 < 16 := by rw [hm]; omega
    have m2 : t.length + 1 ≤ maxStr := by simp [maxStr]; omega
    have hw : IntKind.i64.wrap ((j : Int) + 1) = ((j + 1 : Nat) : Int) := by rw [wrapI (by omega) (by omega)]; omega
    have m1' : Int.tmod (l.getD j 0) 16 < ((16 : Nat) : Int) := m1
    simp only [h1, m0, m1, m1', m2, hw, Int.natCast_nonneg, decide_true, cond_true]
    refine ih (j + 1) k _ (by omega) (by simp; omega) (ok_append hok fun x hx => ?_) (by omega)
    simp only [List.mem_singleton] at hx
    subst hx
    exact alpha_ok
theorem awake_true : S.awake (vJ 9) = some true := by kernel_rfl
theorem numbers_true (hl : ∀ x ∈ l, 0 ≤ x ∧ x ≤ 255) : S.numbers (vJ 9) (vR 9) l = some true := by
  simp only [S.numbers, numbers_m, numbers_t]
  rw [awake_true]
  simp only [Option.bind_some, cond_false]
  by_cases h : l.length > 100
  · have : (l.length : Int) > 100 := by omega
    simp only [this, decide_true, cond_true]
  · have : ¬ ((l.length : Int) > 100) := by omega
    simp only [this, decide_false, cond_false]
    have hK : l.length + 1 ≤ 1000000000 := by omega
    exact numbers_loop hl (by omega) l.length 0 1000000000 [] (by omega) rfl (fun x hx => by simp at hx) hK
end Go.Ab
