/- Plain law: texts of plain signs; as many as may be. -/
import Derived.Test.YtknccfhaoclimaaDoorP
import Derived.Test.YtknccfhaoclimaaDoorLa

set_option linter.unusedVariables false
set_option linter.unusedSimpArgs false
namespace Go.Ab
open Go
variable {b : List Int} {i : Nat} {deep err e c : Int} {nodes ns : List Nd} {l : List Int} {x : Int} {V : valJ_T} {W : valR_T}

def plainA (c : Int) : Prop := 32 ≤ c ∧ c < 128 ∧ c ≠ 34 ∧ c ≠ 92
theorem decR_ascii (h : i < b.length) (h0 : 0 ≤ b.getD i 0) (h1 : b.getD i 0 < 128) : S.decR (b.drop i) = some (b.getD i 0, 1) := by
  rw [drop_at h]
  generalize b.getD i 0 = c at *
  generalize b.drop (i + 1) = r
  unfold S.decR
  rw [if_neg (by simp)]
  have hget : ((⟨((c :: r).map fun x => UInt8.ofNat x.toNat).toArray⟩ : ByteArray).get! (0 + 0)).toNat = c.toNat := by
    show ((((c :: r).map fun x => UInt8.ofNat x.toNat).toArray)[0]!).toNat = _
    simp
    omega
  have hlt : c.toNat < 128 := by omega
  unfold runeAt Utf8.decode
  simp only [hget]
  rw [if_pos hlt]
  simp only [Option.some.injEq, Prod.mk.injEq]
  exact ⟨by omega, rfl⟩
def acc (b : List Int) : Nat → Nat → List Int → List Int
  | _, 0, out => out
  | i, d + 1, out => acc b (i + 1) d (out.append [b.getD i 0])
theorem textJ_run {en : Nat} (hb : b.length ≤ 4096) (hen : b.getD en 0 = 34) : ∀ (d i k : Nat) (out : List Int), en = i + d → (∀ j, i ≤ j → j < en → plainA (b.getD j 0)) → out.length ≤ i → d < k →
    textJ_m3 k b i deep err ns out = some (acc b i d out, b, ((en + 1 : Nat) : Int), deep, err, ns) := by
  have hlt := getD_lt (by decide) hen
  intro d
  induction d with
  | zero =>
    intro i k out h1 h2 h3 h4
    obtain ⟨k, rfl⟩ : ∃ m, k = m + 1 := ⟨k - 1, by omega⟩
    have : en = i := by omega
    subst this
    have hw : IntKind.i64.wrap ((en : Int) + 1) = ((en + 1 : Nat) : Int) := by rw [wrapI (by omega) (by omega)]; omega
    have hm : out.length ≤ maxStr := by simp [maxStr]; omega
    simp only [textJ_m3, textJ_t3, getD_cast, Int.ofNat_lt, hlt, hen, hm, hw, Int.natCast_nonneg, decide_true, cond_true, acc]
  | succ d ih =>
    intro i k out h1 h2 h3 h4
    obtain ⟨k, rfl⟩ : ∃ m, k = m + 1 := ⟨k - 1, by omega⟩
    have hi : i < b.length := by omega
    obtain ⟨p1, p2, p3, p4⟩ := h2 i (Nat.le_refl _) (by omega)
    have hw : IntKind.i64.wrap ((i : Int) + 1) = ((i + 1 : Nat) : Int) := by rw [wrapI (by omega) (by omega)]; omega
    have hd := decR_ascii hi (by omega) p2
    have q1 : ¬ b.getD i 0 < 32 := by omega
    have q2 : ¬ b.getD i 0 = 65533 := by omega
    have hm : (out.length + 1) * 1 ≤ maxBytes := by simp [maxBytes]; omega
    have hm2 : i ≤ i + 1 := by omega
    have hm3 : i + 1 ≤ b.length := by omega
    simp only [textJ_m3, textJ_t3, getD_cast, Int.ofNat_lt, Int.ofNat_le, Int.toNat_natCast, hi, p3, p4, q1, Int.natCast_nonneg, decide_true, decide_false, cond_true, cond_false, Nat.le_of_lt hi]
    rw [hd]
    simp only [Option.bind_some, q2, decide_false, cond_false, hw, Int.ofNat_le, Int.toNat_natCast, hm2, hm3, decide_true, cond_true]
    rw [take_drop_one (j := 0) hi]
    simp only [List.length_singleton, hm, decide_true, cond_true]
    exact ih (i + 1) k _ (by omega) (fun j hj hj2 => h2 j (by omega) hj2) (by simp; omega) (by omega)
theorem textR_run {en : Nat} (hb : b.length ≤ 4096) (hen : b.getD en 0 = 34) : ∀ (d i k : Nat) (out : List Int), en = i + d → (∀ j, i ≤ j → j < en → plainA (b.getD j 0)) → out.length ≤ i → d < k →
    textR_m3 k b i deep err ns out = some (acc b i d out, true, b, ((en + 1 : Nat) : Int), deep, err, ns) := by
  have hlt := getD_lt (by decide) hen
  intro d
  induction d with
  | zero =>
    intro i k out h1 h2 h3 h4
    obtain ⟨k, rfl⟩ : ∃ m, k = m + 1 := ⟨k - 1, by omega⟩
    have : en = i := by omega
    subst this
    have hw : IntKind.i64.wrap ((en : Int) + 1) = ((en + 1 : Nat) : Int) := by rw [wrapI (by omega) (by omega)]; omega
    have hm : out.length ≤ maxStr := by simp [maxStr]; omega
    have hge : ¬ ((en : Int) ≥ (b.length : Int)) := by omega
    rw [textR_m3]
    simp only [textR_t3, getD_cast, Int.ofNat_lt, hlt, hge, hen, hm, hw, Int.natCast_nonneg, decide_true, decide_false, cond_true, cond_false, acc]
    rw [show decide ((34 : Int) < 32) = false from rfl]
    simp only [cond_false]
  | succ d ih =>
    intro i k out h1 h2 h3 h4
    obtain ⟨k, rfl⟩ : ∃ m, k = m + 1 := ⟨k - 1, by omega⟩
    have hi : i < b.length := by omega
    obtain ⟨p1, p2, p3, p4⟩ := h2 i (Nat.le_refl _) (by omega)
    have hw : IntKind.i64.wrap ((i : Int) + 1) = ((i + 1 : Nat) : Int) := by rw [wrapI (by omega) (by omega)]; omega
    have hd := decR_ascii hi (by omega) p2
    have q1 : ¬ b.getD i 0 < 32 := by omega
    have q2 : ¬ b.getD i 0 = 65533 := by omega
    have hm : (out.length + 1) * 1 ≤ maxBytes := by simp [maxBytes]; omega
    have hm2 : i ≤ i + 1 := by omega
    have hm3 : i + 1 ≤ b.length := by omega
    have hge : ¬ ((i : Int) ≥ (b.length : Int)) := by omega
    rw [textR_m3]
    simp only [textR_t3, getD_cast, Int.ofNat_lt, Int.ofNat_le, Int.toNat_natCast, hi, hge, p3, p4, q1, Int.natCast_nonneg, decide_true, decide_false, cond_true, cond_false, Nat.le_of_lt hi]
    rw [hd]
    simp only [Option.bind_some, q2, decide_false, cond_false, hw, Int.ofNat_le, Int.toNat_natCast, hm2, hm3, decide_true, cond_true]
    rw [take_drop_one (j := 0) hi]
    simp only [List.length_singleton, hm, decide_true, cond_true]
    exact ih (i + 1) k _ (by omega) (fun j hj hj2 => h2 j (by omega) hj2) (by simp; omega) (by omega)
/-- A text of plain signs alone. -/
theorem val_str {en : Nat} (hb : b.length ≤ 4096) (h0 : b.getD 0 0 = 34) (he : 1 ≤ en) (hen : b.getD en 0 = 34) (hp : ∀ j, 1 ≤ j → j < en → plainA (b.getD j 0)) :
    S.valueJ V b 0 0 0 [] = some (0, b, ((en + 1 : Nat) : Int), 0, 0, [(3, acc b 1 (en - 1) [], [], [], ())]) ∧ S.valueR W b 0 0 0 [] = some (0, b, ((en + 1 : Nat) : Int), 0, 0, [(3, acc b 1 (en - 1) [], [], [], ())]) := by
  have hlt := getD_lt (by decide) hen
  have hs : sk b 0 = 0 := run_stop fun _ => by rw [h0]; rfl
  have hh := S_here (b := b) (i := 0) (deep := 0) (nodes := ([] : List Nd)) (Nat.zero_le _) hb
  have hbl := S_blank (b := b) (i := 0) (deep := 0) (err := 0) (nodes := ([] : List Nd)) (Nat.zero_le _) hb
  rw [hs, h0] at hh
  rw [hs] at hbl
  have hK : en - 1 < 1000000000 := by omega
  have tJ : ∀ ns, S.textJ b 0 0 0 ns = some (acc b 1 (en - 1) [], b, ((en + 1 : Nat) : Int), 0, 0, ns) := fun ns => by
    simp only [S.textJ, textJ_m, textJ_t]
    rw [show IntKind.i64.wrap (0 + 1) = ((1 : Nat) : Int) by rw [wrapI (by omega) (by omega)]; rfl]
    exact textJ_run hb hen (en - 1) 1 1000000000 [] (by omega) hp (by simp) hK
  have tR : ∀ ns, S.textR b 0 0 0 ns = some (acc b 1 (en - 1) [], true, b, ((en + 1 : Nat) : Int), 0, 0, ns) := fun ns => by
    simp only [S.textR, textR_m, textR_t]
    rw [show IntKind.i64.wrap (0 + 1) = ((1 : Nat) : Int) by rw [wrapI (by omega) (by omega)]; rfl]
    exact textR_run hb hen (en - 1) 1 1000000000 [] (by omega) hp (by simp) hK
  have i1 : ∀ (c : Int) (ns : List Nd), c ≠ 0 → S.isR c b 0 0 0 ns = some (decide (b.getD 0 0 = c), b, 0, 0, 0, ns) := fun c ns hc => is_at (i := 0) (Nat.zero_le _) hc
  have hh' : S.here b 0 0 0 [] = some (34, b, 0, 0, 0, []) := hh
  have hbl' : S.blank b 0 0 0 [] = some (b, 0, 0, 0, []) := hbl
  have g3 : (([] : List Nd).length + 1) * 72 ≤ maxBytes := by simp [maxBytes]
  constructor
  · simp only [S.valueJ, valueJ_m, valueJ_t]
    rw [hh']
    simp only [Option.bind_some]
    rw [show decide ((([] : List Nd).length : Int) ≥ 256) = false from rfl]
    simp only [decide_true, cond_true, cond_false, g3]
    rw [show decide ((34 : Int) = 123) = false from rfl, show decide ((34 : Int) = 91) = false from rfl]
    simp only [cond_false]
    rw [tJ]
    simp only [Option.bind_some]
    exact put_J (t := 0) (ns := [((0 : Int), ([] : List Int), ([] : List (List Int)), ([] : List Int), ())]) (by simp)
  · simp only [S.valueR, valueR_m, valueR_t]
    rw [hbl']
    simp only [Option.bind_some]
    rw [show decide ((([] : List Nd).length : Int) = 256) = false from rfl]
    simp only [decide_true, cond_true, cond_false, g3]
    rw [i1 123 _ (by decide), h0]
    simp only [Option.bind_some]
    rw [show decide ((34 : Int) = 123) = false from rfl]
    simp only [cond_false]
    rw [i1 91 _ (by decide), h0]
    simp only [Option.bind_some]
    rw [show decide ((34 : Int) = 91) = false from rfl]
    simp only [cond_false]
    rw [i1 34 _ (by decide), h0]
    simp only [Option.bind_some, decide_true, cond_true]
    rw [tR]
    simp only [Option.bind_some]
    exact put_R (t := 0) (ns := [((0 : Int), ([] : List Int), ([] : List (List Int)), ([] : List Int), ())]) (by simp)
theorem told_rel (hb : b.length ≤ 4096) (hV : RelV b 0 0 0 (V b 0 0 0 []) (W b 0 0 0 [])) : S.told V W b = some true := by
  obtain ⟨er, ns, h1, h2, h3, h4⟩ := parse_rel hb hV
  simp only [S.told, told_m, told_t]
  have hm : (0 + b.length) * 1 ≤ maxBytes := by simp [maxBytes]; omega
  rw [h1, h2]
  simp only [hm, decide_true, cond_true, Option.bind_some]
  rw [same_self h4 (by omega)]
  rfl
theorem parse_ok {j : Nat} {v : Int} (hb : b.length ≤ 4096) (hj : j ≤ b.length) (hV : V b 0 0 0 [] = some (v, b, (j : Int), 0, 0, ns)) (hs : sk b j = b.length) : S.parseJ V b = some (ns, 0) := by
  simp only [S.parseJ, parseJ_m, parseJ_t]
  have g1 : ¬ ((b.length : Int) > 4096) := by omega
  simp only [g1, decide_false, cond_false]
  rw [pJ1004]
  simp only [parseJ_t1004]
  rw [hV]
  simp only [Option.bind_some]
  rw [S_here hj hb, hs]
  have h0 : b.getD b.length 0 = 0 := by simp
  simp only [Option.bind_some, h0, Int.lt_irrefl, decide_true, decide_false, cond_false]
theorem parse_long (h : b.length > 4096) : S.parseJ V b = some ([], 3) := by
  simp only [S.parseJ, parseJ_m, parseJ_t]
  have g1 : ((b.length : Int) > 4096) := by omega
  simp only [g1, decide_true, cond_true]
/-! ### The long string -/
def longS (n : Nat) : List Int := 34 :: (List.replicate n 120 ++ [34])
theorem longS_len (n : Nat) : (longS n).length = n + 2 := by simp [longS]
theorem longS_mid {n j : Nat} (h1 : 1 ≤ j) (h2 : j < n + 1) : (longS n).getD j 0 = 120 := by
  obtain ⟨j, rfl⟩ : ∃ m, j = m + 1 := ⟨j - 1, by omega⟩
  have : j < n := by omega
  simp [longS, List.getElem?_append, this]
theorem longS_end (n : Nat) : (longS n).getD (n + 1) 0 = 34 := by simp [longS]
theorem long_ok : S.parseJ (vJ 9) (longS 4094) = some ([(3, acc (longS 4094) 1 4094 [], [], [], ())], 0) ∧ S.told (vJ 9) (vR 9) (longS 4094) = some true := by
  have hl : (longS 4094).length = 4096 := longS_len 4094
  have hb : (longS 4094).length ≤ 4096 := by omega
  have hmid : ∀ j, 1 ≤ j → j < 4095 → plainA ((longS 4094).getD j 0) := fun j h1 h2 => by
    rw [longS_mid h1 h2]; simp [plainA]
  have hend := longS_end 4094
  have h0 : (longS 4094).getD 0 0 = 34 := rfl
  generalize longS 4094 = b at *
  obtain ⟨vj, vr⟩ := val_str (V := vJ 8) (W := vR 8) hb h0 (by omega : 1 ≤ 4095) hend hmid
  have vj : vJ 9 b 0 0 0 [] = some (0, b, ((4096 : Nat) : Int), 0, 0, [(3, acc b 1 4094 [], [], [], ())]) := vj
  have vr : vR 9 b 0 0 0 [] = some (0, b, ((4096 : Nat) : Int), 0, 0, [(3, acc b 1 4094 [], [], [], ())]) := vr
  have hsk : sk b 4096 = b.length := by rw [hl]; exact run_stop fun h => by omega
  refine ⟨parse_ok hb (by omega) vj hsk, told_rel hb ⟨0, 0, 4096, 4096, 0, _, _, vj, vr, by omega, by omega, by simp, by simp, fun _ => ⟨rfl, rfl, by omega, rfl, by simp, fun x hx => ?_⟩⟩⟩
  simp only [List.mem_singleton] at hx
  subst hx
  exact ⟨by simp, by simp⟩
end Go.Ab

/- Plain law: the law of limits. -/
set_option linter.unusedVariables false
set_option linter.unusedSimpArgs false
namespace Go.Ab
open Go
set_option maxRecDepth 1000000
variable {b : List Int} {m : Int}

def many (n : Nat) : List Int := 91 :: 48 :: (List.replicate n [(44 : Int), 48]).flatten ++ [93]
def deepS (n : Nat) : List Int := List.replicate n 91 ++ List.replicate n 93
theorem deep0 : (S.parseJ (vJ 9) (deepS 8)).map (·.2) = some 0 := by kernel_rfl
theorem deep1 : S.parseJ (vJ 9) (deepS 9) = some ([], 13) := by kernel_rfl
theorem many254 : (S.parseJ (vJ 9) (many 254)).map (·.2) = some 0 := by kernel_rfl
theorem many255 : S.parseJ (vJ 9) (many 255) = some ([], 14) := by kernel_rfl
theorem parse_of_map {V : valJ_T} (h : (S.parseJ V b).map (·.2) = some 0) : ∃ ns, S.parseJ V b = some (ns, 0) := by
  obtain ⟨⟨ns, er⟩, h1, h2⟩ := Option.map_eq_some_iff.1 h
  have h2 : er = 0 := h2
  subst h2
  exact ⟨ns, h1⟩
end Go.Ab

/- Plain law: JsonsLimits is true of every pair of bytes. -/
set_option linter.unusedVariables false
set_option linter.unusedSimpArgs false
namespace Go.Ab
open Go
variable {V : valJ_T} {W : valR_T} {m : Int} {k : Nat}

/-- What is to be known of a text that was made. -/
def GoodT (V : valJ_T) (W : valR_T) (m c : Int) (T : List Int) : Prop :=
  (m = 1 ∧ S.parseJ V T = some ([], c)) ∨ (m = 0 ∧ ∃ ns, S.parseJ V T = some (ns, 0) ∧ S.told V W T = some true)
theorem lim_fin {c : Int} {T : List Int} (h : GoodT V W m c T) : Option.bind (S.parseJ V T) (fun (r0 : List Nd × Int) => bif decide (m = 1) then some (bif decide (r0.2 = c) then decide ((r0.1.length : Int) = 0) else false) else (bif decide (r0.2 = 0) then Option.bind (S.told V W T) (fun (r1 : Bool) => some r1) else some false)) = some true := by
  rcases h with ⟨rfl, h⟩ | ⟨rfl, ns, h1, h2⟩
  · rw [h]; simp
  · rw [h1]
    simp only [Option.bind_some]
    rw [show decide ((0 : Int) = 1) = false from rfl, h2]
    simp
theorem rep_step (t u : List Int) (d : Nat) : t.append u ++ (List.replicate d u).flatten = t ++ (List.replicate (d + 1) u).flatten := by
  simp [List.replicate_succ]
theorem lim16 {N : Nat} (hN : N ≤ 5000) {c : Int} : ∀ (d j k : Nat) (t : List Int), N = j + d → t.length ≤ 10000 + 2 * j → d < k → GoodT V W m c ((t ++ (List.replicate d [44, 48]).flatten).append [93]) → limits_m16 V W k m t c (N : Int) (j : Int) = some true := by
  intro d
  induction d with
  | zero =>
    intro j k t h1 h2 h3 hg
    obtain ⟨k, rfl⟩ : ∃ m, k = m + 1 := ⟨k - 1, by omega⟩
    rw [limits_m16]
    simp only [limits_t16]
    have hn : ¬ ((j : Int) < (N : Int)) := by omega
    have hm : t.length + 1 ≤ maxStr := by simp [maxStr]; omega
    simp only [hn, hm, decide_true, decide_false, cond_true, cond_false]
    refine lim_fin ?_
    simpa using hg
  | succ d ih =>
    intro j k t h1 h2 h3 hg
    obtain ⟨k, rfl⟩ : ∃ m, k = m + 1 := ⟨k - 1, by omega⟩
    rw [limits_m16]
    simp only [limits_t16]
    have hn : ((j : Int) < (N : Int)) := by omega
    have hm : t.length + 2 ≤ maxStr := by simp [maxStr]; omega
    have hw : IntKind.i64.wrap ((j : Int) + 1) = ((j + 1 : Nat) : Int) := by rw [wrapI (by omega) (by omega)]; omega
    simp only [hn, hm, hw, decide_true, cond_true]
    refine ih (j + 1) k _ (by omega) (by simp; omega) (by omega) ?_
    rw [← rep_step] at hg
    exact hg
theorem lim9 {N : Nat} (hN : N ≤ 5000) {c : Int} : ∀ (d j k : Nat) (t : List Int), N = j + d → t.length ≤ 10000 + 2 * j → d < k → GoodT V W m c ((t ++ (List.replicate d [120]).flatten).append [34]) → limits_m9 V W k m t c (N : Int) (j : Int) = some true := by
  intro d
  induction d with
  | zero =>
    intro j k t h1 h2 h3 hg
    obtain ⟨k, rfl⟩ : ∃ m, k = m + 1 := ⟨k - 1, by omega⟩
    rw [limits_m9]
    simp only [limits_t9]
    have hn : ¬ ((j : Int) < (N : Int)) := by omega
    have hm : t.length + 1 ≤ maxStr := by simp [maxStr]; omega
    simp only [hn, hm, decide_true, decide_false, cond_true, cond_false]
    refine lim_fin ?_
    simpa using hg
  | succ d ih =>
    intro j k t h1 h2 h3 hg
    obtain ⟨k, rfl⟩ : ∃ m, k = m + 1 := ⟨k - 1, by omega⟩
    rw [limits_m9]
    simp only [limits_t9]
    have hn : ((j : Int) < (N : Int)) := by omega
    have hm : t.length + 1 ≤ maxStr := by simp [maxStr]; omega
    have hw : IntKind.i64.wrap ((j : Int) + 1) = ((j + 1 : Nat) : Int) := by rw [wrapI (by omega) (by omega)]; omega
    simp only [hn, hm, hw, decide_true, cond_true]
    refine ih (j + 1) k _ (by omega) (by simp; omega) (by omega) ?_
    rw [← rep_step] at hg
    exact hg
theorem lim27 {N : Nat} (hN : N ≤ 5000) {c : Int} : ∀ (d j k : Nat) (t : List Int), N = j + d → t.length ≤ 10000 + 2 * j → d < k → GoodT V W m c (t ++ (List.replicate d [93]).flatten) → limits_m27 V W k m t c (N : Int) (j : Int) = some true := by
  intro d
  induction d with
  | zero =>
    intro j k t h1 h2 h3 hg
    obtain ⟨k, rfl⟩ : ∃ m, k = m + 1 := ⟨k - 1, by omega⟩
    rw [limits_m27]
    simp only [limits_t27]
    have hn : ¬ ((j : Int) < (N : Int)) := by omega
    simp only [hn, decide_true, decide_false, cond_true, cond_false]
    refine lim_fin ?_
    simpa using hg
  | succ d ih =>
    intro j k t h1 h2 h3 hg
    obtain ⟨k, rfl⟩ : ∃ m, k = m + 1 := ⟨k - 1, by omega⟩
    rw [limits_m27]
    simp only [limits_t27]
    have hn : ((j : Int) < (N : Int)) := by omega
    have hm : t.length + 1 ≤ maxStr := by simp [maxStr]; omega
    have hw : IntKind.i64.wrap ((j : Int) + 1) = ((j + 1 : Nat) : Int) := by rw [wrapI (by omega) (by omega)]; omega
    simp only [hn, hm, hw, decide_true, cond_true]
    refine ih (j + 1) k _ (by omega) (by simp; omega) (by omega) ?_
    rw [← rep_step] at hg
    exact hg
theorem lim23 {N : Nat} (hN : N ≤ 5000) (hm8 : IntKind.i64.wrap (8 + m) = (N : Int)) {c : Int} : ∀ (d j k : Nat) (t : List Int), N = j + d → t.length ≤ 2 * j → d + N + 1 < k → GoodT V W m c ((t ++ (List.replicate d [91]).flatten) ++ (List.replicate N [93]).flatten) → limits_m23 V W k m t c (N : Int) (j : Int) = some true := by
  intro d
  induction d with
  | zero =>
    intro j k t h1 h2 h3 hg
    obtain ⟨k, rfl⟩ : ∃ m, k = m + 1 := ⟨k - 1, by omega⟩
    rw [limits_m23]
    simp only [limits_t23]
    have hn : ¬ ((j : Int) < (N : Int)) := by omega
    simp only [hn, hm8, decide_true, decide_false, cond_true, cond_false]
    refine lim27 hN N 0 k t (by omega) (by omega) (by omega) ?_
    simpa using hg
  | succ d ih =>
    intro j k t h1 h2 h3 hg
    obtain ⟨k, rfl⟩ : ∃ m, k = m + 1 := ⟨k - 1, by omega⟩
    rw [limits_m23]
    simp only [limits_t23]
    have hn : ((j : Int) < (N : Int)) := by omega
    have hm : t.length + 1 ≤ maxStr := by simp [maxStr]; omega
    have hw : IntKind.i64.wrap ((j : Int) + 1) = ((j + 1 : Nat) : Int) := by rw [wrapI (by omega) (by omega)]; omega
    simp only [hn, hm, hw, decide_true, cond_true]
    refine ih (j + 1) k _ (by omega) (by simp; omega) (by omega) ?_
    rw [← rep_step] at hg
    exact hg
theorem flat_one (n : Nat) (x : Int) : (List.replicate n [x]).flatten = List.replicate n x := by simp
theorem many_plain (n : Nat) : Plain (many n) := plain_of fun x hx => by
  simp only [many, List.mem_append, List.mem_cons, List.mem_flatten, List.mem_replicate, List.mem_nil_iff, or_false] at hx
  rcases hx with h | h
  · rcases h with h | h | ⟨y, ⟨_, rfl⟩, h⟩
    · subst h; simp [okSign]
    · subst h; simp [okSign]
    · simp only [List.mem_cons, List.mem_nil_iff, or_false] at h
      rcases h with h | h <;> subst h <;> simp [okSign]
  · subst h; simp [okSign]
theorem deep_plain (n : Nat) : Plain (deepS n) := plain_of fun x hx => by
  simp only [deepS, List.mem_append, List.mem_replicate] at hx
  rcases hx with ⟨_, h⟩ | ⟨_, h⟩ <;> subst h <;> simp [okSign]
theorem flat_len (n : Nat) : ((List.replicate n [(44 : Int), 48]).flatten).length = 2 * n := by
  induction n with
  | zero => rfl
  | succ n ih => rw [List.replicate_succ, List.flatten_cons, List.length_append, ih]; simp; omega
theorem many_len (n : Nat) : (many n).length = 2 * n + 3 := by
  rw [many, List.length_append, List.length_cons, List.length_cons, flat_len]; simp
theorem hl254 : (many 254).length ≤ 4096 := by rw [many_len]; omega
theorem good_many {c : Int} (hm : (m = 1 ∧ c = 14) ∨ (m = 0 ∧ c = 14)) {n : Nat} (hn : (n : Int) = 254 + m) : GoodT (vJ 9) (vR 9) m c (many n) := by
  rcases hm with ⟨rfl, rfl⟩ | ⟨rfl, rfl⟩
  · have : n = 255 := by omega
    subst this
    exact .inl ⟨rfl, many255⟩
  · have : n = 254 := by omega
    subst this
    obtain ⟨ns, h⟩ := parse_of_map many254
    exact .inr ⟨rfl, ns, h, told_true hl254 (many_plain 254)⟩
theorem good_deep {c : Int} (hm : (m = 1 ∧ c = 13) ∨ (m = 0 ∧ c = 13)) {n : Nat} (hn : (n : Int) = 8 + m) : GoodT (vJ 9) (vR 9) m c (deepS n) := by
  rcases hm with ⟨rfl, rfl⟩ | ⟨rfl, rfl⟩
  · have : n = 9 := by omega
    subst this
    exact .inl ⟨rfl, deep1⟩
  · have : n = 8 := by omega
    subst this
    obtain ⟨ns, h⟩ := parse_of_map deep0
    exact .inr ⟨rfl, ns, h, told_true (by simp [deepS]) (deep_plain 8)⟩
theorem good_long {c : Int} (hm : (m = 1 ∧ c = 3) ∨ (m = 0 ∧ c = 3)) {n : Nat} (hn : (n : Int) = 4094 + m) : GoodT (vJ 9) (vR 9) m c (longS n) := by
  rcases hm with ⟨rfl, rfl⟩ | ⟨rfl, rfl⟩
  · have : n = 4095 := by omega
    subst this
    exact .inl ⟨rfl, parse_long (by rw [longS_len]; omega)⟩
  · have : n = 4094 := by omega
    subst this
    exact .inr ⟨rfl, _, long_ok.1, long_ok.2⟩
theorem limits_gen {k : Nat} (hk : 10000 ≤ k) {what over : Int} (hw0 : 0 ≤ what) (ho0 : 0 ≤ over) : limits_m (vJ 9) (vR 9) k what over = some true := by
  rw [limits_m]
  simp only [limits_t]
  rw [awake_true]
  simp only [Option.bind_some, cond_false]
  have ht : Int.tmod over 2 = over % 2 := Int.tmod_eq_emod_of_nonneg ho0
  have hm01 : over % 2 = 0 ∨ over % 2 = 1 := by omega
  rw [ht]
  rw [wrapI (x := over % 2) (by omega) (by omega)]
  generalize over % 2 = m at *
  have hcase : ∀ c : Int, (m = 1 ∧ c = c) ∨ (m = 0 ∧ c = c) := fun c => by rcases hm01 with h | h <;> simp [h]
  rw [wrapI (x := 254 + m) (by omega) (by omega), wrapI (x := 8 + m) (by omega) (by omega), wrapI (x := 4094 + m) (by omega) (by omega)]
  obtain ⟨N1, hN1⟩ : ∃ N : Nat, (N : Int) = 254 + m := ⟨(254 + m).toNat, by omega⟩
  obtain ⟨N2, hN2⟩ : ∃ N : Nat, (N : Int) = 8 + m := ⟨(8 + m).toNat, by omega⟩
  obtain ⟨N3, hN3⟩ : ∃ N : Nat, (N : Int) = 4094 + m := ⟨(4094 + m).toNat, by omega⟩
  have hK1 : N1 < k := by omega
  have hK2 : N2 + N2 + 1 < k := by omega
  have hK3 : N3 < k := by omega
  rw [← hN1, ← hN2, ← hN3]
  by_cases h0 : Int.tmod what 3 = 0
  · simp only [h0, decide_true, cond_true]
    refine lim16 (by omega) N1 0 k [91, 48] (by omega) (by simp) hK1 ?_
    have : (([91, 48] ++ (List.replicate N1 [44, 48]).flatten : List Int).append [93]) = many N1 := by simp [many]
    rw [this]
    exact good_many (hcase 14) hN1
  · by_cases h1 : Int.tmod what 3 = 1
    · rw [h1]
      rw [show decide ((1 : Int) = 0) = false from rfl]
      simp only [decide_true, cond_true, cond_false]
      refine lim23 (by omega) (by rw [wrapI (by omega) (by omega)]; omega) N2 0 k [] (by omega) (by simp) hK2 ?_
      rw [flat_one, flat_one]
      exact good_deep (hcase 13) hN2
    · simp only [h0, h1, decide_false, cond_false]
      refine lim9 (by omega) N3 0 k [34] (by omega) (by simp) hK3 ?_
      rw [flat_one]
      exact good_long (hcase 3) hN3
theorem limits_true {what over : Int} (hw0 : 0 ≤ what) (ho0 : 0 ≤ over) : S.limits (vJ 9) (vR 9) what over = some true := limits_gen (Nat.le_of_ble_eq_true rfl) hw0 ho0
end Go.Ab
