/- Contracts: what is handed over, read by its shape. -/
import Derived.Test.YtknccfhaoclimaaDoorA3

set_option linter.unusedVariables false
set_option linter.unusedSimpArgs false
namespace Go.Ab
open Go

section
variable {P : Program} {w0 : World} {S0 S1 ok0 : Nat → Prop} {X X' : Cx} {H H' K : Heap} {w w' : World} {f g : Nat → Nat → Option (Nat × Nat)} {ids : List Nat}

theorem Rep.frel' {t : Ty} {x : t.T} {cs : List Value} {fs : List Fld} (h : Rep w X.ok t x cs) (e : t.flds x = fs) : FRel X H w fs cs := e ▸ h.frel
theorem Sh.rd_sound {s : Sh} {fl : Fld} {x : s.T} {us : List Value} (h : s.rd fl = some x) (hf : FRel X H w [fl] us) : FRel X H w [s.mk x] us ∧ FSim fl (s.mk x) := by
  cases s with
  | int k =>
    refine ⟨(Fld.int?_sound h hf).frel' rfl, ?_⟩
    simp only [Sh.rd] at h
    unfold Fld.int? at h
    split at h
    · trivial
    · simp at h
  | bool =>
    refine ⟨(Fld.bool?_sound h hf).frel' rfl, ?_⟩
    simp only [Sh.rd] at h
    unfold Fld.bool? at h
    split at h <;> first | trivial | simp at h
  | str =>
    refine ⟨(Fld.str?_sound h hf).frel' rfl, ?_⟩
    simp only [Sh.rd] at h
    unfold Fld.str? at h
    split at h <;> first | trivial | simp at h
  | ro t =>
    refine ⟨(Fld.sl?_sound h hf).frel' rfl, ?_⟩
    simp only [Sh.rd] at h
    unfold Fld.sl? at h
    split at h <;> first | trivial | simp at h
  | arr n t =>
    refine ⟨(Fld.ar?_sound h hf).frel' rfl, ?_⟩
    simp only [Sh.rd] at h
    unfold Fld.ar? at h
    split at h
    · rename_i n' t' xs
      split at h
      · rename_i e
        subst e
        cases hn : Nat.beq n' n with
        | false => simp [hn] at h
        | true => exact ⟨Nat.eq_of_beq_eq_true hn, rfl⟩
      · simp at h
    · simp at h
  | nilp =>
    simp only [Sh.rd] at h
    cases hq : fl.sh? .nilp with
    | false => simp [hq] at h
    | true =>
      unfold Fld.sh? at hq
      split at hq <;> first | (simp at hq; done) | skip
      all_goals first | (rename_i e; cases e) | skip
      all_goals first | exact ⟨hf, trivial⟩ | (rename_i e1 e2; cases e1)
  | ow j =>
    simp only [Sh.rd] at h
    cases hq : fl.sh? (.ow j) with
    | false => simp [hq] at h
    | true =>
      cases fl with
      | a n t xs => simp [Fld.sh?] at hq
      | c y =>
        cases y <;> simp [Fld.sh?] at hq
        obtain ⟨e1, e2⟩ := hq
        subst e1 e2
        exact ⟨hf, trivial⟩
  | pb j =>
    simp only [Sh.rd] at h
    cases hq : fl.sh? (.pb j) with
    | false => simp [hq] at h
    | true =>
      cases fl with
      | a n t xs => simp [Fld.sh?] at hq
      | c y =>
        cases y <;> simp [Fld.sh?] at hq
        obtain ⟨e1, e2, e3⟩ := hq
        subst e1 e2 e3
        exact ⟨hf, trivial⟩
  | fn q l =>
    simp only [Sh.rd] at h
    cases hq : fl.sh? (.fn q l) with
    | false => simp [hq] at h
    | true =>
      cases fl with
      | a n t xs => simp [Fld.sh?] at hq
      | c y =>
        cases y <;> simp [Fld.sh?] at hq
        obtain ⟨e1, e2⟩ := hq
        subst e1 e2
        exact ⟨hf, trivial⟩
theorem Sh.rd_sim {s : Sh} {fl : Fld} {x : s.T} (h : s.rd fl = some x) : FSim fl (s.mk x) := by
  cases s with
  | int k => simp only [Sh.rd] at h; unfold Fld.int? at h; split at h <;> first | trivial | simp at h
  | bool => simp only [Sh.rd] at h; unfold Fld.bool? at h; split at h <;> first | trivial | simp at h
  | str => simp only [Sh.rd] at h; unfold Fld.str? at h; split at h <;> first | trivial | simp at h
  | ro t => simp only [Sh.rd] at h; unfold Fld.sl? at h; split at h <;> first | trivial | simp at h
  | arr n t =>
    simp only [Sh.rd] at h
    unfold Fld.ar? at h
    split at h
    · rename_i n' t' xs
      split at h
      · rename_i e
        subst e
        cases hn : Nat.beq n' n with
        | false => simp [hn] at h
        | true => exact ⟨Nat.eq_of_beq_eq_true hn, rfl⟩
      · simp at h
    · simp at h
  | nilp => cases fl <;> first | trivial | simp [Sh.rd, Fld.sh?] at h
  | ow j => cases fl <;> first | trivial | simp [Sh.rd, Fld.sh?] at h
  | pb j => cases fl <;> first | trivial | simp [Sh.rd, Fld.sh?] at h
  | fn q l => cases fl <;> first | trivial | simp [Sh.rd, Fld.sh?] at h
theorem rdL_sound : ∀ {l : List Sh} {fs : List Fld} {x : shT l} {us : List Value}, rdL l fs = some x → FRel X H w fs us → FRel X H w (mkL l x) us ∧ FsSim fs (mkL l x)
  | [], [], x, us, _, h => ⟨h, trivial⟩
  | [], _ :: _, x, us, h, _ => by simp [rdL] at h
  | _ :: _, [], x, us, h, _ => by simp [rdL] at h
  | s :: l, f :: fs, x, us, h, hf => by
    simp only [rdL] at h
    split at h
    · rename_i y z h1 h2
      simp at h; subst h
      obtain ⟨a, b, rfl, h3, h4⟩ := FRel.split (fs := [f]) (gs := fs) hf
      obtain ⟨h5, h6⟩ := Sh.rd_sound h1 h3
      obtain ⟨h7, h8⟩ := rdL_sound h2 h4
      exact ⟨FRel.append h5 h7, h6, h8⟩
    · simp at h
theorem rdL_sim : ∀ {l : List Sh} {fs : List Fld} {x : shT l}, rdL l fs = some x → FsSim fs (mkL l x)
  | [], [], x, _ => trivial
  | [], _ :: _, x, h => by simp [rdL] at h
  | _ :: _, [], x, h => by simp [rdL] at h
  | s :: l, f :: fs, x, h => by
    simp only [rdL] at h
    split at h
    · rename_i y z h1 h2
      simp at h; subst h
      refine ⟨?_, rdL_sim h2⟩
      exact Sh.rd_sim h1
    · simp at h
theorem ShA.rd_sound {s : ShA} {a : AV} {x : s.T} {v : Value} (h : s.rd a = some x) (ha : AVRel X H w a v) (hk : a.known = true) : AVRel X H w (s.mk x) v := by
  cases s with
  | one s =>
    cases a with
    | agg fs => simp [ShA.rd] at h
    | one c =>
      have hc : c ≠ .any := by rintro rfl; simp [AV.known] at hk
      have hf : FRel X H w [.c c] [v] := FRel.one (CRel.one ha hc) ha
      obtain ⟨h1, h2⟩ := Sh.rd_sound h hf
      simp only [ShA.mk]
      cases hm : s.mk x with
      | c c' =>
        rw [hm] at h1
        obtain ⟨v', e, _, h3⟩ := h1.one_inv
        simp at e; subst e
        exact h3
      | a n t xs =>
        rw [hm] at h2
        exact h2.elim
  | agg l =>
    cases a with
    | one c => simp [ShA.rd] at h
    | agg fs =>
      obtain ⟨cs, e, h1⟩ := ha
      exact ⟨cs, e, (rdL_sound h h1).1⟩
theorem ShA.rd_known {s : ShA} {a : AV} {x : s.T} (h : s.rd a = some x) : a.known = true := by
  cases a with
  | agg fs => rfl
  | one c =>
    cases c <;> try rfl
    cases s with
    | agg l => simp [ShA.rd] at h
    | one s => cases s <;> simp [ShA.rd, Sh.rd, Fld.int?, Fld.bool?, Fld.str?, Fld.sl?, Fld.ar?, Fld.sh?] at h
theorem rdA_sound : ∀ {l : List ShA} {as : List AV} {p : shAT l} {vs : List Value}, rdA l as = some p → AVsRel X H w as vs → AVsRel X H w (mkA l p) vs
  | [], [], p, vs, _, h => h
  | [], _ :: _, p, vs, h, _ => by simp [rdA] at h
  | _ :: _, [], p, vs, h, _ => by simp [rdA] at h
  | s :: l, a :: as, p, vs, h, ⟨v, us, h1, h2, h3⟩ => by
    simp only [rdA] at h
    split at h
    · rename_i y z h4 h5
      simp at h; subst h
      exact ⟨v, us, h1, ShA.rd_sound h4 h2 (ShA.rd_known h4), rdA_sound h5 h3⟩
    · simp at h
theorem ShO.rd_sim {s : ShO} {o : Obj} {x : s.T} (h : s.rd o = some x) : OSim o (s.mk x) := by
  cases s with
  | row t =>
    cases o <;> simp only [ShO.rd] at h <;> try (simp at h; done)
    rename_i t' xs
    split at h
    · rename_i e
      subst e
      simp [castL] at h; subst h
      exact ⟨rfl, rfl⟩
    · simp at h
  | box l =>
    cases o <;> simp only [ShO.rd] at h <;> try (simp at h; done)
    exact rdL_sim h
theorem ShO.rd_sound {s : ShO} {o : Obj} {x : s.T} {i : Nat} (h : s.rd o = some x) (ho : ObjRel X H w i o) : ObjRel X H w i (s.mk x) := by
  cases s with
  | row t =>
    cases o <;> simp only [ShO.rd] at h <;> try (simp at h; done)
    rename_i t' xs
    split at h
    · rename_i e
      subst e
      simp [castL] at h; subst h
      exact ho
    · simp at h
  | box l =>
    cases o <;> simp only [ShO.rd] at h <;> try (simp at h; done)
    obtain ⟨B, c, cur, ty, fr, h1, h2, h3, h4⟩ := ho
    exact ⟨B, c, cur, ty, fr, h1, h2, h3, (rdL_sound h h4).1⟩
theorem ShO.mk_live (s : ShO) (x : s.T) : s.mk x ≠ .dead := by cases s <;> simp [ShO.mk]
theorem rdO_spec : ∀ {l : List ShO} {n : Nat} {H : Heap} {q : shOT l}, rdO l n H = some q → ∀ i, (lk H i = none ∧ lk (mkO l n q) i = none) ∨
    ∃ (s : ShO) (o : Obj) (x : s.T), lk H i = some (0, o) ∧ lk (mkO l n q) i = some (0, s.mk x) ∧ s.rd o = some x ∧ ∃ j, i = par j ∧ n ≤ j ∧ j < n + l.length
  | [], n, [], q, _, i => .inl ⟨rfl, rfl⟩
  | [], n, _ :: _, q, h, i => by simp [rdO] at h
  | _ :: _, n, [], q, h, i => by simp [rdO] at h
  | s :: l, n, (k, r, o) :: H, q, h, i => by
    cases r with
    | succ r => simp [rdO] at h
    | zero =>
      simp only [rdO] at h
      cases hk : Nat.beq k (par n) with
      | false => simp [hk] at h
      | true =>
        have hk := Nat.eq_of_beq_eq_true hk
        subst hk
        simp at h
        split at h
        · rename_i y z h1 h2
          simp at h; subst h
          simp only [mkO, lk_cons]
          by_cases e : par n = i
          · exact .inr ⟨s, o, y, by rw [if_pos e], by rw [if_pos e], h1, n, e.symm, Nat.le_refl _, by simp⟩
          · rw [if_neg e, if_neg e]
            rcases rdO_spec h2 i with h3 | ⟨s', o', x', h3, h4, h5, j, h6, h7, h8⟩
            · exact .inl h3
            · exact .inr ⟨s', o', x', h3, h4, h5, j, h6, by omega, by simp; omega⟩
        · simp at h
/-- What is handed over, read by its shape: it is still what lies there. -/
theorem rdO_ext {l : List ShO} {q : shOT l} (h : rdO l 0 H = some q) : Ext X H w X (mkO l 0 q) w := by
  refine ⟨fun B hB => ⟨hB, rfl⟩, fun i => ?_, fun i r o' ho hd hr => ?_⟩
  · rcases rdO_spec h i with ⟨h1, h2⟩ | ⟨s, o, x, h1, h2, _⟩
    · unfold Heap.ver; rw [h1, h2]; exact Nat.le_refl _
    · rw [lk_ver h1, lk_ver h2]; exact Nat.le_refl _
  · have := obj_lk ho
    rcases rdO_spec h i with ⟨h1, h2⟩ | ⟨s, o, x, h1, h2, h3, _⟩
    · rw [h2] at this; cases this
    · rw [h2] at this
      simp at this
      obtain ⟨rfl, rfl⟩ := this
      exact ⟨o, lk_obj h1, ShO.rd_sim h3, rfl⟩
theorem rdO_inv {l : List ShO} {q : shOT l} (I : Inv w0 S0 ok0 X H w) (h : rdO l 0 H = some q) : Inv w0 S0 ok0 X (mkO l 0 q) w := by
  refine ⟨fun i r o' ho => ?_, fun i r o' B c ho hd hB => ?_, I.okb, I.frm, I.size, I.os, I.tape, I.output⟩
  · rcases rdO_spec h i with ⟨h1, h2⟩ | ⟨s, o, x, h1, h2, h3, _⟩
    · rw [h2] at ho; cases ho
    · rw [h2] at ho
      simp at ho
      obtain ⟨rfl, rfl⟩ := ho
      exact (ShO.rd_sound h3 (I.objs i 0 o h1)).ext (rdO_ext h) rfl fun _ _ _ _ => rfl
  · have live : ∀ {i r o'}, lk (mkO l 0 q) i = some (r, o') → ∃ o, lk H i = some (r, o) ∧ o ≠ .dead := fun {i r o'} ho => by
      rcases rdO_spec h i with ⟨h1, h2⟩ | ⟨s, o, x, h1, h2, h3, _⟩
      · rw [h2] at ho; cases ho
      · rw [h2] at ho
        simp at ho
        obtain ⟨rfl, _⟩ := ho
        refine ⟨o, h1, ?_⟩
        rintro rfl
        have := ShO.rd_sim h3
        cases s <;> simp [ShO.mk, OSim] at this
    obtain ⟨o, h1, h2⟩ := live ho
    obtain ⟨h3, h4, h5⟩ := I.sep i r o B c h1 h2 hB
    refine ⟨h3, h4, fun j r' o2 c' hj hd' hB' => ?_⟩
    obtain ⟨o3, h6, h7⟩ := live hj
    exact h5 j r' o3 c' h6 h7 hB'
end
end Go.Ab

/- A call by its contract. -/
set_option linter.unusedVariables false
set_option linter.unusedSimpArgs false
namespace Go.Ab
open Go

def Ext0 (X : Cx) (H : Heap) (w : World) (X' : Cx) (H' : Heap) (w' : World) : Prop :=
  (∀ B, X.ok B → X'.ok B ∧ w'.heap[B]? = w.heap[B]?) ∧ ∀ i o o', lk H i = some (0, o) → lk H' i = some (0, o') → o' ≠ .dead → OSim o o' ∧ X'.b i = X.b i
theorem Ext.zero {X X' : Cx} {H H' : Heap} {w w' : World} (E : Ext X H w X' H' w') : Ext0 X H w X' H' w' := by
  refine ⟨E.ok, fun i o o' h h' hd => ?_⟩
  obtain ⟨o1, h1, h2, h3⟩ := E.ref i 0 o' (lk_obj h') hd (by rw [lk_ver h]; omega)
  have := obj_lk h1
  rw [h] at this
  simp at this
  subst this
  exact ⟨h2, h3⟩
/-- Blocks that lie as they lay when the program began (tables): none is handed over to be written. -/
def Tabs (G : List (Nat × Go.Obj)) (w : World) (S : Nat → Prop) : Prop := ∀ e ∈ G, w.heap[e.1]? = some e.2 ∧ ¬ S e.1
/-- A function keeps its contract. -/
structure ConOk (G : List (Nat × Go.Obj)) (P : Program) (f : FuncId) (c : Con) : Prop where
  fn : ∃ fn code, P.funcs[f]? = some fn ∧ (fn.name == "runtime.NumGoroutine") = false ∧ fn.body = some code
  still : c.still = true → c.objs = []
  runs : ∀ p q x, c.spec p q = some x → ∀ X w (vals : Array Value) S0, Tabs G w S0 → Inv w S0 X.ok X (mkO c.objs 0 q) w → AVsRel X (mkO c.objs 0 q) w (mkA c.args p) vals.toList →
    ∀ cs, ∃ w' X' fr val, Steps P (lone (Frame.enter P f vals .normal) cs w) (lone fr cs w') ∧ fr.fn = f ∧ fr.leaving P w' (.returned val) ∧
      Inv w S0 X.ok X' (c.ren p q x).2 w' ∧ TVRel X' (c.ren p q x).2 w' (tvOf (c.ren p q x).1) val ∧ Ext0 X (mkO c.objs 0 q) w X' (c.ren p q x).2 w'

section
variable {P : Program} {w0 : World} {S0 S1 ok0 : Nat → Prop} {X X' : Cx} {H H' K : Heap} {w w' : World} {f g : Nat → Nat → Option (Nat × Nat)} {ids : List Nat} {R : Type}

theorem coerce_sound : ∀ {l : List ShA} {as as' : List AV} {H U : Heap} {X : Cx} {vs : List Value}, coerce H l as = some (as', U) → Inv w0 S0 ok0 X H w → AVsRel X H w as vs →
    ∃ X', Ext X H w X' (U ++ H) w ∧ Inv w0 S0 ok0 X' (U ++ H) w ∧ AVsRel X' (U ++ H) w as' vs
  | [], as, as', H, U, X, vs, h, I, hv => by
    simp [coerce] at h; obtain ⟨rfl, rfl⟩ := h
    exact ⟨X, Ext.refl .., I, hv⟩
  | s :: r, [], as', H, U, X, vs, h, I, hv => by
    have : as' = [] ∧ U = [] := by
      unfold coerce at h
      split at h <;> simp_all
    obtain ⟨rfl, rfl⟩ := this
    exact ⟨X, Ext.refl .., I, hv⟩
  | s :: r, a :: as, as', H, U, X, _, h, I, ⟨v, us, rfl, h2, h3⟩ => by
    unfold coerce at h
    split at h
    · rename_i t r' c as1 e1 e2
      simp at e1 e2
      obtain ⟨rfl, rfl⟩ := e1
      obtain ⟨rfl, rfl⟩ := e2
      split at h
      · rename_i c' U1 h4
        split at h
        · rename_i as2 V h5
          simp at h; obtain ⟨rfl, rfl⟩ := h
          obtain ⟨X1, E1, I1, h6, _⟩ := plain_sound I h4 h2
          obtain ⟨X2, E2, I2, h7⟩ := coerce_sound h5 I1 (h3.ext E1)
          rw [← List.append_assoc] at E2 I2 h7
          exact ⟨X2, E1.trans E2, I2, v, us, rfl, CRel.ext E2 h6, h7⟩
        · simp at h
      · simp at h
    · rename_i s' r' a' as1 _ e1 e2
      simp at e1 e2
      obtain ⟨rfl, rfl⟩ := e1
      obtain ⟨rfl, rfl⟩ := e2
      split at h
      · rename_i as2 V h5
        simp at h; obtain ⟨rfl, rfl⟩ := h
        obtain ⟨X2, E2, I2, h7⟩ := coerce_sound h5 I h3
        exact ⟨X2, E2, I2, v, us, rfl, h2.ext E2, h7⟩
      · simp at h
    · rename_i x1 x2 e1
      exfalso
      exact e1 s r a as rfl rfl

/-! ### Names -/
theorem idxOf_spec {i : Nat} : ∀ {l : List Nat} {n j : Nat}, idxOf i l n = some j → n ≤ j ∧ l[j - n]? = some i
  | [], n, j, h => by simp [idxOf] at h
  | k :: r, n, j, h => by
    simp only [idxOf] at h
    by_cases e : i = k
    · subst e; simp at h; subst h; simp
    · simp [nbeq e] at h
      obtain ⟨h1, h2⟩ := idxOf_spec h
      obtain ⟨m, rfl⟩ : ∃ m, j = n + 1 + m := ⟨j - n - 1, by omega⟩
      refine ⟨by omega, ?_⟩
      rw [show n + 1 + m - (n + 1) = m by omega] at h2
      rw [show n + 1 + m - n = m + 1 by omega]
      simpa using h2
theorem idxOf_some {i : Nat} : ∀ {l : List Nat} {n : Nat}, i ∈ l → ∃ j, idxOf i l n = some j
  | k :: r, n, h => by
    simp only [idxOf]
    by_cases e : i = k
    · subst e; exact ⟨n, by simp⟩
    · simp [nbeq e]
      rcases List.mem_cons.1 h with h | h
      · exact absurd h e
      · exact idxOf_some h
theorem intoF_spec {i v j s : Nat} (h : intoF H ids i v = some (j, s)) : ∃ o k, lk H i = some (v, o) ∧ ids[k]? = some i ∧ j = par k ∧ s = 0 := by
  unfold intoF at h
  split at h
  · rename_i v' o k h1 h2
    cases hb : Nat.beq v v' with
    | false => simp [hb] at h
    | true =>
      have := Nat.eq_of_beq_eq_true hb
      subst this
      simp at h
      obtain ⟨rfl, rfl⟩ := h
      have := (idxOf_spec h2).2
      exact ⟨o, k, h1, by simpa using this, rfl, rfl⟩
  · simp at h
theorem intoF_ok : NameOk (intoF H ids) H := by
  refine ⟨fun i v j s h => ?_, fun i v j s i' v' s' h h' => ?_⟩
  · obtain ⟨o, k, h1, _⟩ := intoF_spec h; exact ⟨o, h1⟩
  · obtain ⟨o, k, h1, h2, h3, _⟩ := intoF_spec h
    obtain ⟨o', k', h1', h2', h3', _⟩ := intoF_spec h'
    have : k = k' := by unfold par at h3 h3'; omega
    subst this
    rw [h2] at h2'
    simpa using h2'
theorem reach_nodup : ∀ {k : Nat} {l seen : List Nat}, seen.Nodup → (reach H k l seen).Nodup
  | 0, l, seen, h => by simpa [reach] using h
  | k + 1, [], seen, h => by simpa [reach] using h
  | k + 1, i :: r, seen, h => by
    simp only [reach]
    cases hi : inL i seen with
    | true => simpa using reach_nodup h
    | false =>
      have hn : (seen ++ [i]).Nodup := by
        rw [List.nodup_append]
        exact ⟨h, by simp, fun a ha b hb => by simp at hb; subst hb; rintro rfl; exact not_inL hi ha⟩
      simp only [cond_false]
      split
      · exact reach_nodup hn
      · exact reach_nodup hn
theorem parAt_spec {i : Nat} : ∀ {l : List Nat} {n k : Nat}, parAt l i n = some k → ∃ m, i = par (n + m) ∧ l[m]? = some k
  | [], n, k, h => by simp [parAt] at h
  | a :: r, n, k, h => by
    simp only [parAt] at h
    by_cases e : i = par n
    · subst e
      simp at h; subst h
      exact ⟨0, rfl, rfl⟩
    · rw [nbeq e] at h
      obtain ⟨m, h1, h2⟩ := parAt_spec h
      exact ⟨m + 1, by rw [h1, show n + (m + 1) = n + 1 + m by omega], by simpa using h2⟩
theorem backF_spec {new i v j s : Nat} (h : backF H H' ids new i v = some (j, s)) : (∃ o, lk H' i = some (v, o)) ∧
    ((∃ k r o, i = par k ∧ ids[k]? = some j ∧ lk H j = some (r, o) ∧ s = r + v) ∨ (i < 100000 ∧ j = new + i ∧ j ∉ ids ∧ s = H.ver j)) := by
  unfold backF at h
  split at h
  · rename_i v' o h1
    cases hb : Nat.beq v v' with
    | false => simp [hb] at h
    | true =>
      have := Nat.eq_of_beq_eq_true hb
      subst this
      refine ⟨⟨o, h1⟩, ?_⟩
      simp only [hb, cond_true] at h
      cases hc : Nat.ble 100000 i with
      | true =>
        simp only [hc, cond_true] at h
        have := Nat.le_of_ble_eq_true hc
        split at h
        · rename_i j' h2
          split at h
          · rename_i r o' h3
            simp at h
            obtain ⟨rfl, rfl⟩ := h
            obtain ⟨m, h4, h5⟩ := parAt_spec h2
            rw [Nat.zero_add] at h4
            exact .inl ⟨m, r, o', h4, h5, h3, rfl⟩
          · simp at h
        · simp at h
      | false =>
        simp only [hc, cond_false] at h
        cases hd : inL (new + i) ids with
        | true => simp [hd] at h
        | false =>
          simp [hd] at h
          obtain ⟨rfl, rfl⟩ := h
          refine .inr ⟨?_, rfl, not_inL hd, rfl⟩
          rcases Nat.lt_or_ge i 100000 with h | h
          · exact h
          · rw [Nat.ble_eq_true_of_le h] at hc; cases hc
  · simp at h
theorem backF_ok (hn : ids.Nodup) {new : Nat} : NameOk (backF H H' ids new) H' := by
  refine ⟨fun i v j s h => (backF_spec h).1, fun i v j s i' v' s' h h' => ?_⟩
  have hmem : ∀ {k : Nat}, ids[k]? = some j → j ∈ ids := fun h => List.mem_of_getElem? h
  rcases (backF_spec h).2 with ⟨k, r, o, h1, h2, h3, h4⟩ | ⟨h1, h2, h3, h4⟩ <;> rcases (backF_spec h').2 with ⟨k', r', o', h1', h2', h3', h4'⟩ | ⟨h1', h2', h3', h4'⟩
  · have hk := (List.getElem?_eq_some_iff.1 h2)
    have hk' := (List.getElem?_eq_some_iff.1 h2')
    obtain ⟨a, ha⟩ := hk
    obtain ⟨b, hb⟩ := hk'
    have : k = k' := (List.getElem_inj hn).1 (ha.trans hb.symm)
    rw [h1, h1', this]
  · exact absurd (hmem h2) h3'
  · exact absurd (hmem h2') h3
  · omega
/-- The world in which a call begins. -/
theorem Inv.rebase (I : Inv w0 S0 ok0 X H w) : Inv w (fun B => ∃ i r o c, lk H i = some (r, o) ∧ o ≠ .dead ∧ X.b i = some (B, c)) X.ok X H w where
  objs := I.objs
  sep i r o B c h hd hB := ⟨(I.sep i r o B c h hd hB).1, .inl ⟨i, r, o, c, h, hd, hB⟩, (I.sep i r o B c h hd hB).2.2⟩
  okb B hB := ⟨(I.okb B hB).1, .inl hB⟩
  frm _ _ _ := rfl
  size := Nat.le_refl _
  os := rfl
  tape := rfl
  output := rfl
variable {G : List (Nat × Go.Obj)}
theorem heap_lt {w : World} {B : Nat} {o : Go.Obj} (h : w.heap[B]? = some o) : B < w.heap.size := (Array.getElem?_eq_some_iff.1 h).1
theorem Tabs.call (hT : Tabs G w0 S0) (I : Inv w0 S0 ok0 X H w) : Tabs G w (fun B => ∃ i r o c, lk H i = some (r, o) ∧ o ≠ .dead ∧ X.b i = some (B, c)) := by
  intro e he
  obtain ⟨h1, h2⟩ := hT e he
  have hlt := heap_lt h1
  refine ⟨(I.frm _ hlt h2).trans h1, ?_⟩
  rintro ⟨i, r, o, c, h3, h4, h5⟩
  rcases (I.sep i r o e.1 c h3 h4 h5).2.1 with h6 | h6
  · exact h2 h6
  · omega
theorem Tabs.still (hT : Tabs G w0 S0) (I : Inv w0 S0 ok0 X H w) : Tabs G w (fun _ => False) := by
  intro e he
  obtain ⟨h1, h2⟩ := hT e he
  exact ⟨(I.frm _ (heap_lt h1) h2).trans h1, fun h => h⟩
end
end Go.Ab

/- A call by its contract: what it does to memory. -/
set_option linter.unusedVariables false
set_option linter.unusedSimpArgs false
namespace Go.Ab
open Go

section
variable {P : Program} {w0 : World} {S0 S1 ok0 : Nat → Prop} {X X' : Cx} {H H' K : Heap} {w w' : World} {f g : Nat → Nat → Option (Nat × Nat)} {ids : List Nat} {R : Type}

inductive CallT (c : Con) (H : Heap) (new : Nat) (args : List AV) : List AV → Heap → List Nat → Prop
  | still (p : shAT c.args) (q : shOT c.objs) (x : c.X) : c.still = true → conInS c H args = some (p, q) → c.spec p q = some x → (c.ren p q x).1.all AV.flat = true → CallT c H new args (c.ren p q x).1 [] (args.flatMap AV.ids)
  | full (args' : List AV) (U0 : Heap) (p : shAT c.args) (q : shOT c.objs) (x : c.X) : c.still = false → coerce H c.args args = some (args', U0) → conIn c (U0 ++ H) (callIds (U0 ++ H) args') args' = some (p, q) → c.spec p q = some x →
      CallT c H new args (backRes (U0 ++ H) (callIds (U0 ++ H) args') new (c.ren p q x)).1 ((backRes (U0 ++ H) (callIds (U0 ++ H) args') new (c.ren p q x)).2 ++ U0)
        (args.flatMap AV.ids ++ (callIds (U0 ++ H) args' ++ (c.ren p q x).2.map fun e => new + e.1))
theorem conK_callT {c : Con} {new : Nat} {args : List AV} {k : List AV → Heap → List Nat → Option R} {r : R} (h : conK c H new args k = some r) : ∃ vs U idl, CallT c H new args vs U idl ∧ k vs U idl = some r := by
  unfold conK at h
  cases hs : c.still with
  | true =>
    simp only [hs, cond_true] at h
    split at h
    · rename_i p q h1
      obtain ⟨x, h2, h3⟩ := Option.bind_eq_some_iff.1 h
      cases hf : (c.ren p q x).1.all AV.flat with
      | false => simp [hf] at h3
      | true =>
        simp only [hf, cond_true] at h3
        exact ⟨_, _, _, .still p q x hs h1 h2 hf, h3⟩
    · simp at h
  | false =>
    simp only [hs, cond_false] at h
    split at h
    · rename_i args' U0 h1
      split at h
      · rename_i p q h2
        obtain ⟨x, h3, h4⟩ := Option.bind_eq_some_iff.1 h
        exact ⟨_, _, _, .full args' U0 p q x hs h1 h2 h3, h4⟩
      · simp at h
    · simp at h

theorem tvOf_ren (vs : List AV) : (tvOf vs).ren f = tvOf (vs.map (·.ren f)) := by
  match vs with
  | [] => rfl
  | [v] => rfl
  | a :: b :: r => rfl
theorem AVRel.flat {a : AV} {v : Value} (hf : a.flat = true) (h : AVRel X H w a v) : AVRel X' H' w' a v := by
  cases a with
  | agg fs => simp [AV.flat] at hf
  | one c => cases c <;> first | exact h | (simp [AV.flat, C.flat] at hf)
theorem AVsRel.flat : ∀ {l : List AV} {vs : List Value}, l.all AV.flat = true → AVsRel X H w l vs → AVsRel X' H' w' l vs
  | [], _, _, h => h
  | a :: r, _, hf, ⟨v, us, h1, h2, h3⟩ => by
    simp only [List.all_cons, Bool.and_eq_true] at hf
    exact ⟨v, us, h1, h2.flat hf.1, AVsRel.flat hf.2 h3⟩
theorem TVRel.flat {l : List AV} {v : Value} (hf : l.all AV.flat = true) (h : TVRel X H w (tvOf l) v) : TVRel X' H' w' (tvOf l) v := by
  match l, hf, h with
  | [], hf, ⟨vs, h1, h2⟩ => exact ⟨vs, h1, h2⟩
  | [a], hf, h => simp at hf; exact AVRel.flat hf h
  | a :: b :: r, hf, ⟨vs, h1, h2⟩ => exact ⟨vs, h1, AVsRel.flat hf h2⟩
/-- A row of our own, looked at as plain data. -/
theorem readS_sound (I : Inv w0 S0 ok0 X H w) {c : C} {u : Value} (hv : CRel X H w c u) : CRel ⟨fun _ => none, fun B => B < w.heap.size⟩ [] w ((H.readS c).ren fun _ _ => none) u := by
  have hmono : ∀ {t : Ty} {x : t.T} {cs : List Value}, Rep w X.ok t x cs → Rep w (fun B => B < w.heap.size) t x cs := fun h => h.mono fun B hB => ⟨(I.okb B hB).1, rfl⟩
  have E : ExtF (fun _ _ => none) X H w ⟨fun _ => none, fun B => B < w.heap.size⟩ [] w := ⟨fun B hB => ⟨(I.okb B hB).1, rfl⟩, fun i r j s h => by simp at h⟩
  have row : ∀ {i r lo n : Nat} {t : Ty} {xs : List t.T}, H.obj i r = some (.row t xs) → lo + n ≤ xs.length → RowV (X.b i) t.size lo n u → Rep w (fun B => B < w.heap.size) (.sl t) ((xs.drop lo).take n) [u] := fun {i r lo n t xs} ho hl h1 => by
    have hlen : ((xs.drop lo).take n).length = n := by simp; omega
    rcases I.objs i r _ (obj_lk ho) with ⟨hb, rfl⟩ | ⟨B, cap, ds, hb, h3, h3', _, h4, cur, ty, fr, h5, h6, h7, h8, h9⟩
    · rw [hb] at h1; obtain ⟨rfl, rfl, _⟩ := h1
      simp
      exact .sl0 _ _ _
    · rw [hb] at h1; obtain ⟨A, rfl, h10, h11⟩ := h1
      by_cases hn : 0 < n
      · have e1 : xs.length = lo + (n + (xs.length - lo - n)) := by omega
        rw [e1] at h4
        obtain ⟨a, b', rfl, ha, hb'⟩ := h4.ar_split
        obtain ⟨b, d, rfl, hb2, hd⟩ := hb'.ar_split
        have hal : a.length = lo * t.size := by simpa [Ty.size] using ha.length
        have hat : At w B (lo * t.size) b := At.of_row h5 a (d ++ cur.toList.drop (a ++ (b ++ d)).length) (by have := pref_eq h9; rw [this]; simp) hal
        rw [h11 (.inl hn)]
        have := Rep.sl (w := w) (ok := fun B => B < w.heap.size) t ((xs.drop lo).take n) B (lo * t.size) (cap - lo) b (by rw [hlen]; exact hmono hb2) hat (I.lt (obj_lk ho) (by simp) hb) (by omega) (by omega)
        rwa [hlen] at this
      · have : n = 0 := by omega
        subst this
        simp
        exact .sl0 _ _ _
  cases c with
  | ow i r =>
    simp only [Heap.readS, Heap.data]
    split
    · rename_i t xs ho
      split at ho
      · rename_i t' xs' ho'
        simp at ho
        obtain ⟨rfl, ho⟩ := ho
        simp at ho; subst ho
        have := row (lo := 0) (n := xs'.length) ho' (by omega) (hv.2 _ _ ho')
        simpa [C.ren, CRel] using this
      · simp at ho
    · trivial
  | os i r lo n =>
    simp only [Heap.readS, Heap.data]
    split
    · rename_i t xs ho
      split at ho
      · rename_i t' xs' ho'
        simp at ho
        obtain ⟨rfl, ho⟩ := ho
        simp at ho; subst ho
        obtain ⟨h0, h1⟩ := hv.2 _ _ ho'
        exact row ho' h0 h1
      · simp at ho
    · trivial
  | _ => exact CRel.extF E hv
theorem coerceS_sound (I : Inv w0 S0 ok0 X H w) : ∀ {l : List ShA} {as : List AV} {vs : List Value}, AVsRel X H w as vs →
    AVsRel ⟨fun _ => none, fun B => B < w.heap.size⟩ [] w ((coerceS H l as).map (·.ren fun _ _ => none)) vs := by
  have E : ExtF (fun _ _ => none) X H w ⟨fun _ => none, fun B => B < w.heap.size⟩ [] w := ⟨fun B hB => ⟨(I.okb B hB).1, rfl⟩, fun i r j s h => by simp at h⟩
  intro l
  induction l with
  | nil => intro as vs h; simpa [coerceS] using h.extF E
  | cons s r ih =>
    intro as vs h
    cases as with
    | nil => unfold coerceS; split <;> simp_all [AVsRel]
    | cons a as =>
      obtain ⟨v, us, rfl, h2, h3⟩ := h
      unfold coerceS
      split
      · rename_i t r' c as1 e1 e2
        simp at e1 e2
        obtain ⟨rfl, rfl⟩ := e1
        obtain ⟨rfl, rfl⟩ := e2
        exact ⟨v, us, rfl, readS_sound I h2, ih h3⟩
      · rename_i s' r' a' as1 _ e1 e2
        simp at e1 e2
        obtain ⟨rfl, rfl⟩ := e1
        obtain ⟨rfl, rfl⟩ := e2
        exact ⟨v, us, rfl, h2.extF E, ih h3⟩
      · rename_i x1 x2 e1
        exact (e1 s r a as rfl rfl).elim
/-- A call by its contract: it returns, and what is told of it holds. -/
theorem callT_sound {G : List (Nat × Go.Obj)} (hG : Tabs G w0 S0) {c : Con} {F : FuncId} (hC : ConOk G P F c) {new : Nat} {args vs : List AV} {U : Heap} {idl : List Nat} (h : CallT c H new args vs U idl) (I : Inv w0 S0 ok0 X H w) {vals : Array Value} (hv : AVsRel X H w args vals.toList) (cs : List Frame) :
    ∃ w' X' fr val, Steps P (lone (Frame.enter P F vals .normal) cs w) (lone fr cs w') ∧ fr.fn = F ∧ fr.leaving P w' (.returned val) ∧ Ext X H w X' (U ++ H) w' ∧ Inv w0 S0 ok0 X' (U ++ H) w' ∧ TVRel X' (U ++ H) w' (tvOf vs) val := by
  cases h with
  | still p q x h1 h2 h3 h4 =>
    unfold conInS at h2
    split at h2
    · rename_i p' q' h5 h6
      simp at h2
      obtain ⟨rfl, rfl⟩ := h2
      have ho := hC.still h1
      have hH : mkO c.objs 0 q' = [] := by
        have : ∀ {l : List ShO} {n : Nat} {q : shOT l}, l = [] → mkO l n q = [] := fun {l n q} e => by subst e; rfl
        exact this ho
      have I0 : Inv w (fun _ => False) (fun B => B < w.heap.size) ⟨fun _ => none, fun B => B < w.heap.size⟩ (mkO c.objs 0 q') w := by
        rw [hH]
        refine ⟨fun i r o h => by simp [lk] at h, fun i r o B c h => by simp [lk] at h, fun B hB => ⟨hB, .inl hB⟩, fun _ _ _ => rfl, Nat.le_refl _, rfl, rfl, rfl⟩
      have ha := rdA_sound h5 (coerceS_sound I (l := c.args) hv)
      obtain ⟨w', X', fr, val, h7, h8, h9, I', h10, h11⟩ := hC.runs p' q' x h3 _ w vals _ (hG.still I) I0 (by rw [hH]; exact ha) cs
      have hb : ∀ B, B < w.heap.size → w'.heap[B]? = w.heap[B]? := fun B hB => I'.frm B hB (by simp)
      have E : Ext X H w X H w' := ⟨fun B hB => ⟨hB, hb B (I.okb B hB).1⟩, fun i => Nat.le_refl _, fun i r o' h hd _ => ⟨o', h, by cases o' <;> simp_all [OSim, FsSim.refl], rfl⟩⟩
      refine ⟨w', X, fr, val, h7, h8, h9, E, ⟨?_, I.sep, fun B hB => ⟨Nat.lt_of_lt_of_le (I.okb B hB).1 I'.size, (I.okb B hB).2⟩, fun B hB hn => (hb B (Nat.lt_of_lt_of_le hB I.size)).trans (I.frm B hB hn), Nat.le_trans I.size I'.size, I'.os.trans I.os, I'.tape.trans I.tape, I'.output.trans I.output⟩, h10.flat h4⟩
      intro i r o h
      exact (I.objs i r o h).ext E rfl fun B c hd hB => hb B (I.lt h hd hB)
    · simp at h2
  | full args' U0 p q x h1 h2 h3 h4 =>
    obtain ⟨X1, E1, I1, hv1⟩ := coerce_sound h2 I hv
    generalize hids : callIds (U0 ++ H) args' = ids at *
    have hnd : ids.Nodup := by rw [← hids]; exact reach_nodup List.nodup_nil
    unfold conIn at h3
    split at h3
    · rename_i p' q' h5 h6
      simp at h3
      obtain ⟨rfl, rfl⟩ := h3
      have hN : NameOk (intoF (U0 ++ H) ids) (U0 ++ H) := intoF_ok
      obtain ⟨EF, I2⟩ := norm_inv (ids := ids) I1 hN (fun i v p hp => by obtain ⟨o, k, _, hk, _⟩ := intoF_spec hp; exact List.mem_of_getElem? hk) ⟨fun _ => none, fun _ => False⟩
      have I3 := (rdO_inv I2 h6).rebase
      have E3 : Ext (X1.named ⟨fun _ => none, fun _ => False⟩ (intoF (U0 ++ H) ids)) (into (U0 ++ H) ids) w _ (mkO c.objs 0 q') w := rdO_ext h6
      have ha := (rdA_sound h5 (hv1.extF EF)).ext E3
      obtain ⟨w', X', fr, val, h7, h8, h9, I', h10, h11⟩ := hC.runs p' q' x h4 _ w vals _ (hG.call (rdO_inv I2 h6)) I3 ha cs
      -- a name that is handed over
      have hpar : ∀ {i r k : Nat} {o : Obj}, lk (U0 ++ H) i = some (r, o) → ids[k]? = some i → intoF (U0 ++ H) ids i r = some (par k, 0) := fun {i r k o} hl hk => by
        obtain ⟨k', hk'⟩ := idxOf_some (n := 0) (List.mem_of_getElem? hk)
        have h12 := (idxOf_spec hk').2
        simp at h12
        obtain ⟨a, ha⟩ := List.getElem?_eq_some_iff.1 hk
        obtain ⟨b, hb⟩ := List.getElem?_eq_some_iff.1 h12
        have : k = k' := (List.getElem_inj hnd).1 (ha.trans hb.symm)
        subst this
        unfold intoF
        rw [hl, hk']
        simp
      obtain ⟨E4, I4, EF4⟩ := join I1 I' (ids := ids) (g := backF (U0 ++ H) (c.ren p' q' x).2 ids new) (fun B hB => by
          obtain ⟨i, r, o, cp, h12, h13, h14⟩ := hB
          rcases rdO_spec h6 i with ⟨_, h15⟩ | ⟨s, o1, y, h15, h16, h17, _⟩
          · rw [h15] at h12; cases h12
          · obtain ⟨i0, v0, o0, h18, h19, h20, h21⟩ := normH_spec h15
            rw [Cx.named_b hN _ h20] at h14
            refine ⟨i0, v0, o0, cp, h18, h19, ?_, h14⟩
            rintro rfl
            simp [Obj.ren] at h21
            subst h21
            have := ShO.rd_sim h17
            cases s <;> simp [ShO.mk, OSim] at this) h11.1 (backF_ok hnd) (fun i v j s hg hj => by
          rcases (backF_spec hg).2 with ⟨k, r, o, h12, h13, h14, h15⟩ | ⟨_, _, h13, _⟩
          · refine ⟨r, o, h14, by omega, fun hsr o' ho' hd => ?_⟩
            have hv0 : v = 0 := by omega
            subst hv0 h12
            have hp := hpar h14 h13
            have hl := normH_has hN h14 hp (List.mem_of_getElem? h13)
            rcases rdO_spec h6 (par k) with ⟨h16, _⟩ | ⟨s1, o1, y, h16, h17, h18, _⟩
            · have : lk (into (U0 ++ H) ids) (par k) = some (0, o.ren (intoF (U0 ++ H) ids)) := hl
              rw [h16] at this; cases this
            · have hl' : lk (into (U0 ++ H) ids) (par k) = some (0, o.ren (intoF (U0 ++ H) ids)) := hl
              rw [h16] at hl'
              simp at hl'
              obtain ⟨h19, h20⟩ := h11.2 (par k) _ o' h17 ho' hd
              have h21 := ShO.rd_sim h18
              have hlive : o ≠ .dead := by
                rintro rfl
                simp [Obj.ren] at hl'
                subst hl'
                cases s1 <;> simp [ShO.mk, OSim] at h21
              rw [hl'] at h21
              exact ⟨((Obj.ren_sim _ o hlive).trans h21).trans h19, h20.trans (Cx.named_b hN _ hp)⟩
          · exact absurd hj h13) (fun i v j s hg hj => by
          rcases (backF_spec hg).2 with ⟨k, r, o, h12, h13, h14, h15⟩ | ⟨_, _, _, h15⟩
          · exact absurd (List.mem_of_getElem? h13) hj
          · exact h15)
      have h12 := h10.extF EF4
      rw [tvOf_ren] at h12
      have hassoc : (backRes (U0 ++ H) ids new (c.ren p' q' x)).2 ++ U0 ++ H = normH (c.ren p' q' x).2 (backF (U0 ++ H) (c.ren p' q' x).2 ids new) ((c.ren p' q' x).2.map (·.1)) ++ kill (U0 ++ H) ids ++ (U0 ++ H) := by
        simp [backRes]
      refine ⟨w', X'.named X1 (backF (U0 ++ H) (c.ren p' q' x).2 ids new), fr, val, h7, h8, h9, ?_, ?_, ?_⟩
      · rw [hassoc]; exact E1.trans E4
      · rw [hassoc]; exact I4
      · rw [hassoc]; exact h12
    · simp at h3
end
end Go.Ab

/- Frames: what the interpreter says of them holds of the machine's. -/
set_option linter.unusedVariables false
set_option linter.unusedSimpArgs false
namespace Go.Ab
open Go

def DRel (X : Cx) (H : Heap) (w : World) : List Dfr → List Deferred → Prop
  | [], ds => ds = []
  | d :: r, ds => ∃ caps args rest, ds = ({ target := .fn (.func d.f) caps, args := args } : Deferred) :: rest ∧ AVsRel X H w d.args (args.toList ++ caps.toList) ∧ DRel X H w r rest
def frameOf (fr : Fr) (tmps : Array Value) (dfs : List Deferred) : Frame :=
  { fn := fr.fn, tmps := tmps, todo := fr.todo, defers := dfs, mode := bif fr.ret then .returning else .run, kind := bif fr.dfr then .deferred else .normal }
def FrOk (X : Cx) (H : Heap) (w : World) (fr : Fr) (F : Frame) : Prop := ∃ tmps dfs, F = frameOf fr tmps dfs ∧ TRel X H w fr.n fr.t tmps ∧ DRel X H w fr.d dfs
/-- The machine stands before a loop where the interpreter stands at its head. -/
def TodoEq (fr : Fr) (b : List Item) : Prop := b = fr.todo ∨ fr.ret = false ∧ ∃ c r, fr.todo = .inLoop c :: r ∧ b = .code (.loop c) :: r
def Loose (X : Cx) (H : Heap) (w : World) (fr : Fr) (F : Frame) : Prop := ∃ td, TodoEq fr td ∧ FrOk X H w { fr with todo := td } F
theorem FrOk.loose {X : Cx} {H : Heap} {w : World} {fr : Fr} {F : Frame} (h : FrOk X H w fr F) : Loose X H w fr F := ⟨fr.todo, .inl rfl, h⟩
def FsOk (X : Cx) (H : Heap) (w : World) : List Fr → List Frame → Prop
  | [], Fs => Fs = []
  | fr :: r, Fs => ∃ F Gs, Fs = F :: Gs ∧ FrOk X H w fr F ∧ FsOk X H w r Gs

section
variable {P : Program} {w0 : World} {S0 S1 ok0 : Nat → Prop} {X X' : Cx} {H H' K : Heap} {w w' : World} {R : Type}

theorem DRel.ext (E : Ext X H w X' H' w') : ∀ {l : List Dfr} {ds : List Deferred}, DRel X H w l ds → DRel X' H' w' l ds
  | [], _, h => h
  | d :: r, _, ⟨caps, args, rest, h1, h2, h3⟩ => ⟨caps, args, rest, h1, h2.ext E, DRel.ext E h3⟩
theorem FrOk.ext (E : Ext X H w X' H' w') {fr : Fr} {F : Frame} (h : FrOk X H w fr F) : FrOk X' H' w' fr F := by
  obtain ⟨tmps, dfs, h1, h2, h3⟩ := h
  exact ⟨tmps, dfs, h1, h2.ext E, h3.ext E⟩
theorem FsOk.ext (E : Ext X H w X' H' w') : ∀ {l : List Fr} {Fs : List Frame}, FsOk X H w l Fs → FsOk X' H' w' l Fs
  | [], _, h => h
  | f :: r, _, ⟨F, Gs, h1, h2, h3⟩ => ⟨F, Gs, h1, h2.ext E, FsOk.ext E h3⟩
/-- The machine's frame as its own laws say it. -/
def baseOf (fr : Fr) : Frame := { (default : Frame) with fn := fr.fn, kind := bif fr.dfr then .deferred else .normal }
theorem frameOf_at {fr : Fr} {tmps : Array Value} {dfs : List Deferred} (hr : fr.ret = false) : frameOf fr tmps dfs = (baseOf fr).at ⟨tmps, dfs⟩ fr.todo := by
  simp [frameOf, Frame.at, baseOf, hr]
theorem splitG_spec {ops : Array Oper} {i : Nat} {v : TV} {g : Bool} (h : splitG ops i v = some g) : v = .v (.one (.bool g)) := by
  unfold splitG at h
  split at h
  · cases hq : isGuard ops i <;> simp [hq] at h
    subst h; rfl
  · simp at h
theorem finishK_sound {fr : Fr} {v : TV} {k : Fr → Option R} {r : R} (h : finishK fr v k = some r) {F : Frame} (hF : FrOk X H w fr F) {val : Value} (hv : TVRel X H w v val) (hret : fr.ret = false) :
    ∃ fr', k fr' = some r ∧ FrOk X H w fr' (F.finish val) ∧ fr'.dfr = fr.dfr ∧ fr'.ret = false ∧ fr'.fn = fr.fn := by
  obtain ⟨tmps, dfs, rfl, hT, hD⟩ := hF
  unfold finishK at h
  split at h
  · rename_i ops i r' rest htodo
    split at h
    · rename_i o ho
      have hfin : (frameOf fr tmps dfs).finish val = (baseOf fr).at (Act.put ⟨tmps, dfs⟩ o.dst val) (.inRegion ops r' :: rest) := by
        rw [frameOf_at hret, htodo, Frame.finish_at, ho]; rfl
      have hput : ∀ {t : List (Nat × TV)}, TRel X H w fr.n t (Act.put ⟨tmps, dfs⟩ o.dst val).tmps → FrOk X H w { fr with t := t, todo := .inRegion ops r' :: rest } ((frameOf fr tmps dfs).finish val) := fun {t} ht => by
        refine ⟨(Act.put ⟨tmps, dfs⟩ o.dst val).tmps, dfs, ?_, ht, hD⟩
        rw [hfin]
        have : (Act.put ⟨tmps, dfs⟩ o.dst val).defers = dfs := by cases o.dst <;> rfl
        simp [frameOf, Frame.at, baseOf, hret, this]
      split at h
      · rename_i g d hg hd
        have hvg := splitG_spec hg
        cases hb : Nat.blt d fr.n with
        | false => simp [hb] at h
        | true =>
          simp only [hb, cond_true] at h
          have hput' : ∀ (u : TV), putT fr.n fr.t (some d) u = (d, u) :: fr.t := fun u => by unfold putT; simp only [hb, cond_true]
          have hvv : TVRel X H w (.v (.one (.kb g))) val := by rw [hvg] at hv; exact hv
          have hT' := hT.put (dst := o.dst) hvv dfs
          rw [show putT fr.n fr.t o.dst (.v (.one (.kb g))) = (d, .v (.one (.kb g))) :: fr.t by rw [hd]; exact hput' _] at hT'
          cases g with
          | true => exact ⟨_, h, hput hT', rfl, hret, rfl⟩
          | false => exact ⟨_, h, hput hT', rfl, hret, rfl⟩
      · exact ⟨_, h, hput (hT.put hv dfs), rfl, hret, rfl⟩
    · simp at h
  · simp at h

/-! ### Entering -/
theorem run_enter {f : FuncId} {fn : Func} {c : Code} (hf : P.funcs[f]? = some fn) (hname : (fn.name == "runtime.NumGoroutine") = false) (hb : fn.body = some c) (args : Array Value) :
    (callFunc f args).run P w = .ok (.enter f args) w := by
  have h1 : ¬ fn.name = "runtime.NumGoroutine" := by simpa using hname
  simp [callFunc, hf, h1, hb]
theorem zipT_lk : ∀ {l : List AV} {n j : Nat}, lk (zipT l n) j = if n ≤ j then (l[j - n]?).map TV.v else none
  | [], n, j => by simp [zipT, lk]
  | a :: r, n, j => by
    simp only [zipT, lk_cons]
    by_cases e : n = j
    · subst e; simp
    · rw [if_neg e, zipT_lk]
      by_cases h : n ≤ j
      · rw [if_pos h, if_pos (by omega), show j - n = (j - (n + 1)) + 1 by omega]
        simp
      · rw [if_neg h, if_neg (by omega)]
theorem enterF_sound {f : FuncId} {as : List AV} {base : Nat} {d : Bool} {fr : Fr} (h : enterF P f as base d = some fr) {vals : Array Value} (hv : AVsRel X H w as vals.toList) :
    FrOk X H w fr (Frame.enter P f vals (bif d then .deferred else .normal)) ∧ fr.dfr = d ∧ fr.ret = false ∧ fr.fn = f ∧ ∃ fn c, P.funcs[f]? = some fn ∧ (fn.name == "runtime.NumGoroutine") = false ∧ fn.body = some c := by
  unfold enterF at h
  split at h
  · rename_i fn hf
    split at h
    · rename_i c hb
      cases hq : (!(fn.name == "runtime.NumGoroutine") && Nat.ble as.length fn.ntmps) with
      | false => simp only [hq, cond_false] at h; cases h
      | true =>
        simp only [hq, cond_true, Option.some.injEq] at h
        subst h
        simp only [Bool.and_eq_true, Bool.not_eq_true'] at hq
        have hle := Nat.le_of_ble_eq_true hq.2
        have hlen : vals.size = as.length := by simpa using hv.length
        refine ⟨⟨vals ++ Array.replicate (fn.ntmps - vals.size) undef, [], ?_, ⟨by simp; omega, fun i v hi => ?_, fun i v hi => ?_⟩, rfl⟩, rfl, rfl, rfl, fn, c, hf, hq.1, hb⟩
        · simp [Frame.enter, frameOf, hf, hb]
        · simp only [zipT_lk, Nat.zero_le, if_true, Nat.sub_zero, Option.map_eq_some_iff] at hi
          obtain ⟨a, ha, _⟩ := hi
          have := (List.getElem?_eq_some_iff.1 ha).1
          show i < fn.ntmps
          omega
        · simp only [zipT_lk, Nat.zero_le, if_true, Nat.sub_zero, Option.map_eq_some_iff] at hi
          obtain ⟨a, ha, rfl⟩ := hi
          obtain ⟨u, h1, h2⟩ := hv.get ha
          have hlt := (List.getElem?_eq_some_iff.1 ha).1
          have : (vals ++ Array.replicate (fn.ntmps - vals.size) undef).getD i undef = u := by
            rw [Array.getD_eq_getD_getElem?, Array.getElem?_append_left (by omega)]
            rw [← Array.getElem?_toList, h1]; rfl
          rw [this]
          exact h2
    · simp at h
  · simp at h
end
end Go.Ab

/- Frames that return. -/
set_option linter.unusedVariables false
set_option linter.unusedSimpArgs false
namespace Go.Ab
open Go

section
variable {P : Program} {w0 : World} {S0 S1 ok0 : Nat → Prop} {X X' : Cx} {H H' K : Heap} {w w' : World} {R : Type}

theorem load_run (I : Inv w0 S0 ok0 X H w) {ev : Operand → Option AV} {ρ : Operand → Value} (E : EvOk X H w ev ρ) {dst : Nat} {T : TypeId} {a : Operand} {cs : List Bool} {v : AV} {U : Heap} (h : opV P dst ev H (.load T a) = some (cs, v, U)) :
    ∃ B off val, ρ a = .pointer (some ⟨B, off, none⟩) ∧ (loadVar T ⟨B, off, none⟩).run P w = .ok val w ∧ AVRel X H w v val := by
  simp only [opV] at h
  split at h
  · rename_i c h1
    split at h
    · rename_i fs h2
      split at h
      · rename_i n h3
        split at h
        · rename_i gs h4
          split at h
          · rename_i u h5
            simp at h
            obtain ⟨_, rfl, rfl⟩ := h
            obtain ⟨B, off, ds, e, h6, h7⟩ := at_sound I h2 (E a _ h1)
            obtain ⟨a', b, c', rfl, h8, h9, h10⟩ := FRel.takeW (p := 0) (by simpa using h4) h6
            simp [wsum] at h8
            subst h8
            have h11 : At w B off b := (by simpa using h7 : At w B off (b ++ c')).head
            rcases avOf_sound h5 with ⟨h12, rfl⟩ | ⟨h12, x, rfl, rfl⟩
            · exact ⟨B, off, .agg b.toArray, e, run_loadVar_agg h12 (by rw [h9]; exact h3) h11, _, rfl, by simpa using h10⟩
            · obtain ⟨y, rfl, _, h13⟩ := h10.one_inv
              exact ⟨B, off, y, e, run_loadVar_one h12 h11, h13⟩
          · simp at h
        · simp at h
      · simp at h
    · simp at h
  · simp at h
def resOf (tmps : Array Value) : ResultVar → Sem Value
  | .tmp t => pure (tmps.getD t undef)
  | .cell a t => do loadVar t (← asAddr (tmps.getD a undef))
theorem results_list {s : St} {tmps : Array Value} (I : Inv w0 S0 ok0 X s.h w) (hT : TLk X s.h w s.fr.t tmps) : ∀ {l : List ResultVar} {vs : List AV}, resultsOf P s l = some vs →
    ∃ vals : List Value, (l.mapM (resOf tmps)).run P w = .ok vals w ∧ AVsRel X s.h w vs vals
  | [], vs, h => by simp [resultsOf] at h; subst h; exact ⟨[], by simp, rfl⟩
  | .tmp t :: r, vs, h => by
    simp only [resultsOf] at h
    split at h
    · rename_i l h1
      simp at h; subst h
      obtain ⟨vals, h2, h3⟩ := results_list I hT h1
      exact ⟨tmps.getD t undef :: vals, by simp [List.mapM_cons, resOf, h2], _, _, rfl, hT.av t, h3⟩
    · simp at h
  | .cell a T :: r, vs, h => by
    simp only [resultsOf] at h
    split at h
    · rename_i v U l h1 h2
      simp at h; subst h
      obtain ⟨vals, h3, h4⟩ := results_list I hT h2
      obtain ⟨B, off, val, h5, h6, h7⟩ := load_run (ρ := Act.eval ⟨tmps, []⟩) I (by simpa using hT.ev []) h1
      have h5 : tmps.getD a undef = .pointer (some ⟨B, off, none⟩) := h5
      exact ⟨val :: vals, by simp only [List.mapM_cons, resOf, h5, asAddr, Sem.run_bind, Sem.run_pure, Result.andThen_ok, h6, h3], _, _, rfl, h7, h4⟩
    · simp at h
theorem results_sound {s : St} {tmps : Array Value} (I : Inv w0 S0 ok0 X s.h w) (hT : TLk X s.h w s.fr.t tmps) {fn : Func} {vs : List AV} (h : resultsOf P s fn.results.toList = some vs) :
    ∃ val, (results fn tmps).run P w = .ok val w ∧ TVRel X s.h w (tvOf vs) val := by
  obtain ⟨vals, h1, h2⟩ := results_list I hT h
  have h3 : (fn.results.mapM (resOf tmps)).run P w = .ok vals.toArray w := by
    rw [Array.mapM_eq_mapM_toList]
    simp [h1]
  have h4 : results fn tmps = (fn.results.mapM (resOf tmps) >>= fun vs => pure (if h : vs.size = 1 then vs[0] else .tuple vs)) := by
    unfold results
    first
      | rfl
      | (congr 1; done)
      | (congr 1; congr 1; done)
      | (congr 1; congr 1; funext x; cases x <;> rfl)
  refine ⟨if h : vals.toArray.size = 1 then vals.toArray[0] else .tuple vals.toArray, by rw [h4, Sem.run_bind, h3]; rfl, ?_⟩
  have hlen := h2.length
  match vs, vals, h2, hlen with
  | [], [], h2, _ => exact ⟨#[], rfl, rfl⟩
  | [a], [u], ⟨v, us, e, h5, h6⟩, _ => simp at e; obtain ⟨rfl, rfl⟩ := e; exact h5
  | a :: b :: r, u :: v :: q, h2, _ => exact ⟨_, by simp; rfl, by simpa using h2⟩

/-! ### Returning -/
def bot : Fr → List Fr → FuncId
  | f, [] => f.fn
  | _, c :: up => bot c up
theorem step_ret_mode {fr : Fr} {tmps : Array Value} {dfs : List Deferred} {cs : List Frame} (h : fr.ret = true ∨ fr.todo = [] ∨ ∃ r, fr.todo = .code .ret :: r) :
    Steps P (lone (frameOf fr tmps dfs) cs w) (lone (frameOf { fr with ret := true } tmps dfs) cs w) := by
  by_cases hr : fr.ret = true
  · have : ({ fr with ret := true } : Fr) = fr := by cases fr; simp at hr; simp [hr]
    rw [this]; exact .refl ..
  · have hr : fr.ret = false := by simpa using hr
    rw [frameOf_at hr]
    have e : ∀ todo, fr.todo = todo → frameOf { fr with ret := true } tmps dfs = { (baseOf fr).at ⟨tmps, dfs⟩ todo with mode := .returning } := fun todo ht => by
      simp [frameOf, Frame.at, baseOf, ht]
    rcases h with h | h | ⟨r, h⟩
    · rw [hr] at h; cases h
    · rw [e _ h, h]; exact .one step_end
    · rw [e _ h, h]; exact .one step_ret
theorem step_unwind {fr : Fr} {tmps : Array Value} {caps args : Array Value} {f : FuncId} {ds : List Deferred} {cs : List Frame} (hr : fr.ret = true) {fn : Func} {c : Code} (hf : P.funcs[f]? = some fn) (hname : (fn.name == "runtime.NumGoroutine") = false) (hb : fn.body = some c) :
    step P (lone (frameOf fr tmps ({ target := .fn (.func f) caps, args := args } :: ds)) cs w) = .next (lone (Frame.enter P f (args ++ caps) .deferred) (frameOf fr tmps ds :: cs) w) := by
  have h1 : ¬ fn.name = "runtime.NumGoroutine" := by simpa using hname
  exact step_lone_go (by simp [frameOf, hr, stepG, unwind, callDeferred, invoke, callFunc, hf, h1, hb])
theorem step_back_deferred {fr c : Fr} {tmps tmps' : Array Value} {dfs : List Deferred} {cs : List Frame} (hr : fr.ret = true) (hd : fr.dfr = true) (hc : c.ret = true) {fn : Func} (hf : P.funcs[fr.fn]? = some fn) {v : Value} (hv : (results fn tmps).run P w = .ok v w) :
    step P (lone (frameOf fr tmps []) (frameOf c tmps' dfs :: cs) w) = .next (lone (frameOf c tmps' dfs) cs w) := by
  exact step_lone_go (by simp [frameOf, hr, hd, hc, stepG, unwind, doReturn, hf, hv])
theorem leaving_of {fr : Fr} {tmps : Array Value} (hr : fr.ret = true) (hd : fr.dfr = false) {fn : Func} (hf : P.funcs[fr.fn]? = some fn) {v : Value} (hv : (results fn tmps).run P w = .ok v w) : (frameOf fr tmps []).leaving P w (.returned v) :=
  ⟨by simp [frameOf, hr], rfl, by simp [frameOf, hd], fn, hf, hv⟩

/-- What a step of the interpreter's tells of the machine. -/
def Next1 (P : Program) (w0 : World) (S0 ok0 : Nat → Prop) (s : St) (X : Cx) (w : World) (cs : List Frame) (m : Machine) (k : St → Option R) (fin : List AV → Heap → Option R) (r : R) : Prop :=
  (∃ s' F' Fs' w' X', k s' = some r ∧ Steps P m (lone F' (Fs' ++ cs) w') ∧ Ext X s.h w X' s'.h w' ∧ Inv w0 S0 ok0 X' s'.h w' ∧ Loose X' s'.h w' s'.fr F' ∧ FsOk X' s'.h w' s'.up Fs' ∧ bot s'.fr s'.up = bot s.fr s.up) ∨
  (∃ vs H' w' X' fr val, fin vs H' = some r ∧ Steps P m (lone fr cs w') ∧ fr.fn = bot s.fr s.up ∧ fr.leaving P w' (.returned val) ∧ Ext X s.h w X' H' w' ∧ Inv w0 S0 ok0 X' H' w' ∧ TVRel X' H' w' (tvOf vs) val)
theorem retK_sound {s : St} {k : St → Option R} {fin : List AV → Heap → Option R} {r : R} {cs : List Frame} (h : retK P s k fin = some r) (I : Inv w0 S0 ok0 X s.h w) {F : Frame} {Fs : List Frame} (hF : FrOk X s.h w s.fr F) (hFs : FsOk X s.h w s.up Fs)
    (hm : s.fr.ret = true ∨ s.fr.todo = [] ∨ ∃ r, s.fr.todo = .code .ret :: r) : Next1 P w0 S0 ok0 s X w cs (lone F (Fs ++ cs) w) k fin r := by
  obtain ⟨tmps, dfs, rfl, hT, hD⟩ := hF
  unfold retK at h
  split at h
  · rename_i d ds hd
    rw [hd] at hD
    obtain ⟨caps, args, rest, rfl, h1, h2⟩ := hD
    split at h
    · rename_i fr' h3
      obtain ⟨h4, h5, h6, h7, fn, c, h8, h9, h10⟩ := enterF_sound (X := X) (H := s.h) (w := w) h3 (vals := args ++ caps) (by simpa using h1)
      refine .inl ⟨_, _, _, w, X, h, (step_ret_mode hm).trans (.one (step_unwind rfl h8 h9 h10)), Ext.refl .., I, h4.loose, ⟨frameOf { s.fr with ret := true } tmps rest, Fs, rfl, ⟨tmps, rest, rfl, hT, h2⟩, hFs⟩, by show bot { s.fr with d := ds, ret := true } s.up = _; cases s.up <;> rfl⟩
    · simp at h
  · rename_i hd
    rw [hd] at hD
    have hD : dfs = [] := hD
    subst hD
    split at h
    · rename_i fn hf
      split at h
      · rename_i vs h1
        obtain ⟨val, h2, h3⟩ := results_sound I hT.2.2 h1
        split at h
        · rename_i hu
          rw [hu] at hFs
          have hFs : Fs = [] := hFs
          subst hFs
          cases hdf : s.fr.dfr with
          | true => simp [hdf] at h
          | false =>
            simp only [hdf, cond_false] at h
            refine .inr ⟨vs, s.h, w, X, frameOf { s.fr with ret := true } tmps [], val, h, step_ret_mode hm, ?_, leaving_of (fr := { s.fr with ret := true }) rfl hdf hf h2, Ext.refl .., I, h3⟩
            rw [hu]; rfl
        · rename_i c up hu
          rw [hu] at hFs
          obtain ⟨G, Gs, rfl, hG, hGs⟩ := hFs
          cases hdf : s.fr.dfr with
          | true =>
            simp only [hdf, cond_true] at h
            cases hc : c.ret with
            | false => simp [hc] at h
            | true =>
              simp only [hc, cond_true] at h
              obtain ⟨tmps', dfs', rfl, hT', hD'⟩ := hG
              exact .inl ⟨_, _, _, w, X, h, (step_ret_mode hm).trans (.one (step_back_deferred (fr := { s.fr with ret := true }) rfl hdf hc hf h2)), Ext.refl .., I, FrOk.loose ⟨tmps', dfs', rfl, hT', hD'⟩, hGs, by rw [hu]; rfl⟩
          | false =>
            simp only [hdf, cond_false] at h
            cases hc : c.ret with
            | true => simp [hc] at h
            | false =>
              simp only [hc, cond_false] at h
              obtain ⟨fr', h4, h5, h6, h7, h8⟩ := finishK_sound h hG h3 hc
              refine .inl ⟨_, _, _, w, X, h4, (step_ret_mode hm).trans (.one (step_leave_returned (leaving_of (fr := { s.fr with ret := true }) rfl hdf hf h2))), Ext.refl .., I, h5.loose, hGs, ?_⟩
              rw [hu]
              cases up <;> simp [bot, h8]
      · simp at h
    · simp at h
end
end Go.Ab

/- One step of the interpreter's. -/
set_option linter.unusedVariables false
set_option linter.unusedSimpArgs false
namespace Go.Ab
open Go

section
variable {P : Program} {w0 : World} {S0 S1 ok0 : Nat → Prop} {X X' : Cx} {H H' K : Heap} {w w' : World} {R : Type} {t : List (Nat × TV)} {tmps : Array Value} {Γ : Cons}

theorem evArgs_sound {ev : Operand → Option AV} {ρ : Operand → Value} (E : EvOk X H w ev ρ) : ∀ {l : List Operand} {as : List AV}, evArgs ev l = some as → AVsRel X H w as (l.map ρ)
  | [], as, h => by simp [evArgs] at h; subst h; rfl
  | o :: r, as, h => by
    simp only [evArgs] at h
    split at h
    · rename_i v l h1 h2
      simp at h; subst h
      exact ⟨_, _, rfl, E o v h1, evArgs_sound E h2⟩
    · simp at h
theorem AVsRel.append : ∀ {a b : List AV} {u v : List Value}, AVsRel X H w a u → AVsRel X H w b v → AVsRel X H w (a ++ b) (u ++ v)
  | [], b, u, v, h, k => by rw [show u = [] from h]; exact k
  | x :: a, b, _, v, ⟨y, us, rfl, h1, h2⟩, k => ⟨y, us ++ v, rfl, h1, AVsRel.append h2 k⟩
theorem capsAV_sound : ∀ {l : List (Nat × Nat)} {vs : List Value}, vs.length = l.length → (∀ (j i r : Nat), l[j]? = some (i, r) → (r < H.ver i ∧ ∃ u, vs[j]? = some u ∧ u.oneCell' = true) ∧ ∀ fs, H.obj i r = some (.box fs) → ∃ B c, X.b i = some (B, c) ∧ vs[j]? = some (Value.pointer (some ⟨B, 0, none⟩))) →
    AVsRel X H w (capsAV l) vs
  | [], [], _, _ => rfl
  | [], _ :: _, h, _ => by simp at h
  | _ :: _, [], h, _ => by simp at h
  | (i, r) :: l, v :: vs, h, hh => by
    obtain ⟨⟨h1, u, h2, h3⟩, h4⟩ := hh 0 i r rfl
    simp at h2; subst h2
    refine ⟨v, vs, rfl, ⟨⟨h1, h3⟩, fun fs hf => ?_⟩, capsAV_sound (by simpa using h) fun j i' r' hj => by simpa using hh (j + 1) i' r' (by simpa using hj)⟩
    obtain ⟨B, c, h5, h6⟩ := h4 fs hf
    simp at h6
    exact ⟨B, c, h5, by simp [h6, wsum]⟩
theorem callee_sound (hT : TLk X H w t tmps) {c : Call} {f : FuncId} {as : List AV} (h : callee (evT t) c = some (f, as)) (dfs : List Deferred) (ty : TypeId) :
    ∃ caps args : Array Value, resolve (Act.eval ⟨tmps, dfs⟩) c ty = pure ({ target := .fn (.func f) caps, args := args } : Deferred) ∧ AVsRel X H w as (args.toList ++ caps.toList) := by
  have E : EvOk X H w (evT t) (Act.eval ⟨tmps, dfs⟩) := by simpa using hT.ev dfs
  unfold callee at h
  split at h
  · rename_i g hg
    split at h
    · rename_i f' l as' h1 h2
      simp at h
      obtain ⟨rfl, rfl⟩ := h
      obtain ⟨vs, h3, h4, h5⟩ := E g _ h1
      refine ⟨vs, c.args.map (Act.eval ⟨tmps, dfs⟩), ?_, ?_⟩
      · unfold resolve
        rw [hg]
        simp [h3, Deferred.ofValue]
      · have := evArgs_sound E h2
        rw [Array.toList_map]
        exact this.append (capsAV_sound (by simpa using h4) (by simpa using h5))
    · simp at h
  · simp at h
theorem evT_bool (hT : TLk X H w t tmps) {c : Operand} {b : Bool} (h : evT t c = some (.one (.bool b)) ∨ evT t c = some (.one (.kb b))) (dfs : List Deferred) : Act.eval ⟨tmps, dfs⟩ c = .bool b := by
  have E : EvOk X H w (evT t) (Act.eval ⟨tmps, dfs⟩) := by simpa using hT.ev dfs
  rcases h with h | h
  · exact E c _ h
  · exact E c _ h
theorem step_enter {b : Frame} {a : Act} {ops : Array Oper} {i : Nat} {rest : List Nat} {k : List Item} {cs : List Frame} {o : Oper} {f : FuncId} {args : Array Value} (ho : ops[i]? = some o) (hw : Region.wanted o (yielded ops a.tmps) = true)
    (hr : (execOp a.eval o).run P w = .ok (.enter f args) w') : step P (lone (b.at a (.inRegion ops (i :: rest) :: k)) cs w) = .next (lone (Frame.enter P f args .normal) (b.at a (.inRegion ops (i :: rest) :: k) :: cs) w') := by
  have hg := stepG_op (P := P) (b := b) (k := k) (cs := cs) (w := w) (rest := rest) ho hw
  exact step_lone_go (by rw [hg]; simp [stepG.apply, hr, Frame.at])
theorem step_defer {b : Frame} {a : Act} {ops : Array Oper} {i : Nat} {rest : List Nat} {k : List Item} {cs : List Frame} {o : Oper} {d : Deferred} (ho : ops[i]? = some o) (hw : Region.wanted o (yielded ops a.tmps) = true)
    (hr : (execOp a.eval o).run P w = .ok (.defer d) w') : step P (lone (b.at a (.inRegion ops (i :: rest) :: k)) cs w) = .next (lone ((b.at { a with defers := d :: a.defers } (.inRegion ops (i :: rest) :: k)).finish undef) cs w') := by
  have hg := stepG_op (P := P) (b := b) (k := k) (cs := cs) (w := w) (rest := rest) ho hw
  exact step_lone_go (by rw [hg]; simp [stepG.apply, hr, Frame.at])
theorem step_inScope {b : Frame} {a : Act} {k : List Item} {cs : List Frame} {c : Code} : step P (lone (b.at a (.inScope c :: k)) cs w) = .next (lone (b.at a k) cs w) :=
  step_lone_go (by simp [stepG, stepG.exec, Frame.at])
theorem step_scope {b : Frame} {a : Act} {k : List Item} {cs : List Frame} {c : Code} : step P (lone (b.at a (.code (.scope c) :: k)) cs w) = .next (lone (b.at a (.code c :: .inScope c :: k)) cs w) :=
  step_lone_go (by simp [stepG, stepG.exec, Frame.at])
theorem conds_some {cs : List Bool} {x : Option R} {r : R} (h : conds cs x = some r) : (∀ c ∈ cs, c = true) ∧ x = some r := by
  induction cs with
  | nil => exact ⟨by simp, h⟩
  | cons c l ih =>
    simp only [conds] at h
    cases c with
    | false => simp at h
    | true =>
      obtain ⟨h1, h2⟩ := ih (by simpa using h)
      exact ⟨by simpa using h1, h2⟩

/-- The machine goes on where the interpreter does. -/
theorem Next1.go {s : St} {cs : List Frame} {k : St → Option R} {fin : List AV → Heap → Option R} {r : R} (I : Inv w0 S0 ok0 X s.h w) {tmps : Array Value} {dfs : List Deferred} {Fs : List Frame} (hr : s.fr.ret = false)
    (hT : TRel X s.h w s.fr.n s.fr.t tmps) (hD : DRel X s.h w s.fr.d dfs) (hFs : FsOk X s.h w s.up Fs) {todo : List Item} (h : k { s with fr := { s.fr with todo := todo } } = some r)
    (hs : step P (lone ((baseOf s.fr).at ⟨tmps, dfs⟩ s.fr.todo) (Fs ++ cs) w) = .next (lone ((baseOf s.fr).at ⟨tmps, dfs⟩ todo) (Fs ++ cs) w)) :
    Next1 P w0 S0 ok0 s X w cs (lone (frameOf s.fr tmps dfs) (Fs ++ cs) w) k fin r := by
  refine .inl ⟨_, (baseOf s.fr).at ⟨tmps, dfs⟩ todo, Fs, w, X, h, ?_, Ext.refl .., I, FrOk.loose ⟨tmps, dfs, ?_, hT, hD⟩, hFs, ?_⟩
  · rw [frameOf_at hr]; exact .one hs
  · simp [frameOf, Frame.at, baseOf, hr]
  · cases hu : s.up <;> rfl
end
end Go.Ab

/- One step of the interpreter's: all cases. -/
set_option linter.unusedVariables false
set_option linter.unusedSimpArgs false
namespace Go.Ab
open Go

section
variable {P : Program} {w0 : World} {S0 S1 ok0 : Nat → Prop} {X X' : Cx} {H H' K : Heap} {w w' : World} {R : Type} {t : List (Nat × TV)} {tmps : Array Value} {Γ : Cons}

theorem decode_max (s : ByteArray) (pos : Nat) : (Utf8.decode s pos).1 ≤ 1114111 := by
  unfold Utf8.decode
  simp only
  repeat' split
  all_goals simp_all [Utf8.runeError, Utf8.valid]
  all_goals omega
theorem strBytes_back (b : ByteArray) : (⟨((strBytes b).map fun x => UInt8.ofNat x.toNat).toArray⟩ : ByteArray) = b := by
  cases b with
  | mk d =>
    congr 1
    apply Array.ext'
    simp [strBytes, List.map_map, Function.comp_def]
theorem guard_true {fr : Fr} {ops : Array Oper} {o : Oper} (hT : TRel X H w fr.n fr.t tmps) (h1 : guardOf ops fr.t o ≠ .lost) (h2 : guardOf ops fr.t o ≠ .kn false) : Region.wanted o (yielded ops tmps) = true := by
  cases hq : guardOf ops fr.t o with
  | yes => exact guard_yes hq
  | lost => exact absurd hq h1
  | kn b => cases b with
    | true => exact guard_wanted hT.2.2 (Wk.refl _) hT.1 hT.2.1 hq
    | false => exact absurd hq h2
theorem callK_sound {G : List (Nat × Go.Obj)} (hG : Tabs G w0 S0) (hΓ : ∀ f c, Γ f = some c → ConOk G P f c) {s : St} {dst : Nat} {f : FuncId} {as : List AV} {k : St → Option R} {fin : List AV → Heap → Option R} {r : R} {cs : List Frame} (h : callK Γ P s dst f as k = some r) (I : Inv w0 S0 ok0 X s.h w)
    {dfs : List Deferred} {Fs : List Frame} (hr : s.fr.ret = false) (hT : TRel X s.h w s.fr.n s.fr.t tmps) (hD : DRel X s.h w s.fr.d dfs) (hFs : FsOk X s.h w s.up Fs) {ops : Array Oper} {i : Nat} {is : List Nat} {rest : List Item} (htodo : s.fr.todo = .inRegion ops (i :: is) :: rest)
    {o : Oper} (ho : ops[i]? = some o) (hw : Region.wanted o (yielded ops tmps) = true) {vals : Array Value} (hv : AVsRel X s.h w as vals.toList) (hx : ∀ fn c, P.funcs[f]? = some fn → (fn.name == "runtime.NumGoroutine") = false → fn.body = some c → (execOp (Act.eval ⟨tmps, dfs⟩) o).run P w = .ok (.enter f vals) w) :
    Next1 P w0 S0 ok0 s X w cs (lone (frameOf s.fr tmps dfs) (Fs ++ cs) w) k fin r := by
  have henter : ∀ fn c, P.funcs[f]? = some fn → (fn.name == "runtime.NumGoroutine") = false → fn.body = some c →
      step P (lone (frameOf s.fr tmps dfs) (Fs ++ cs) w) = .next (lone (Frame.enter P f vals .normal) (frameOf s.fr tmps dfs :: (Fs ++ cs)) w) := fun fn c h1 h2 h3 => by
    rw [frameOf_at hr, htodo]
    exact step_enter ho hw (hx fn c h1 h2 h3)
  unfold callK at h
  split at h
  · rename_i c hc
    obtain ⟨vs, U, idl, h1, h2⟩ := conK_callT h
    have hC := hΓ f c hc
    obtain ⟨fn, code, h3, h4, h5⟩ := hC.fn
    obtain ⟨w', X', fr, val, h6, h7, h8, E, I', h9⟩ := callT_sound hG hC h1 I hv (frameOf s.fr tmps dfs :: (Fs ++ cs))
    obtain ⟨fr', h10, h11, h12, h13, h14⟩ := finishK_sound h2 (FrOk.ext E ⟨tmps, dfs, rfl, hT, hD⟩) h9 hr
    refine .inl ⟨_, _, Fs, w', X', h10, (Steps.head (henter fn code h3 h4 h5) h6).trans (.one (step_leave_returned h8)), E, I', h11.loose, hFs.ext E, ?_⟩
    cases hu : s.up with
    | nil => exact h14
    | cons c up => rfl
  · split at h
    · rename_i fr' h1
      obtain ⟨h4, h5, h6, h7, fn, c, h8, h9, h10⟩ := enterF_sound (X := X) (H := s.h) (w := w) h1 hv
      exact .inl ⟨_, _, frameOf s.fr tmps dfs :: Fs, w, X, h, .one (henter fn c h8 h9 h10), Ext.refl .., I, h4.loose, ⟨_, _, rfl, ⟨tmps, dfs, rfl, hT, hD⟩, hFs⟩, rfl⟩
    · simp at h
theorem callOp_sound {G : List (Nat × Go.Obj)} (hG : Tabs G w0 S0) (hΓ : ∀ f c, Γ f = some c → ConOk G P f c) {s : St} {k : St → Option R} {fin : List AV → Heap → Option R} {r : R} {cs : List Frame} {o : Oper} (h : callOp Γ P s o k = some r) (I : Inv w0 S0 ok0 X s.h w)
    {dfs : List Deferred} {Fs : List Frame} (hr : s.fr.ret = false) (hT : TRel X s.h w s.fr.n s.fr.t tmps) (hD : DRel X s.h w s.fr.d dfs) (hFs : FsOk X s.h w s.up Fs) {ops : Array Oper} {i : Nat} {is : List Nat} {rest : List Item} (htodo : s.fr.todo = .inRegion ops (i :: is) :: rest)
    (ho : ops[i]? = some o) (hw : Region.wanted o (yielded ops tmps) = true) : Next1 P w0 S0 ok0 s X w cs (lone (frameOf s.fr tmps dfs) (Fs ++ cs) w) k fin r := by
  unfold callOp at h
  split at h
  · rename_i c hop
    split at h
    · rename_i f as hc
      obtain ⟨caps, args, h1, h2⟩ := callee_sound hT.2.2 hc dfs o.type
      refine callK_sound hG hΓ h I hr hT hD hFs htodo ho hw (vals := args ++ caps) (by simpa using h2) fun fn code h3 h4 h5 => ?_
      have := run_enter (w := w) h3 h4 h5 (args ++ caps)
      simp [execOp, hop, h1, invoke, this]
    · simp at h
  · rename_i c hop
    split at h
    · rename_i f as hc
      obtain ⟨caps, args, h1, h2⟩ := callee_sound hT.2.2 hc dfs o.type
      have hx : (execOp (Act.eval ⟨tmps, dfs⟩) o).run P w = .ok (.defer { target := .fn (.func f) caps, args := args }) w := by simp [execOp, hop, h1]
      have hs := step_defer (P := P) (b := baseOf s.fr) (a := ⟨tmps, dfs⟩) (rest := is) (k := rest) (cs := Fs ++ cs) ho hw hx
      obtain ⟨fr', h3, h4, h5, h6, h7⟩ := finishK_sound (X := X) (H := s.h) (w := w) h ⟨tmps, dfs, rfl, hT, hD⟩ (val := undef) (by trivial) hr
      obtain ⟨tmps', dfs', h8, h9, h10⟩ := h4
      have hfin : (frameOf s.fr tmps dfs).finish undef = (baseOf s.fr).at (Act.put ⟨tmps, dfs⟩ o.dst undef) (.inRegion ops is :: rest) := by
        rw [frameOf_at hr, htodo, Frame.finish_at, ho]; rfl
      have hfin2 : ((baseOf s.fr).at ⟨tmps, { target := .fn (.func f) caps, args := args } :: dfs⟩ (.inRegion ops (i :: is) :: rest)).finish undef = (baseOf s.fr).at (Act.put ⟨tmps, { target := .fn (.func f) caps, args := args } :: dfs⟩ o.dst undef) (.inRegion ops is :: rest) := by
        rw [Frame.finish_at, ho]; rfl
      rw [hfin] at h8
      have hdf : dfs' = dfs := by
        have := congrArg Frame.defers h8
        cases hd : o.dst <;> simp [frameOf, Frame.at, Act.put, hd] at this <;> exact this.symm
      subst hdf
      refine .inl ⟨_, _, Fs, w, X, h3, .one (by rw [frameOf_at hr, htodo]; exact hs), Ext.refl .., I, FrOk.loose ⟨tmps', { target := .fn (.func f) caps, args := args } :: dfs', ?_, h9, ⟨caps, args, dfs', rfl, h2, h10⟩⟩, hFs, ?_⟩
      · rw [hfin2]
        cases hd : o.dst <;> simp [frameOf, Frame.at, Act.put, hd] at h8 ⊢ <;> exact h8
      · cases hu : s.up with
        | nil => exact h7
        | cons c up => rfl
    · simp at h
  · rename_i it hop
    split at h
    · rename_i j v hit
      have E : EvOk X s.h w (evT s.fr.t) (Act.eval ⟨tmps, dfs⟩) := by simpa using hT.2.2.ev dfs
      have hv := E it _ hit
      split at h
      · rename_i str p ho'
        obtain ⟨B, c, hB, he⟩ := hv.2 str p ho'
        obtain ⟨B', c', b, h1, h2, rfl, h3⟩ := I.objs j v _ (obj_lk ho')
        rw [hB] at h1; simp at h1; obtain ⟨rfl, rfl⟩ := h1
        have hl := strBytes_length b
        have fine : ∀ {w1 : World} {X1 : Cx} {H1 : Heap} {u : TV} {val : Value} {s1 : Fr → St}, (∀ fr, (s1 fr).fr = fr ∧ (s1 fr).up = s.up ∧ (s1 fr).h = H1) → (execOp (Act.eval ⟨tmps, dfs⟩) o).run P w = .ok (.value val) w1 → Ext X s.h w X1 H1 w1 → Inv w0 S0 ok0 X1 H1 w1 → TVRel X1 H1 w1 u val →
            finishK s.fr u (fun fr => k (s1 fr)) = some r → Next1 P w0 S0 ok0 s X w cs (lone (frameOf s.fr tmps dfs) (Fs ++ cs) w) k fin r := fun {w1 X1 H1 u val s1} hs1 hx E1 I1 hu hf => by
          obtain ⟨fr', h4, h5, h6, h7, h8⟩ := finishK_sound hf (FrOk.ext E1 ⟨tmps, dfs, rfl, hT, hD⟩) hu hr
          obtain ⟨e1, e2, e3⟩ := hs1 fr'
          refine .inl ⟨s1 fr', _, Fs, w1, X1, h4, ?_, by rw [e3]; exact E1, by rw [e3]; exact I1, by rw [e1, e3]; exact h5.loose, by rw [e2, e3]; exact hFs.ext E1, ?_⟩
          · have hfin : (frameOf s.fr tmps dfs).finish val = (baseOf s.fr).at (Act.put ⟨tmps, dfs⟩ o.dst val) (.inRegion ops is :: rest) := by
              rw [frameOf_at hr, htodo, Frame.finish_at, ho]; rfl
            rw [hfin, frameOf_at hr, htodo]
            exact step_op ho hw (.inl hx)
          · rw [e1, e2]
            cases hu : s.up with
            | nil => exact h8
            | cons c up => rfl
        by_cases hlt : p < (strBytes b).length
        · simp only [hlt, decide_true, cond_true] at h
          have hlt' : p < b.size := by omega
          have hdec := strBytes_back b
          have hrune : runeAt (strBytes b) p = (((Utf8.decode b p).1 : Int), (Utf8.decode b p).2) := by
            unfold runeAt
            rw [hdec]
          have hBl : B < w.heap.size := (Array.getElem?_eq_some_iff.1 h2).1
          obtain ⟨E1, I1⟩ := I.turn (o' := .it (strBytes b) (p + (runeAt (strBytes b) p).2)) (w' := { w with heap := w.heap.setIfInBounds B (.stringIter b (p + (Utf8.decode b p).2)) }) ho' (by simp) trivial hB
            (fun b' hb' => by simp [Array.getElem?_setIfInBounds, Ne.symm hb']) (by simp) rfl rfl rfl fun E => ⟨B, c, b, hB, by simp [hrune, hBl], rfl, h3⟩
          have hmax := decode_max b p
          refine fine (s1 := fun fr => { s with fr, h := (j, v, .it (strBytes b) (p + (runeAt (strBytes b) p).2)) :: s.h }) (fun fr => ⟨rfl, rfl, rfl⟩) (val := .tuple #[.bool true, goInt p, .int .i32 (Utf8.decode b p).1]) ?_ E1 I1 ?_ h
          · simp [execOp, hop, he, Instr.next, getObj, setObj, Sem.run, h2, hlt']
          · refine ⟨_, rfl, _, _, rfl, rfl, _, _, rfl, ⟨rfl, ?_⟩, _, _, rfl, ⟨?_, ?_⟩, rfl⟩
            · have : maxStr = 70368744177664 := rfl
              simp [inR, IntKind.min, IntKind.max, IntKind.signed, IntKind.bits]; omega
            · rw [hrune]
            · rw [hrune]; simp [inR, IntKind.min, IntKind.max, IntKind.signed, IntKind.bits]; omega
        · simp only [hlt, decide_false, cond_false] at h
          have hlt' : ¬ p < b.size := by omega
          refine fine (s1 := fun fr => { s with fr }) (fun fr => ⟨rfl, rfl, rfl⟩) (val := .tuple #[.bool false]) ?_ (Ext.refl ..) I ?_ h
          · simp [execOp, hop, he, Instr.next, getObj, Sem.run, h2, hlt']
          · exact ⟨_, rfl, _, _, rfl, rfl, rfl⟩
      · simp at h
    · simp at h
  · simp at h
end
end Go.Ab

/- A call by its contract asks for nothing but what it tells that it asks for. -/
set_option linter.unusedVariables false
set_option linter.unusedSimpArgs false
namespace Go.Ab
open Go

section
variable {P : Program} {H K : Heap} {ids : List Nat}

theorem obj_same {i : Nat} (h : lk H i = lk K i) (r : Nat) : H.obj i r = K.obj i r := by unfold Heap.obj; rw [h]
theorem readS_congr {c : C} (h : ∀ i ∈ c.ids, lk H i = lk K i) : H.readS c = K.readS c := by
  cases c with
  | ow i v => simp only [Heap.readS, Heap.data]; rw [obj_same (h i (by simp [C.ids])) v]
  | os i v lo n => simp only [Heap.readS, Heap.data]; rw [obj_same (h i (by simp [C.ids])) v]
  | _ => rfl
theorem plain_congr {c : C} (h : ∀ i ∈ c.ids, lk H i = lk K i) : H.plain c = K.plain c := by
  cases c with
  | ow i v => simp only [Heap.plain]; rw [obj_same (h i (by simp [C.ids])) v]
  | os i v lo n => simp only [Heap.plain]; rw [obj_same (h i (by simp [C.ids])) v]
  | _ => rfl
theorem coerceS_congr : ∀ {l : List ShA} {as : List AV}, (∀ i ∈ as.flatMap AV.ids, lk H i = lk K i) → coerceS H l as = coerceS K l as := by
  intro l
  induction l with
  | nil => intro as h; simp [coerceS]
  | cons s r ih =>
    intro as h
    cases as with
    | nil => cases s with
      | one s => cases s <;> simp [coerceS]
      | agg l => simp [coerceS]
    | cons a as =>
      have h1 : ∀ i ∈ as.flatMap AV.ids, lk H i = lk K i := fun i hi => h i (by simp only [List.flatMap_cons, List.mem_append]; exact .inr hi)
      have h0 : ∀ i ∈ a.ids, lk H i = lk K i := fun i hi => h i (by simp only [List.flatMap_cons, List.mem_append]; exact .inl hi)
      unfold coerceS
      split
      · rename_i t r' c as1 e1 e2
        simp at e1 e2
        obtain ⟨rfl, rfl⟩ := e1
        obtain ⟨rfl, rfl⟩ := e2
        rw [ih h1, readS_congr fun i hi => h0 i (by simpa [AV.ids, AV.flds, Fld.ids] using hi)]
      · rename_i s' r' a' as1 _ e1 e2
        simp at e1 e2
        obtain ⟨rfl, rfl⟩ := e1
        obtain ⟨rfl, rfl⟩ := e2
        rw [ih h1]
      · rfl
theorem coerce_congr : ∀ {l : List ShA} {as : List AV} {H K : Heap}, (∀ i ∈ as.flatMap AV.ids, lk H i = lk K i) → coerce H l as = coerce K l as := by
  intro l
  induction l with
  | nil => intro as H K h; simp [coerce]
  | cons s r ih =>
    intro as H K h
    cases as with
    | nil => cases s with
      | one s => cases s <;> simp [coerce]
      | agg l => simp [coerce]
    | cons a as =>
      have h1 : ∀ i ∈ as.flatMap AV.ids, lk H i = lk K i := fun i hi => h i (by simp only [List.flatMap_cons, List.mem_append]; exact .inr hi)
      have h0 : ∀ i ∈ a.ids, lk H i = lk K i := fun i hi => h i (by simp only [List.flatMap_cons, List.mem_append]; exact .inl hi)
      unfold coerce
      split
      · rename_i t r' c as1 e1 e2
        simp at e1 e2
        obtain ⟨rfl, rfl⟩ := e1
        obtain ⟨rfl, rfl⟩ := e2
        rw [plain_congr (H := H) (K := K) fun i hi => h0 i (by simpa [AV.ids, AV.flds, Fld.ids] using hi)]
        split
        · rename_i c' U _
          rw [ih (H := U ++ H) (K := U ++ K) fun i hi => by rw [lk_app, lk_app, h1 i hi]]
        · rfl
      · rename_i s' r' a' as1 _ e1 e2
        simp at e1 e2
        obtain ⟨rfl, rfl⟩ := e1
        obtain ⟨rfl, rfl⟩ := e2
        rw [ih h1]
      · rfl
theorem reach_sup : ∀ {k : Nat} {l seen : List Nat} {i : Nat}, i ∈ seen → i ∈ reach H k l seen
  | 0, l, seen, i, h => by simpa [reach] using h
  | k + 1, [], seen, i, h => by simpa [reach] using h
  | k + 1, j :: r, seen, i, h => by
    simp only [reach]
    cases hj : inL j seen with
    | true => simpa using reach_sup h
    | false =>
      simp only [cond_false]
      split
      · exact reach_sup (by simp [h])
      · exact reach_sup (by simp [h])
theorem reach_congr : ∀ {k : Nat} {l seen : List Nat}, (∀ i ∈ reach H k l seen, lk K i = lk H i) → reach K k l seen = reach H k l seen
  | 0, l, seen, h => rfl
  | k + 1, [], seen, h => rfl
  | k + 1, j :: r, seen, h => by
    simp only [reach] at h ⊢
    cases hj : inL j seen with
    | true =>
      simp only [hj, cond_true] at h ⊢
      exact reach_congr h
    | false =>
      simp only [hj, cond_false] at h ⊢
      have hjm : lk K j = lk H j := by
        apply h j
        split
        · exact reach_sup (by simp)
        · exact reach_sup (by simp)
      rw [hjm]
      split
      · rename_i hl
        rw [hl] at h
        exact reach_congr h
      · rename_i hl
        rw [hl] at h
        exact reach_congr h
theorem idxOf_none {i : Nat} : ∀ {l : List Nat} {n : Nat}, i ∉ l → idxOf i l n = none
  | [], _, _ => rfl
  | k :: r, n, h => by
    have e : ¬ i = k := fun e => h (by simp [e])
    simp only [idxOf, nbeq e, cond_false]
    exact idxOf_none fun hh => h (by simp [hh])
theorem intoF_congr (h : ∀ i ∈ ids, lk K i = lk H i) : intoF K ids = intoF H ids := by
  funext i v
  unfold intoF
  by_cases hi : i ∈ ids
  · rw [h i hi]
  · rw [idxOf_none hi]
    cases lk K i <;> cases lk H i <;> rfl
theorem normH_congr {f : Nat → Nat → Option (Nat × Nat)} : ∀ {l : List Nat}, (∀ i ∈ l, lk K i = lk H i) → normH K f l = normH H f l
  | [], _ => rfl
  | i :: r, h => by
    simp only [normH]
    rw [h i (by simp), normH_congr fun j hj => h j (by simp [hj])]
theorem kill_congr : ∀ {l : List Nat}, (∀ i ∈ l, lk K i = lk H i) → kill K l = kill H l
  | [], _ => rfl
  | i :: r, h => by
    simp only [kill]
    rw [h i (by simp), kill_congr fun j hj => h j (by simp [hj])]
theorem backF_congr {H' : Heap} {new : Nat} (h : ∀ i ∈ ids, lk K i = lk H i) (hn : ∀ i ∈ H'.map (fun e => new + e.1), lk K i = lk H i) : backF K H' ids new = backF H H' ids new := by
  funext i v
  unfold backF
  split
  · rename_i v' o hl
    have hi : lk K (new + i) = lk H (new + i) := hn _ (List.mem_map.2 ⟨_, lk_mem hl, rfl⟩)
    have hver : K.ver (new + i) = H.ver (new + i) := by unfold Heap.ver; rw [hi]
    rw [hver]
    congr 1
    congr 1
    split
    · rename_i j hj
      rw [h j ((by obtain ⟨_, _, hm⟩ := parAt_spec hj; exact List.mem_of_getElem? hm))]
    · rfl
  · rfl
theorem callT_congr {c : Con} {new : Nat} {args vs : List AV} {U : Heap} {idl : List Nat} (h : CallT c H new args vs U idl) (hk : ∀ i ∈ idl, lk K i = lk H i) : CallT c K new args vs U idl := by
  cases h with
  | still p q x h1 h2 h3 h4 =>
    refine .still p q x h1 ?_ h3 h4
    unfold conInS at h2 ⊢
    rw [coerceS_congr fun i hi => hk i hi]
    exact h2
  | full args' U0 p q x h1 h2 h3 h4 =>
    have hc : coerce K c.args args = coerce H c.args args := coerce_congr fun i hi => hk i (List.mem_append.2 (.inl hi))
    have hids : ∀ i ∈ callIds (U0 ++ H) args', lk (U0 ++ K) i = lk (U0 ++ H) i := fun i hi => by
      rw [lk_app, lk_app, hk i (List.mem_append.2 (.inr (List.mem_append.2 (.inl hi))))]
    have hr : callIds (U0 ++ K) args' = callIds (U0 ++ H) args' := reach_congr hids
    have hnew : ∀ i ∈ (c.ren p q x).2.map (fun e => new + e.1), lk (U0 ++ K) i = lk (U0 ++ H) i := fun i hi => by
      rw [lk_app, lk_app, hk i (List.mem_append.2 (.inr (List.mem_append.2 (.inr hi))))]
    have hb : backRes (U0 ++ K) (callIds (U0 ++ H) args') new (c.ren p q x) = backRes (U0 ++ H) (callIds (U0 ++ H) args') new (c.ren p q x) := by
      unfold backRes
      rw [backF_congr hids hnew, kill_congr hids]
    have hin : conIn c (U0 ++ K) (callIds (U0 ++ H) args') args' = some (p, q) := by
      unfold conIn into at h3 ⊢
      rw [intoF_congr hids, normH_congr hids]
      exact h3
    have := CallT.full (c := c) (H := K) (new := new) (args := args) args' U0 p q x h1 (by rw [hc]; exact h2) (by rw [hr]; exact hin) h4
    rw [hr, hb] at this
    exact this
end
end Go.Ab

/- Regions in any order with calls; one step of the interpreter's, all cases. -/
set_option linter.unusedVariables false
set_option linter.unusedSimpArgs false
namespace Go.Ab
open Go

section
variable {P : Program} {w0 : World} {S0 S1 ok0 : Nat → Prop} {X X' : Cx} {H H' K : Heap} {w w' : World} {R : Type} {t s t1 : List (Nat × TV)} {tmps : Array Value} {Γ : Cons} {ops : Array Oper} {o : Oper} {i n base : Nat}

theorem look_tlk {ds : List Nat} (hA : ∀ d ∈ ds, lk t1 d = lk s d) (hk : Wk s t) (hT : TLk X H w t1 tmps) : TLk X H w (lookT t ds) tmps := fun d u hd => by
  have hdl : d ∈ ds := by
    have : ∀ {ds : List Nat}, lk (lookT t ds) d = some u → d ∈ ds := by
      intro ds
      induction ds with
      | nil => intro h; simp [lookT, lk] at h
      | cons e r ih =>
        intro h
        simp only [lookT] at h
        split at h
        · rw [lk_cons] at h
          by_cases e' : e = d
          · simp [e']
          · simp [e'] at h; simp [ih h]
        · simp [ih h]
    exact this hd
  obtain ⟨x, h3, h4⟩ := hk d u (lookT_lk hd)
  exact h4 _ _ _ _ (hT d x (by rw [hA d hdl]; exact h3))
theorem agree_wanted (hA : ∀ d ∈ looksOf ops o, lk t1 d = lk s d) (hk : Wk s t) (hT : TRel X H w n t1 tmps) (hg : guardOf ops t o = .yes ∨ guardOf ops t o = .kn true) : Region.wanted o (yielded ops tmps) = true := by
  rcases hg with hg | hg
  · exact guard_yes hg
  · exact guard_gen hg fun d hd u hu => by
      obtain ⟨x, h3, h4⟩ := hk d u hu
      have h10 : lk t1 d = some x := by rw [hA d (guard_in_looks hd)]; exact h3
      exact ⟨by rw [hT.1]; exact hT.2.1 d x h10, X, H, w, h4 _ _ _ _ (hT.2.2 d x h10)⟩
theorem good_call {G : List (Nat × Go.Obj)} (hG : Tabs G w0 S0) {con : Con} {f : FuncId} (hC : ConOk G P f con) {c : Call} {as vs : List AV} {U : Heap} {idl : List Nat} {new : Nat} (ho : ops[i]? = some o) (hop : o.op = .call c) (hg : guardOf ops t o = .yes ∨ guardOf ops t o = .kn true) (hk : Wk s t)
    (hc : callee (evT (lookT t (looksOf ops o))) c = some (f, as)) (hT : CallT con H new as vs U idl) (hU : ∀ x ∈ U, x.1 ∈ idl) {v' : TV} (hv : ∀ X H w val, TVRel X H w (tvOf vs) val → TVRel X H w v' val) :
    Good P ops n w0 S0 ok0 ⟨i, o, looksOf ops o, idl, s, H, v', U⟩ := by
  refine ⟨ho, hU, fun X H' w t1 tmps hA hTr I b dfs rest k cs' => ?_⟩
  have hTl : TLk X H' w (lookT t (looksOf ops o)) tmps := look_tlk hA.1 hk hTr.2.2
  obtain ⟨caps, args, h1, h2⟩ := callee_sound hTl hc dfs o.type
  have hw := agree_wanted hA.1 hk hTr hg
  obtain ⟨fn, code, h3, h4, h5⟩ := hC.fn
  have h6 := run_enter (w := w) h3 h4 h5 (args ++ caps)
  have hx : (execOp (Act.eval ⟨tmps, dfs⟩) o).run P w = .ok (.enter f (args ++ caps)) w := by simp [execOp, hop, h1, invoke, h6]
  obtain ⟨w', X', fr, val, h7, h8, h9, E, I', h10⟩ := callT_sound hG hC (callT_congr hT hA.2) I (vals := args ++ caps) (by simpa using h2) (b.at ⟨tmps, dfs⟩ (.inRegion ops (i :: rest) :: k) :: cs')
  refine ⟨val, w', X', (Steps.head (step_enter ho hw hx) h7).trans (.one ?_), E, I', hv _ _ _ _ h10⟩
  have := step_leave_returned (c := b.at ⟨tmps, dfs⟩ (.inRegion ops (i :: rest) :: k)) (cs := cs') h9
  rw [Frame.finish_at, ho] at this
  exact this
theorem chain_append : ∀ {a b : List El} {s s1 s2 : List (Nat × TV)} {H H1 H2 : Heap}, Chain n a s H s1 H1 → Chain n b s1 H1 s2 H2 → Chain n (a ++ b) s H s2 H2
  | [], b, s, s1, s2, H, H1, H2, ⟨h1, h2⟩, h => chain_congr (fun d => (h1 d).symm) (fun i => (h2 i).symm) h
  | e :: a, b, s, s1, s2, H, H1, H2, ⟨hA, h1⟩, h => ⟨hA, chain_append h1 h⟩
theorem drawK_sound {G : List (Nat × Go.Obj)} (hΓ : ∀ f c, Γ f = some c → ConOk G P f c) {k : List (Nat × TV) → Heap → Option R} {r : R} : ∀ (m : Nat) {l : List Nat} {t s : List (Nat × TV)} {H : Heap} {fs : List FP}, drawK Γ P ops base n k m l t H fs = some r → Wk s t →
    ∃ es s' t' H' fs', k t' H' = some r ∧ es.map El.i = l ∧ (∀ e ∈ es, (∀ w0 S0 ok0, Tabs G w0 S0 → Good P ops n w0 S0 ok0 e) ∧ FPin e fs') ∧ (∀ f ∈ fs, f ∈ fs') ∧ okDraw ops fs' = true ∧ Chain n es s H s' H' ∧ Wk s' t'
  | 0, l, t, s, H, fs, h, hk => by simp [drawK] at h
  | m + 1, [], t, s, H, fs, h, hk => by
    simp only [drawK, drawStep] at h
    cases hd : okDraw ops fs with
    | false => simp [hd] at h
    | true =>
      simp only [hd, cond_true] at h
      exact ⟨[], s, t, H, fs, h, rfl, by simp, fun _ h => h, hd, ⟨fun _ => rfl, fun _ => rfl⟩, hk⟩
  | m + 1, i :: l, t, s, H, fs, h, hk => by
    simp only [drawK, drawStep] at h
    split at h
    · simp at h
    · rename_i o ho
      cases hcall : isCall o.op with
      | false =>
        simp only [hcall, cond_false] at h
        split at h
        · rename_i cs t2 H2 f2 h1
          obtain ⟨hc, h2⟩ := conds_some h
          obtain ⟨t3, h2, hw⟩ := contG_some h2
          obtain ⟨es1, s1, h3, h4, h5, h6⟩ := seg_chain h1 hc hk
          obtain ⟨es2, s', t', H', fs', h7, h8, h9, h10, h11, h12, h13⟩ := drawK_sound hΓ m h2 (h6.trans hw)
          refine ⟨es1 ++ es2, s', t', H', fs', h7, by rw [List.map_append, h3, h8, cutSeg_append], fun e he => ?_, fun f hf => h10 f (List.mem_append.2 (.inr hf)), h11, chain_append h5 h12, h13⟩
          rcases List.mem_append.1 he with he | he
          · exact ⟨fun w0 S0 ok0 _ => (h4 e he).1 w0 S0 ok0, (h4 e he).2.mono fun f hf => h10 f (List.mem_append.2 (.inl hf))⟩
          · exact h9 e he
        · simp at h
      | true =>
        simp only [hcall, cond_true] at h
        split at h
        · simp at h
        · rename_i hg
          obtain ⟨es, s', t', H', fs', h7, h8, h9, h10, h11, h12, h13⟩ := drawK_sound hΓ m h (hk.put o.dst (.tup []))
          refine ⟨⟨i, o, looksOf ops o, [], s, H, .tup [], []⟩ :: es, s', t', H', fs', h7, by simp [h8], fun e he => ?_, fun f hf => h10 f (List.mem_cons_of_mem _ hf), h11, ⟨⟨fun _ _ => rfl, by simp⟩, h12⟩, h13⟩
          rcases List.mem_cons.1 he with rfl | he
          · exact ⟨fun w0 S0 ok0 _ => good_skip ho hg hk, ⟨_, h10 _ (List.mem_cons_self ..), rfl, rfl, rfl, rfl⟩⟩
          · exact h9 e he
        · rename_i hg1 hg2
          have hg : guardOf ops t o = .yes ∨ guardOf ops t o = .kn true := by
            cases hq : guardOf ops t o with
            | yes => exact .inl rfl
            | lost => exact absurd hq hg1
            | kn b => cases b with
              | true => exact .inr rfl
              | false => exact absurd hq hg2
          split at h
          · rename_i c hop
            split at h
            · rename_i f as hc
              split at h
              · rename_i con hcon
                obtain ⟨vs, U, idl, h1, h2⟩ := conK_callT h
                cases hU : U.all (fun e => inL e.1 idl) with
                | false => simp [hU] at h2
                | true =>
                  simp only [hU, cond_true] at h2
                  have hU' : ∀ x ∈ U, x.1 ∈ idl := fun x hx => inL_iff.1 (List.all_eq_true.1 hU x hx)
                  -- what is told of the call, and the rest
                  have rest : ∀ {v' : TV} {tt : List (Nat × TV)}, (∀ X H w val, TVRel X H w (tvOf vs) val → TVRel X H w v' val) → putT n t o.dst v' = tt → drawK Γ P ops base n k m l tt (U ++ H) (⟨i, looksOf ops o, idl, U.map (·.1)⟩ :: fs) = some r →
                      ∃ es s' t' H' fs', k t' H' = some r ∧ es.map El.i = i :: l ∧ (∀ e ∈ es, (∀ w0 S0 ok0, Tabs G w0 S0 → Good P ops n w0 S0 ok0 e) ∧ FPin e fs') ∧ (∀ f ∈ fs, f ∈ fs') ∧ okDraw ops fs' = true ∧ Chain n es s H s' H' ∧ Wk s' t' := fun {v' tt} hv e h => by
                    subst e
                    obtain ⟨es, s', t', H', fs', h7, h8, h9, h10, h11, h12, h13⟩ := drawK_sound hΓ m h (hk.put o.dst v')
                    refine ⟨⟨i, o, looksOf ops o, idl, s, H, v', U⟩ :: es, s', t', H', fs', h7, by simp [h8], fun e he => ?_, fun f hf => h10 f (List.mem_cons_of_mem _ hf), h11, ⟨⟨fun _ _ => rfl, fun _ _ => rfl⟩, h12⟩, h13⟩
                    rcases List.mem_cons.1 he with rfl | he
                    · exact ⟨fun w0 S0 ok0 hG => good_call hG (hΓ f con hcon) ho hop hg hk hc h1 hU' hv, ⟨_, h10 _ (List.mem_cons_self ..), rfl, rfl, rfl, rfl⟩⟩
                    · exact h9 e he
                  split at h2
                  · rename_i g d hsg hd
                    have hvg := splitG_spec hsg
                    cases hb : Nat.blt d n with
                    | false => simp [hb] at h2
                    | true =>
                      simp only [hb, cond_true] at h2
                      have hput : ∀ u : TV, putT n t o.dst u = (d, u) :: t := fun u => by rw [hd]; unfold putT; simp only [hb, cond_true]
                      cases g with
                      | true => exact rest (v' := .v (.one (.kb true))) (fun X H w val hh => by rw [hvg] at hh; exact hh) (hput _) h2
                      | false => exact rest (v' := .v (.one (.kb false))) (fun X H w val hh => by rw [hvg] at hh; exact hh) (hput _) h2
                  · exact rest (fun _ _ _ _ hh => hh) rfl h2
              · simp at h
            · simp at h
          · simp at h
end
end Go.Ab

/- One step of the interpreter's, all cases. -/
set_option linter.unusedVariables false
set_option linter.unusedSimpArgs false
namespace Go.Ab
open Go

section
variable {P : Program} {w0 : World} {S0 S1 ok0 : Nat → Prop} {X X' : Cx} {H H' K : Heap} {w w' : World} {R : Type} {t s t1 : List (Nat × TV)} {tmps : Array Value} {Γ : Cons} {ops : Array Oper} {o : Oper} {i n base : Nat}

theorem Next1.mem {s : St} {cs : List Frame} {k : St → Option R} {fin : List AV → Heap → Option R} {r : R} {tmps tmps' : Array Value} {dfs : List Deferred} {Fs : List Frame} (hr : s.fr.ret = false) (hD : DRel X s.h w s.fr.d dfs) (hFs : FsOk X s.h w s.up Fs)
    {todo : List Item} {t : List (Nat × TV)} (E : Ext X s.h w X' H' w') (I' : Inv w0 S0 ok0 X' H' w') (hT' : TRel X' H' w' s.fr.n t tmps') (h : k { s with fr := { s.fr with t := t, todo := todo }, h := H' } = some r)
    (hs : Steps P (lone ((baseOf s.fr).at ⟨tmps, dfs⟩ s.fr.todo) (Fs ++ cs) w) (lone ((baseOf s.fr).at ⟨tmps', dfs⟩ todo) (Fs ++ cs) w')) :
    Next1 P w0 S0 ok0 s X w cs (lone (frameOf s.fr tmps dfs) (Fs ++ cs) w) k fin r := by
  refine .inl ⟨_, (baseOf s.fr).at ⟨tmps', dfs⟩ todo, Fs, w', X', h, ?_, E, I', FrOk.loose ⟨tmps', dfs, ?_, hT', hD.ext E⟩, hFs.ext E, ?_⟩
  · rw [frameOf_at hr]; exact hs
  · simp [frameOf, Frame.at, baseOf, hr]
  · cases hu : s.up <;> rfl
theorem bif_false {α : Type} {b : Bool} (hb : b = false) {x y : α} : (bif b then x else y) = y := by subst hb; rfl
theorem bif_true {α : Type} {b : Bool} (hb : b = true) {x y : α} : (bif b then x else y) = x := by subst hb; rfl
theorem stepK_sound (hm : P.follows .mixedOrders = true) {G : List (Nat × Go.Obj)} (hG : Tabs G w0 S0) (hΓ : ∀ f c, Γ f = some c → ConOk G P f c) {s : St} {k : St → Option R} {fin : List AV → Heap → Option R} {r : R} {cs : List Frame} (h : stepK Γ P s k fin = some r) (I : Inv w0 S0 ok0 X s.h w)
    {F : Frame} {Fs : List Frame} (hL : Loose X s.h w s.fr F) (hFs : FsOk X s.h w s.up Fs) : Next1 P w0 S0 ok0 s X w cs (lone F (Fs ++ cs) w) k fin r := by
  unfold stepK at h
  cases hr : s.fr.ret with
  | true =>
    rw [bif_true hr] at h
    obtain ⟨td, htd, hF⟩ := hL
    rcases htd with rfl | ⟨h1, _⟩
    · exact retK_sound h I hF hFs (.inl hr)
    · rw [hr] at h1; cases h1
  | false =>
    rw [bif_false hr] at h
    obtain ⟨td, htd, hF⟩ := hL
    rcases htd with rfl | ⟨_, cl, q, hl1, hl2⟩
    rotate_left
    · rw [hl1] at h
      simp only at h
      obtain ⟨tmps, dfs, rfl, hT, hD⟩ := hF
      subst hl2
      refine .inl ⟨_, (baseOf s.fr).at ⟨tmps, dfs⟩ (.code cl :: .inLoop cl :: q), Fs, w, X, h, .one ?_, Ext.refl .., I, FrOk.loose ⟨tmps, dfs, ?_, hT, hD⟩, hFs, ?_⟩
      · have : frameOf { s.fr with todo := .code (.loop cl) :: q } tmps dfs = (baseOf s.fr).at ⟨tmps, dfs⟩ (.code (.loop cl) :: q) := by simp [frameOf, Frame.at, baseOf, hr]
        rw [this]; exact step_loop
      · simp [frameOf, Frame.at, baseOf, hr]
      · cases hu : s.up <;> rfl
    have hF0 := hF
    obtain ⟨tmps, dfs, rfl, hT, hD⟩ := hF
    split at h
    · rename_i ht; exact retK_sound h I hF0 hFs (.inr (.inl ht))
    · rename_i q ht; exact retK_sound h I hF0 hFs (.inr (.inr ⟨q, ht⟩))
    · rename_i q ht; exact .go I hr hT hD hFs h (by rw [ht]; exact step_skip)
    · rename_i q ht; exact .go I hr hT hD hFs h (by rw [ht]; exact step_label)
    · rename_i q ht; exact .go I hr hT hD hFs h (by rw [ht]; exact step_inBlock)
    · rename_i q ht; exact .go I hr hT hD hFs h (by rw [ht]; exact step_inScope)
    · rename_i q ht; exact .go I hr hT hD hFs h (by rw [ht]; exact step_seq)
    · rename_i c a b q ht
      have go : ∀ {x : Bool}, (evT s.fr.t c = some (.one (.bool x)) ∨ evT s.fr.t c = some (.one (.kb x))) → (bif x then k { s with fr := { s.fr with todo := .code a :: q } } else k { s with fr := { s.fr with todo := .code b :: q } }) = some r →
          Next1 P w0 S0 ok0 s X w cs (lone (frameOf s.fr tmps dfs) (Fs ++ cs) w) k fin r := fun {x} he hk => by
        have hs := step_cond (P := P) (b := baseOf s.fr) (a := ⟨tmps, dfs⟩) (k := q) (cs := Fs ++ cs) (w := w) (x := a) (y := b) (evT_bool hT.2.2 he dfs)
        cases x with
        | true => exact .go I hr hT hD hFs hk (by rw [ht]; exact hs)
        | false => exact .go I hr hT hD hFs hk (by rw [ht]; exact hs)
      split at h
      · rename_i x he; exact go (.inl he) h
      · rename_i x he; exact go (.inr he) h
      · simp at h
    · rename_i id c q ht; exact .go I hr hT hD hFs h (by rw [ht]; exact step_block)
    · rename_i c q ht
      refine .inl ⟨_, frameOf s.fr tmps dfs, Fs, w, X, h, .refl .., Ext.refl .., I, ⟨s.fr.todo, .inr ⟨hr, c, q, rfl, ht⟩, ⟨tmps, dfs, rfl, hT, hD⟩⟩, hFs, ?_⟩
      cases hu : s.up <;> rfl
    · rename_i c q ht; exact .go I hr hT hD hFs h (by rw [ht]; exact step_inLoop)
    · rename_i c q ht; exact .go I hr hT hD hFs h (by rw [ht]; exact step_scope)
    · rename_i id q ht
      split at h
      · rename_i q' he; exact .go I hr hT hD hFs h (by rw [ht]; exact step_exit he)
      · simp at h
    · rename_i id ops q ht; exact .go I hr hT hD hFs h (by rw [ht]; exact step_region)
    · rename_i id ops q ht
      obtain ⟨es, s', t', H', fs', h1, h2, h3, _, h4, h5, h6⟩ := drawK_sound hΓ 200 h (Wk.refl _)
      obtain ⟨tmps', w', X', h7, h8, h9, h10⟩ := draw_region hm h4 h2 (fun e he => (h3 e he).2) (fun e he => (h3 e he).1 w0 S0 ok0 hG) h5 hT I (baseOf s.fr) dfs q (Fs ++ cs) id
      exact .mem hr hD hFs h8 h9 (h10.wk h6) h1 (by rw [ht]; exact h7)
    · rename_i ops q ht; exact .go I hr hT hD hFs h (by rw [ht]; exact step_region_end)
    · rename_i ops i is q ht
      split at h
      · simp at h
      · rename_i o ho
        cases hcall : isCall o.op with
        | true =>
          simp only [hcall, cond_true] at h
          split at h
          · simp at h
          · rename_i hg
            have hw := guard_wanted hT.2.2 (Wk.refl _) hT.1 hT.2.1 hg
            have hs := step_op_skip (P := P) (b := baseOf s.fr) (a := ⟨tmps, dfs⟩) (k := q) (cs := Fs ++ cs) (w := w) (ops := ops) (i := i) (rest := is) (by simp [ho]; simpa using hw)
            simp only [ho, Option.bind_some] at hs
            have hT' := hT.put (dst := o.dst) (v := .tup []) (val := undef) ⟨#[], rfl, rfl⟩ dfs
            have hp' : Act.put ⟨tmps, dfs⟩ o.dst undef = ⟨(Act.put ⟨tmps, dfs⟩ o.dst undef).tmps, dfs⟩ := by cases o.dst <;> rfl
            rw [hp'] at hs
            exact .mem hr hD hFs (Ext.refl ..) I hT' h (by rw [ht]; exact .one hs)
          · rename_i hg1 hg2
            exact callOp_sound hG hΓ h I hr hT hD hFs ht ho (guard_true hT hg1 hg2)
        | false =>
          simp only [hcall, cond_false] at h
          split at h
          · rename_i cs' t2 H2 f2 h1
            obtain ⟨hc, h2⟩ := conds_some h
            obtain ⟨t3, h2, hw⟩ := contG_some h2
            obtain ⟨es1, s1, h3, h4, h5, h6⟩ := seg_chain h1 hc (Wk.refl _)
            obtain ⟨tmps', w', X', h7, h8, h9, h10⟩ := chain_steps (P := P) (ops := ops) h5 (fun e he => (h4 e he).1 w0 S0 ok0) hT I (baseOf s.fr) dfs (cutSeg ops (i :: is)).2 q (Fs ++ cs)
            rw [h3, cutSeg_append] at h7
            exact .mem hr hD hFs h8 h9 (h10.wk (h6.trans hw)) h2 (by rw [ht]; exact h7)
          · simp at h
    · simp at h
end
end Go.Ab

/- What is carried through a cut. -/
set_option linter.unusedVariables false
set_option linter.unusedSimpArgs false
namespace Go.Ab
open Go

section
variable {P : Program} {w0 : World} {S0 S1 ok0 : Nat → Prop} {X X' : Cx} {H H' K : Heap} {w w' : World} {t s t1 : List (Nat × TV)} {tmps : Array Value} {n : Nat}

theorem normC_sound {new : Nat} {p : CP} {c c' : C} {u : Value} (h : normC H new p c = some (c', H')) (I : Inv w0 S0 ok0 X H w) (hv : CRel X H w c u) :
    ∃ X', Ext X H w X' H' w ∧ Inv w0 S0 ok0 X' H' w ∧ CRel X' H' w c' u := by
  unfold normC at h
  split at h
  · simp at h; obtain ⟨rfl, rfl⟩ := h; exact ⟨X, Ext.refl .., I, hv⟩
  · simp at h; obtain ⟨rfl, rfl⟩ := h; exact ⟨X, Ext.refl .., I, hv⟩
  · rename_i ty
    simp at h; obtain ⟨rfl, rfl⟩ := h
    obtain ⟨E, I'⟩ := I.nilRow new ty
    refine ⟨_, E, I', ⟨⟨by rw [ver_cons]; simp, by rw [show u = _ from hv]; rfl⟩, fun t xs ho => ?_⟩⟩
    rw [obj_cons] at ho
    simp at ho
    obtain ⟨rfl, ho⟩ := ho
    simp at ho
    subst ho
    rw [Cx.set_same]
    exact ⟨hv, rfl, rfl⟩
  · simp at h; obtain ⟨rfl, rfl⟩ := h; exact ⟨X, Ext.refl .., I, hv⟩
  · simp at h; obtain ⟨rfl, rfl⟩ := h
    exact ⟨X, Ext.refl .., I, by rw [show u = _ from hv]; exact .sl0 _ _ _⟩
  · simp at h; obtain ⟨rfl, rfl⟩ := h; exact ⟨X, Ext.refl .., I, hv.1⟩
  · split at h
    · rename_i c1 U h1
      simp at h; obtain ⟨rfl, rfl⟩ := h
      obtain ⟨X', E, I', h2, _⟩ := plain_sound I h1 hv
      exact ⟨X', E, I', h2⟩
    · simp at h
theorem normT_sound : ∀ {l : List (Nat × CP)} {l' : List (Nat × TV)} {H H' : Heap} {X : Cx}, normT t l H = some (l', H') → Inv w0 S0 ok0 X H w → TRel X H w n t tmps →
    ∃ X', Ext X H w X' H' w ∧ Inv w0 S0 ok0 X' H' w ∧ TRel X' H' w n l' tmps
  | [], l', H, H', X, h, I, hT => by
    simp [normT] at h; obtain ⟨rfl, rfl⟩ := h
    exact ⟨X, Ext.refl .., I, hT.1, fun i v hi => by simp [lk] at hi, fun i v hi => by simp [lk] at hi⟩
  | (i, p) :: r, l', H, H', X, h, I, hT => by
    simp only [normT] at h
    have cons : ∀ {X2 : Cx} {H2 : Heap} {l2 : List (Nat × TV)} {v : TV}, TRel X2 H2 w n l2 tmps → i < n → TVRel X2 H2 w v (tmps.getD i undef) → TRel X2 H2 w n ((i, v) :: l2) tmps := fun {X2 H2 l2 v} h1 hi h2 => by
      refine ⟨h1.1, fun j u hj => ?_, fun j u hj => ?_⟩
      · rw [lk_cons] at hj
        by_cases e : i = j
        · omega
        · rw [if_neg e] at hj; exact h1.2.1 j u hj
      · rw [lk_cons] at hj
        by_cases e : i = j
        · subst e; simp at hj; subst hj; exact h2
        · rw [if_neg e] at hj; exact h1.2.2 j u hj
    split at h
    · rename_i c hl
      split at h
      · rename_i c' H1 h1
        split at h
        · rename_i l2 H2 h2
          simp at h; obtain ⟨rfl, rfl⟩ := h
          obtain ⟨X1, E1, I1, hv⟩ := normC_sound h1 I (hT.2.2 i _ hl)
          obtain ⟨X2, E2, I2, hT2⟩ := normT_sound h2 I1 (hT.ext E1)
          exact ⟨X2, E1.trans E2, I2, cons hT2 (hT.2.1 i _ hl) (CRel.ext E2 hv)⟩
        · simp at h
      · simp at h
    · rename_i v _ hl
      split at h
      · rename_i l2 H2 h2
        simp at h; obtain ⟨rfl, rfl⟩ := h
        obtain ⟨X2, E2, I2, hT2⟩ := normT_sound h2 I hT
        exact ⟨X2, E2, I2, cons hT2 (hT.2.1 i _ hl) ((hT.2.2 i _ hl).ext E2)⟩
      · simp at h
    · simp at h
theorem FRel.at_one : ∀ {fs : List Fld} {f : Nat} {c : C} {us : List Value}, fs[f]? = some (.c c) → FRel X H w fs us → ∃ u, us[wsum (fs.take f)]? = some u ∧ u.oneCell' = true ∧ CRel X H w c u
  | .c x :: r, 0, c, _, h, ⟨v, us, rfl, h1, h2, _⟩ => by simp at h; subst h; exact ⟨v, by simp [wsum], h1, h2⟩
  | .c x :: r, f + 1, c, _, h, ⟨v, us, rfl, h1, h2, h3⟩ => by
    obtain ⟨u, h4, h5⟩ := FRel.at_one (f := f) (by simpa using h) h3
    refine ⟨u, ?_, h5⟩
    have : wsum ((Fld.c x :: r).take (f + 1)) = wsum (r.take f) + 1 := by simp [wsum, Fld.width]; omega
    rw [this]; simpa using h4
  | .a m t xs :: r, 0, c, _, h, _ => by simp at h
  | .a m t xs :: r, f + 1, c, _, h, ⟨as, us, rfl, h1, h2, h3⟩ => by
    obtain ⟨u, h4, h5⟩ := FRel.at_one (f := f) (by simpa using h) h3
    refine ⟨u, ?_, h5⟩
    have hl : as.length = m * t.size := by simpa [Ty.size] using h1.length
    have : wsum ((Fld.a m t xs :: r).take (f + 1)) = as.length + wsum (r.take f) := by simp [wsum, Fld.width, hl]
    rw [this, List.getElem?_append_right (by omega)]
    simpa using h4
  | [], f, c, _, h, _ => by simp at h
theorem FRel.set_one : ∀ {fs : List Fld} {f : Nat} {c c' : C} {us : List Value}, fs[f]? = some (.c c) → FRel X H w fs us → (∀ u, us[wsum (fs.take f)]? = some u → CRel X H w c' u) → FRel X H w (fs.set f (.c c')) us
  | .c x :: r, 0, c, c', _, h, ⟨v, us, rfl, h1, h2, h3⟩, hc => ⟨v, us, rfl, h1, hc v (by simp [wsum]), h3⟩
  | .c x :: r, f + 1, c, c', _, h, ⟨v, us, rfl, h1, h2, h3⟩, hc => by
    refine ⟨v, us, rfl, h1, h2, FRel.set_one (f := f) (by simpa using h) h3 fun u hu => hc u ?_⟩
    have : wsum ((Fld.c x :: r).take (f + 1)) = wsum (r.take f) + 1 := by simp [wsum, Fld.width]; omega
    rw [this]; simpa using hu
  | .a m t xs :: r, 0, c, c', _, h, _, _ => by simp at h
  | .a m t xs :: r, f + 1, c, c', _, h, ⟨as, us, rfl, h1, h2, h3⟩, hc => by
    refine ⟨as, us, rfl, h1, h2, FRel.set_one (f := f) (by simpa using h) h3 fun u hu => hc u ?_⟩
    have hl : as.length = m * t.size := by simpa [Ty.size] using h1.length
    have : wsum ((Fld.a m t xs :: r).take (f + 1)) = as.length + wsum (r.take f) := by simp [wsum, Fld.width, hl]
    rw [this, List.getElem?_append_right (by omega)]
    simpa using hu
  | [], f, c, c', _, h, _, _ => by simp at h
end
end Go.Ab

/- Boxes carried through a cut; the whole state. -/
set_option linter.unusedVariables false
set_option linter.unusedSimpArgs false
namespace Go.Ab
open Go

section
variable {P : Program} {w0 : World} {S0 S1 ok0 : Nat → Prop} {X X' : Cx} {H H' K : Heap} {w w' : World} {t s t1 : List (Nat × TV)} {tmps : Array Value} {n : Nat}

theorem normBox_sound {i f new : Nat} {p : CP} (h : normBox H i f new p = some H') (I : Inv w0 S0 ok0 X H w) : ∃ X', Ext X H w X' H' w ∧ Inv w0 S0 ok0 X' H' w := by
  unfold normBox at h
  split at h
  · rename_i v fs hl
    split at h
    · rename_i c hf
      split at h
      · rename_i c' H1 h1
        split at h
        · rename_i gs hg
          split at h
          · rename_i c2 hg2
            simp at h; subst h
            obtain ⟨B, cp, cur, ty, fr, hB, hh, hn, hF⟩ := I.objs i v _ hl
            obtain ⟨u, h2, h3, h4⟩ := FRel.at_one hf hF
            obtain ⟨X1, E1, I1, h5⟩ := normC_sound h1 I h4
            obtain ⟨fs', h6, h7, h8⟩ := E1.box hg (by rw [lk_ver hl]; omega)
            rw [lk_obj hl] at h6
            simp at h6; subst h6
            obtain ⟨B', cp', cur', ty', fr', hB', hh', hn', hF'⟩ := I1.objs i v _ (obj_lk hg)
            rw [h8, hB] at hB'; simp at hB'; obtain ⟨rfl, rfl⟩ := hB'
            rw [hh] at hh'; simp at hh'; obtain ⟨rfl, rfl, rfl⟩ := hh'
            have hset : FRel X1 H1 w (gs.set f (.c c')) cur.toList := FRel.set_one hg2 hF' fun u' hu' => by
              rw [← FsSim.wsum_take f h7, h2] at hu'
              simp at hu'; subst hu'; exact h5
            obtain ⟨E2, I2⟩ := I1.turn (o' := .box (gs.set f (.c c'))) (w' := w) hg (by simp) (FsSim.set hg2 trivial) (h8.trans hB) (fun _ _ => rfl) rfl rfl rfl rfl fun E => ⟨B, cp, cur, ty, fr, h8.trans hB, hh, hn, hset.ext E⟩
            exact ⟨X1, E1.trans E2, I2⟩
          · simp at h
        · simp at h
      · simp at h
    · simp at h
  · simp at h
theorem normB_sound : ∀ {l : List (Nat × Nat × CP)} {H H' : Heap} {X : Cx}, normB t l H = some H' → Inv w0 S0 ok0 X H w → ∃ X', Ext X H w X' H' w ∧ Inv w0 S0 ok0 X' H' w
  | [], H, H', X, h, I => by simp [normB] at h; subst h; exact ⟨X, Ext.refl .., I⟩
  | (x, f, p) :: r, H, H', X, h, I => by
    simp only [normB] at h
    split at h
    · split at h
      · rename_i H1 h1
        obtain ⟨X1, E1, I1⟩ := normBox_sound h1 I
        obtain ⟨X2, E2, I2⟩ := normB_sound h I1
        exact ⟨X2, E1.trans E2, I2⟩
      · simp at h
    · simp at h
theorem normFb_sound : ∀ {l : List (Nat × Nat × CP)} {H H' : Heap} {X : Cx}, normFb l H = some H' → Inv w0 S0 ok0 X H w → ∃ X', Ext X H w X' H' w ∧ Inv w0 S0 ok0 X' H' w
  | [], H, H', X, h, I => by simp [normFb] at h; subst h; exact ⟨X, Ext.refl .., I⟩
  | (i, f, p) :: r, H, H', X, h, I => by
    simp only [normFb] at h
    split at h
    · rename_i H1 h1
      obtain ⟨X1, E1, I1⟩ := normBox_sound h1 I
      obtain ⟨X2, E2, I2⟩ := normFb_sound h I1
      exact ⟨X2, E1.trans E2, I2⟩
    · simp at h
end
end Go.Ab

/- The names behind a cut. -/
set_option linter.unusedVariables false
set_option linter.unusedSimpArgs false
namespace Go.Ab
open Go

section
variable {H : Heap} {vs : List (Nat × Nat)} {new : Nat} {ids : List Nat}

theorem normF_spec {i v j s : Nat} (h : normF H vs new ids i v = some (j, s)) : (∃ o, lk H i = some (v, o)) ∧ i ∈ ids ∧
    ((100000 ≤ i ∧ i < 200000 ∧ j = i ∧ verOf vs i v = some s) ∨ (¬ (100000 ≤ i ∧ i < 200000) ∧ ∃ k, ids[k]? = some i ∧ j = new + k ∧ s = 0 ∧ ¬ (100000 ≤ j ∧ j < 200000))) := by
  unfold normF at h
  split at h
  · rename_i v' o k h1 h2
    have h3 := (idxOf_spec h2).2
    simp at h3
    cases hb : Nat.beq v v' with
    | false => simp [hb] at h
    | true =>
      have := Nat.eq_of_beq_eq_true hb
      subst this
      simp only [hb, cond_true] at h
      refine ⟨⟨o, h1⟩, List.mem_of_getElem? h3, ?_⟩
      cases hp : (Nat.ble 100000 i && Nat.blt i 200000) with
      | true =>
        simp only [hp, cond_true, Option.map_eq_some_iff] at h
        obtain ⟨w, h4, h5⟩ := h
        simp at h5
        obtain ⟨rfl, rfl⟩ := h5
        simp only [Bool.and_eq_true] at hp
        exact .inl ⟨Nat.le_of_ble_eq_true hp.1, blt_iff.1 hp.2, rfl, h4⟩
      | false =>
        simp only [hp, cond_false] at h
        cases hq : (Nat.ble 100000 (new + k) && Nat.blt (new + k) 200000) with
        | true => simp only [hq, cond_true] at h; cases h
        | false =>
          simp only [hq, cond_false, Option.some.injEq, Prod.mk.injEq] at h
          obtain ⟨rfl, rfl⟩ := h
          refine .inr ⟨fun hh => ?_, k, h3, rfl, rfl, fun hh => ?_⟩
          · rw [Nat.ble_eq_true_of_le hh.1, blt_iff.2 hh.2] at hp; cases hp
          · rw [Nat.ble_eq_true_of_le hh.1, blt_iff.2 hh.2] at hq; cases hq
  · simp at h
theorem normF_ok : NameOk (normF H vs new ids) H := by
  refine ⟨fun i v j s h => (normF_spec h).1, fun i v j s i' v' s' h h' => ?_⟩
  rcases (normF_spec h).2.2 with ⟨h1, h2, h3, _⟩ | ⟨h1, k, h2, h3, _, h4⟩ <;> rcases (normF_spec h').2.2 with ⟨h1', h2', h3', _⟩ | ⟨h1', k', h2', h3', _, h4'⟩
  · omega
  · exact absurd (by omega) h4'
  · exact absurd (by omega) h4
  · have : k = k' := by omega
    subst this
    rw [h2] at h2'
    simpa using h2'
end
end Go.Ab

/- What a function answers, carried out. -/
set_option linter.unusedVariables false
set_option linter.unusedSimpArgs false
namespace Go.Ab
open Go

section
variable {P : Program} {w0 : World} {S0 S1 ok0 : Nat → Prop} {X X' : Cx} {H H' K : Heap} {w w' : World}

theorem normC_known {new : Nat} {p : CP} {c c' : C} {u : Value} (h : normC H new p c = some (c', H')) (h1 : u.oneCell' = true) : u.oneCell' = true := h1
theorem normFs_sound : ∀ {ps : List CP} {fs fs' : List Fld} {H H' : Heap} {X : Cx} {new : Nat} {us : List Value}, normFs H new ps fs = some (fs', H') → Inv w0 S0 ok0 X H w → FRel X H w fs us →
    ∃ X', Ext X H w X' H' w ∧ Inv w0 S0 ok0 X' H' w ∧ FRel X' H' w fs' us := by
  intro ps
  induction ps with
  | nil =>
    intro fs fs' H H' X new us h I hf
    simp [normFs] at h; obtain ⟨rfl, rfl⟩ := h
    exact ⟨X, Ext.refl .., I, hf⟩
  | cons p r ih =>
    intro fs fs' H H' X new us h I hf
    cases fs with
    | nil => simp [normFs] at h; obtain ⟨rfl, rfl⟩ := h; exact ⟨X, Ext.refl .., I, hf⟩
    | cons f fs =>
      cases f with
      | a n t xs => simp [normFs] at h; obtain ⟨rfl, rfl⟩ := h; exact ⟨X, Ext.refl .., I, hf⟩
      | c x =>
        obtain ⟨v, vs, rfl, h1, h2, h3⟩ := hf
        simp only [normFs] at h
        split at h
        · rename_i c' H1 h4
          split at h
          · rename_i fs2 H2 h5
            simp at h; obtain ⟨rfl, rfl⟩ := h
            obtain ⟨X1, E1, I1, hv⟩ := normC_sound h4 I h2
            obtain ⟨X2, E2, I2, hf2⟩ := ih h5 I1 (h3.ext E1)
            exact ⟨X2, E1.trans E2, I2, v, vs, rfl, h1, CRel.ext E2 hv, hf2⟩
          · simp at h
        · simp at h
theorem normR_sound : ∀ {ps : List (List CP)} {vs vs' : List AV} {H H' : Heap} {X : Cx} {new : Nat} {us : List Value}, normR H new ps vs = some (vs', H') → Inv w0 S0 ok0 X H w → AVsRel X H w vs us →
    ∃ X', Ext X H w X' H' w ∧ Inv w0 S0 ok0 X' H' w ∧ AVsRel X' H' w vs' us := by
  intro ps
  induction ps with
  | nil =>
    intro vs vs' H H' X new us h I hf
    simp [normR] at h; obtain ⟨rfl, rfl⟩ := h
    exact ⟨X, Ext.refl .., I, hf⟩
  | cons p r ih =>
    intro vs vs' H H' X new us h I hf
    cases vs with
    | nil => simp [normR] at h; obtain ⟨rfl, rfl⟩ := h; exact ⟨X, Ext.refl .., I, hf⟩
    | cons a vs =>
      obtain ⟨v, us', rfl, h1, h2⟩ := hf
      cases a with
      | one c =>
        simp only [normR] at h
        split at h
        · rename_i c' H1 h4
          split at h
          · rename_i vs2 H2 h5
            simp at h; obtain ⟨rfl, rfl⟩ := h
            obtain ⟨X1, E1, I1, hv⟩ := normC_sound h4 I h1
            obtain ⟨X2, E2, I2, hf2⟩ := ih h5 I1 (h2.ext E1)
            exact ⟨X2, E1.trans E2, I2, v, us', rfl, CRel.ext E2 hv, hf2⟩
          · simp at h
        · simp at h
      | agg fs =>
        obtain ⟨cs, e, h3⟩ := h1
        simp only [normR] at h
        split at h
        · rename_i fs' H1 h4
          split at h
          · rename_i vs2 H2 h5
            simp at h; obtain ⟨rfl, rfl⟩ := h
            obtain ⟨X1, E1, I1, hv⟩ := normFs_sound h4 I h3
            obtain ⟨X2, E2, I2, hf2⟩ := ih h5 I1 (h2.ext E1)
            exact ⟨X2, E1.trans E2, I2, v, us', rfl, ⟨cs, e, hv.ext E2⟩, hf2⟩
          · simp at h
        · simp at h
end
end Go.Ab

/- The state carried through a cut. -/
set_option linter.unusedVariables false
set_option linter.unusedSimpArgs false
namespace Go.Ab
open Go

section
variable {P : Program} {w0 : World} {S0 S1 ok0 : Nat → Prop} {X X' : Cx} {H H' K : Heap} {w w' : World} {f : Nat → Nat → Option (Nat × Nat)}

theorem DRel.extF (E : ExtF f X H w X' H' w') : ∀ {l : List Dfr} {ds : List Deferred}, DRel X H w l ds → DRel X' H' w' (l.map fun d => ⟨d.f, d.args.map (·.ren f)⟩) ds
  | [], _, h => h
  | d :: r, _, ⟨caps, args, rest, h1, h2, h3⟩ => ⟨caps, args, rest, h1, h2.extF E, DRel.extF E h3⟩
theorem lk_map {t : List (Nat × TV)} {i : Nat} {g : TV → TV} : lk (t.map fun x => (x.1, g x.2)) i = (lk t i).map g := by
  induction t with
  | nil => rfl
  | cons x r ih =>
    obtain ⟨j, v⟩ := x
    simp only [List.map_cons, lk_cons]
    by_cases e : j = i
    · simp [e]
    · simp [e, ih]
theorem TRel.extF {n : Nat} {t : List (Nat × TV)} {tmps : Array Value} (E : ExtF f X H w X' H' w') (h : TRel X H w n t tmps) : TRel X' H' w' n (t.map fun x => (x.1, x.2.ren f)) tmps := by
  refine ⟨h.1, fun i v hi => ?_, fun i v hi => ?_⟩
  · rw [lk_map] at hi
    obtain ⟨u, h1, _⟩ := Option.map_eq_some_iff.1 hi
    exact h.2.1 i u h1
  · rw [lk_map] at hi
    obtain ⟨u, h1, rfl⟩ := Option.map_eq_some_iff.1 hi
    exact (h.2.2 i u h1).extF E
/-- What the function began with, and what is there now. -/
theorem Ext0.step {Y : Cx} {K : Heap} {w1 w2 : World} (h : Ext0 X H w X' H' w1) (E : Ext X' H' w1 Y K w2) (hk : ∀ i o, lk H i = some (0, o) → 0 < H'.ver i) : Ext0 X H w Y K w2 := by
  refine ⟨fun B hB => ⟨(E.ok B (h.1 B hB).1).1, (E.ok B (h.1 B hB).1).2.trans (h.1 B hB).2⟩, fun i o o' h1 h2 hd => ?_⟩
  obtain ⟨o1, h3, h4, h5⟩ := E.ref i 0 o' (lk_obj h2) hd (hk i o h1)
  have hd1 : o1 ≠ .dead := by rintro rfl; cases o' <;> simp [OSim] at h4
  obtain ⟨h6, h7⟩ := h.2 i o o1 h1 (obj_lk h3) hd1
  exact ⟨h6.trans h4, h5.trans h7⟩

/-! ### What was handed in is still told -/
def Told (H0 H : Heap) : Prop := ∀ i o, lk H0 i = some (0, o) → 0 < H.ver i
def ParOnly (H0 : Heap) : Prop := ∀ i o, lk H0 i = some (0, o) → 100000 ≤ i ∧ i < 200000
theorem verOf_zero {vs : List (Nat × Nat)} {i v : Nat} (h : verOf vs i v = some 0) : v = 0 := by
  unfold verOf at h
  split at h
  · rename_i w' hw
    cases hb : (Nat.beq v 0 || !Nat.beq w' 0) with
    | false => rw [hb] at h; simp at h
    | true =>
      rw [hb] at h
      simp only [cond_true, Option.some.injEq] at h
      subst h
      simp at hb
      exact hb
  · simpa using h
theorem params_acc : ∀ {H : Heap} {acc : List Nat} {i : Nat}, i ∈ acc → i ∈ params H acc
  | [], acc, i, h => h
  | (j, v, o) :: r, acc, i, h => by
    simp only [params]
    refine params_acc ?_
    cases hb : (Nat.ble 100000 j && Nat.blt j 200000 && !inL j acc) with
    | true => simpa using .inl h
    | false => simpa using h
theorem inL_mem {i : Nat} : ∀ {l : List Nat}, inL i l = true → i ∈ l
  | j :: r, h => by
    simp only [inL] at h
    by_cases e : i = j
    · simp [e]
    · rw [nbeq e] at h
      exact List.mem_cons_of_mem _ (inL_mem h)
theorem params_mem : ∀ {H : Heap} {acc : List Nat} {i : Nat} {x : Nat × Obj}, lk H i = some x → 100000 ≤ i → i < 200000 → i ∈ params H acc
  | [], acc, i, x, h, _, _ => by simp [lk] at h
  | (j, v, o) :: r, acc, i, x, h, h1, h2 => by
    simp only [params]
    rw [lk_cons] at h
    by_cases e : j = i
    · subst e
      refine params_acc ?_
      cases hb : (Nat.ble 100000 j && Nat.blt j 200000 && !inL j acc) with
      | true => simp
      | false =>
        rw [Nat.ble_eq_true_of_le h1, blt_iff.2 h2] at hb
        simp at hb
        simpa using inL_mem hb
    · rw [if_neg e] at h
      exact params_mem h h1 h2
variable {X0 : Cx} {H0 : Heap} {w1 : World}
theorem Ext0.norm {vs : List (Nat × Nat)} {new : Nat} {ids : List Nat} (h : Ext0 X0 H0 w1 X H w) (hp : ParOnly H0) (Y : Cx) :
    Ext0 X0 H0 w1 (X.named Y (normF H vs new ids)) (normH H (normF H vs new ids) ids) w := by
  refine ⟨h.1, fun i o o'' h1 h2 hd => ?_⟩
  obtain ⟨i', v, o', _, hl, hf, rfl⟩ := normH_spec h2
  have hr := hp i o h1
  rcases (normF_spec hf).2.2 with ⟨_, _, rfl, h4⟩ | ⟨_, k, _, _, _, h6⟩
  · have := verOf_zero h4
    subst this
    obtain ⟨h7, h8⟩ := h.2 i o o' h1 hl (Obj.ren_dead.1 hd)
    exact ⟨h7.trans (Obj.ren_sim _ o' (Obj.ren_dead.1 hd)), (Cx.named_b normF_ok Y hf).trans h8⟩
  · exact absurd hr h6
theorem Told.ext (h : Told H0 H) (E : Ext X H w X' H' w') : Told H0 H' := fun i o ho => Nat.lt_of_lt_of_le (h i o ho) (E.ver i)
theorem ver_pos {i : Nat} (h : 0 < H.ver i) : ∃ x, lk H i = some x := by
  unfold Heap.ver at h
  cases hl : lk H i with
  | none => simp [hl] at h
  | some x => exact ⟨x, rfl⟩

theorem norm_sound {c : Cut} {s s'' : St} (h : norm c s = some s'') (I : Inv w0 S0 ok0 X s.h w) {F : Frame} (hL : Loose X s.h w s.fr F) (h0 : Ext0 X0 H0 w1 X s.h w) (hp : ParOnly H0) (ht : Told H0 s.h) :
    ∃ X', Inv w0 S0 ok0 X' s''.h w ∧ Loose X' s''.h w s''.fr F ∧ Ext0 X0 H0 w1 X' s''.h w ∧ Told H0 s''.h ∧ s''.up = s.up ∧ s''.fr.fn = s.fr.fn := by
  unfold norm at h
  split at h
  · rename_i H1 h1
    split at h
    · rename_i t1 H2 h2
      simp only at h
      obtain ⟨ids, hids⟩ : ∃ ids, ids = reach H2 100 (sortedPar (params H2 []) ++ t1.flatMap (fun x => x.2.ids) ++ s.fr.d.flatMap (fun d => d.args.flatMap AV.ids)) [] := ⟨_, rfl⟩
      rw [← hids] at h
      cases hb : (params s.h []).all fun i => (lk (normH H2 (normF H2 c.vs 200000 ids) ids) i).isSome with
      | false => rw [hb] at h; simp at h
      | true =>
        rw [hb] at h
        simp only [cond_true, Option.some.injEq] at h
        subst h
        obtain ⟨td, htd, tmps, dfs, rfl, hT, hD⟩ := hL
        obtain ⟨X1, E1, I1⟩ := normB_sound h1 I
        obtain ⟨X2, E2, I2, hT2⟩ := normT_sound h2 I1 (hT.ext E1)
        have E := E1.trans E2
        obtain ⟨E3, I3⟩ := norm_inv I2 normF_ok (fun i v p hp => (normF_spec (show normF H2 c.vs 200000 ids i v = some (p.1, p.2) from hp)).2.1) X2
        refine ⟨_, I3, ⟨td, htd, tmps, dfs, rfl, hT2.extF E3, (hD.ext E).extF E3⟩, Ext0.norm (h0.step E fun i o ho => ht i o ho) hp X2, fun i o ho => ?_, rfl, rfl⟩
        obtain ⟨x, hx⟩ := ver_pos (ht i o ho)
        have hr := hp i o ho
        have := List.all_eq_true.1 hb i (params_mem hx hr.1 hr.2)
        show 0 < Heap.ver (normH H2 (normF H2 c.vs 200000 ids) ids) i
        unfold Heap.ver
        cases hl : lk (normH H2 (normF H2 c.vs 200000 ids) ids) i with
        | none => rw [hl] at this; simp at this
        | some x => simp
    · simp at h
  · simp at h
theorem TVRel.tvOf_list {vs : List AV} {val : Value} (h : TVRel X H w (tvOf vs) val) : ∃ us, AVsRel X H w vs us ∧ ∀ {Y : Cx} {K : Heap} {w' : World} {ws : List AV}, AVsRel Y K w' ws us → TVRel Y K w' (tvOf ws) val := by
  match vs, h with
  | [a], h =>
    refine ⟨[val], ⟨val, [], rfl, h, rfl⟩, fun {Y K w' ws} h' => ?_⟩
    match ws, h' with
    | [b], ⟨v, us, e, h1, _⟩ => simp at e; obtain ⟨rfl, _⟩ := e; exact h1
    | [], h' => simp [AVsRel] at h'
    | b :: c :: r, ⟨v, us, e, h1, h2⟩ =>
      obtain ⟨v', us', e', _⟩ := h2
      simp at e; rw [e.2] at e'; simp at e'
  | [], ⟨us, e, h1⟩ =>
    refine ⟨us.toList, h1, fun {Y K w' ws} h' => ?_⟩
    have hn : us.toList = [] := h1
    rw [hn] at h'
    match ws, h' with
    | [], h' => exact ⟨us, e, by rw [hn]; rfl⟩
    | b :: r, ⟨v, us', e', _⟩ => simp at e'
  | a :: b :: r, ⟨us, e, h1⟩ =>
    refine ⟨us.toList, h1, fun {Y K w' ws} h' => ?_⟩
    obtain ⟨v, u1, e1, _, v2, u2, e2, _⟩ := h1
    match ws, h' with
    | [], h' => have h' : us.toList = [] := h'; rw [e1] at h'; simp at h'
    | [x], ⟨v', us', e', _, h4⟩ => have h4 : us' = [] := h4; rw [e1, e2, h4] at e'; simp at e'
    | x :: y :: z, h' => exact ⟨us, e, h'⟩
theorem finish_sound {c : Fin} {vs vs' : List AV} (h : finish c vs H = some (vs', H')) (I : Inv w0 S0 ok0 X H w) {val : Value} (hv : TVRel X H w (tvOf vs) val) (h0 : Ext0 X0 H0 w1 X H w) (hp : ParOnly H0) (ht : Told H0 H) :
    ∃ X', Inv w0 S0 ok0 X' H' w ∧ TVRel X' H' w (tvOf vs') val ∧ Ext0 X0 H0 w1 X' H' w := by
  unfold finish at h
  split at h
  · rename_i H1 h1
    split at h
    · rename_i vs1 H2 h2
      simp only at h
      obtain ⟨ids, hids⟩ : ∃ ids, ids = reach H2 100 (sortedPar (params H2 []) ++ vs1.flatMap AV.ids) [] := ⟨_, rfl⟩
      rw [← hids] at h
      simp only [Option.some.injEq, Prod.mk.injEq] at h
      obtain ⟨rfl, rfl⟩ := h
      obtain ⟨us, hus, back⟩ := hv.tvOf_list
      obtain ⟨X1, E1, I1⟩ := normFb_sound h1 I
      obtain ⟨X2, E2, I2, hv2⟩ := normR_sound h2 I1 (hus.ext E1)
      have E := E1.trans E2
      obtain ⟨E3, I3⟩ := norm_inv I2 normF_ok (fun i v p hp => (normF_spec (show normF H2 c.vs 0 ids i v = some (p.1, p.2) from hp)).2.1) X2
      exact ⟨_, I3, back (hv2.extF E3), Ext0.norm (h0.step E fun i o ho => ht i o ho) hp X2⟩
    · simp at h
  · simp at h

/-! ### From cut to cut -/
def GoodS (w0 : World) (S0 ok0 : Nat → Prop) (X0 : Cx) (H0 : Heap) (f : FuncId) (s : St) (X : Cx) (w : World) (F : Frame) (Fs : List Frame) : Prop :=
  Inv w0 S0 ok0 X s.h w ∧ Loose X s.h w s.fr F ∧ FsOk X s.h w s.up Fs ∧ Ext0 X0 H0 w0 X s.h w ∧ Told H0 s.h ∧ bot s.fr s.up = f
def Done (P : Program) (w0 : World) (S0 ok0 : Nat → Prop) (X0 : Cx) (H0 : Heap) (f : FuncId) (cs : List Frame) (m : Machine) (vs : List AV) (H' : Heap) : Prop :=
  ∃ w' X' fr val, Steps P m (lone fr cs w') ∧ fr.fn = f ∧ fr.leaving P w' (.returned val) ∧ Inv w0 S0 ok0 X' H' w' ∧ TVRel X' H' w' (tvOf vs) val ∧ Ext0 X0 H0 w0 X' H' w'
theorem Done.steps {f : FuncId} {cs : List Frame} {m m' : Machine} {vs : List AV} (hs : Steps P m m') (h : Done P w0 S0 ok0 X0 H0 f cs m' vs H') : Done P w0 S0 ok0 X0 H0 f cs m vs H' := by
  obtain ⟨w', X', fr, val, h1, h2⟩ := h
  exact ⟨w', X', fr, val, hs.trans h1, h2⟩
theorem cutAt_up {way : Way} {s : St} {c : Cut} (h : cutAt way s = some c) : s.up = [] := by
  unfold cutAt at h
  split at h
  · rename_i k hk
    unfold cutKey at hk
    split at hk
    · assumption
    · assumption
    · simp at hk
  · simp at h
theorem runK_sound {Γ : Cons} {way : Way} {f : FuncId} {cs : List Frame} (hm : P.follows .mixedOrders = true) {G : List (Nat × Go.Obj)} (hG : Tabs G w0 S0) (hΓ : ∀ f c, Γ f = some c → ConOk G P f c) (hp : ParOnly H0) {K : St → Option (List AV × Heap)}
    (hK : ∀ s vs H' X w F, K s = some (vs, H') → s.up = [] → GoodS w0 S0 ok0 X0 H0 f s X w F [] → Done P w0 S0 ok0 X0 H0 f cs (lone F cs w) vs H') :
    ∀ (m : Nat) {s : St} {vs : List AV} {H' : Heap} {X : Cx} {w : World} {F : Frame} {Fs : List Frame}, runK Γ P way K m s = some (vs, H') → GoodS w0 S0 ok0 X0 H0 f s X w F Fs → Done P w0 S0 ok0 X0 H0 f cs (lone F (Fs ++ cs) w) vs H'
  | 0, s, vs, H', X, w, F, Fs, h, _ => by simp [runK] at h
  | m + 1, s, vs, H', X, w, F, Fs, h, ⟨I, hL, hFs, h0, ht, hb⟩ => by
    simp only [runK] at h
    rcases stepK_sound (cs := cs) hm hG hΓ h I hL hFs with ⟨s', F', Fs', w', X', h1, h2, h3, h4, h5, h6, h7⟩ | ⟨vs1, H1, w', X', fr, val, h1, h2, h3, h4, h5, h6, h7⟩
    · have h0' := h0.step h3 fun i o ho => ht i o ho
      have ht' := ht.ext h3
      simp only at h1
      split at h1
      · rename_i c hc
        have hu := cutAt_up hc
        split at h1
        · rename_i s'' hn
          obtain ⟨X'', I'', hL'', h0'', ht'', hu'', hf''⟩ := norm_sound hn h4 h5 h0' hp ht'
          rw [hu] at h6
          have h6 : Fs' = [] := h6
          subst h6
          refine (hK s'' vs H' X'' w' F' h1 (hu''.trans hu) ⟨I'', hL'', by rw [hu'', hu]; rfl, h0'', ht'', ?_⟩).steps h2
          rw [hu'', hu, ← hb, ← h7, hu]; exact hf''
        · simp at h1
      · exact (runK_sound hm hG hΓ hp hK m h1 ⟨h4, h5, h6, h0', ht', h7.trans hb⟩).steps h2
    · obtain ⟨X'', I'', hv'', h0''⟩ := finish_sound h1 h6 h7 (h0.step h5 fun i o ho => ht i o ho) hp (ht.ext h5)
      exact ⟨w', X'', fr, val, h2, h3.trans hb, h4, I'', hv'', h0''⟩
theorem goK_sound {Γ : Cons} {way : Way} {f : FuncId} {cs : List Frame} (hm : P.follows .mixedOrders = true) {G : List (Nat × Go.Obj)} (hG : Tabs G w0 S0) (hΓ : ∀ f c, Γ f = some c → ConOk G P f c) (hp : ParOnly H0) :
    ∀ (n : Nat) {s : St} {vs : List AV} {H' : Heap} {X : Cx} {w : World} {F : Frame}, goK Γ P way n s = some (vs, H') → s.up = [] → GoodS w0 S0 ok0 X0 H0 f s X w F [] → Done P w0 S0 ok0 X0 H0 f cs (lone F cs w) vs H'
  | 0, s, vs, H', X, w, F, h, _, _ => by simp [goK] at h
  | n + 1, s, vs, H', X, w, F, h, hu, hg => by
    simp only [goK] at h
    exact runK_sound hm hG hΓ hp (fun s vs H' X w F h hu hg => goK_sound hm hG hΓ hp n h hu hg) 4000 h hg

/-! ### Contracts out of the interpreter -/
theorem mkO_lk : ∀ {l : List ShO} {n i : Nat} {q : shOT l} {r : Nat} {o : Obj}, lk (mkO l n q) i = some (r, o) → r = 0 ∧ ∃ j, i = par j ∧ n ≤ j ∧ j < n + l.length
  | [], n, i, q, r, o, h => by simp [mkO, lk] at h
  | s :: l, n, i, q, r, o, h => by
    simp only [mkO, lk_cons] at h
    by_cases e : par n = i
    · rw [if_pos e] at h
      simp at h
      exact ⟨h.1.symm, n, e.symm, Nat.le_refl _, by simp⟩
    · rw [if_neg e] at h
      obtain ⟨h1, j, h2, h3, h4⟩ := mkO_lk h
      exact ⟨h1, j, h2, by omega, by simp; omega⟩
theorem enterF_some {f : FuncId} {as : List AV} {b : Nat} {d : Bool} {fr : Fr} (h : enterF P f as b d = some fr) : ∃ fn c, P.funcs[f]? = some fn ∧ (fn.name == "runtime.NumGoroutine") = false ∧ fn.body = some c := by
  unfold enterF at h
  split at h
  · rename_i fn hf
    split at h
    · rename_i c hb
      cases hq : (!(fn.name == "runtime.NumGoroutine") && Nat.ble as.length fn.ntmps) with
      | false => simp only [hq, cond_false] at h; cases h
      | true =>
        simp only [Bool.and_eq_true, Bool.not_eq_true'] at hq
        exact ⟨fn, c, hf, hq.1, hb⟩
    · simp at h
  · simp at h
theorem con_ok {Γ : Cons} {way : Way} {f : FuncId} {c : Con} (hm : P.follows .mixedOrders = true) {G : List (Nat × Go.Obj)} (hΓ : ∀ f c, Γ f = some c → ConOk G P f c)
    (hfn : ∃ fn code, P.funcs[f]? = some fn ∧ (fn.name == "runtime.NumGoroutine") = false ∧ fn.body = some code) (hs : c.still = true → c.objs = []) (hl : c.objs.length ≤ 100000)
    (h : ∀ p q x, c.spec p q = some x → ∃ n, (startSt P f (mkA c.args p) (mkO c.objs 0 q)).bind (goK Γ P way n) = some (c.ren p q x)) : ConOk G P f c where
  fn := hfn
  still := hs
  runs p q x hx X w vals S0 hG I hv cs := by
    obtain ⟨n, h1⟩ := h p q x hx
    obtain ⟨s, h2, h3⟩ := Option.bind_eq_some_iff.1 h1
    unfold startSt at h2
    obtain ⟨fr, h4, rfl⟩ := Option.map_eq_some_iff.1 h2
    obtain ⟨h5, h6, h7, h8, _⟩ := enterF_sound (X := X) (H := mkO c.objs 0 q) (w := w) h4 hv
    have hp : ParOnly (mkO c.objs 0 q) := fun i o ho => by
      obtain ⟨_, j, rfl, _, h9⟩ := mkO_lk ho
      unfold par; omega
    refine goK_sound (w0 := w) (S0 := S0) (ok0 := X.ok) (X0 := X) (H0 := mkO c.objs 0 q) hm hG hΓ hp n h3 rfl ⟨I, h5.loose, rfl, ?_, fun i o ho => by rw [lk_ver ho]; omega, h8⟩
    exact Ext.zero (Ext.refl ..)
end
end Go.Ab

/- Words for printed functions. -/
set_option linter.unusedVariables false
namespace Go.Ab
open Go
theorem map_bif {α β : Type} (f : α → β) (c : Bool) (a b : Option α) : (bif c then a else b).map f = bif c then a.map f else b.map f := by cases c <;> rfl
theorem Option.map_bind' {α β γ : Type} (f : β → γ) (o : Option α) (g : α → Option β) : (Option.bind o g).map f = Option.bind o (fun x => (g x).map f) := by cases o <;> rfl
def fnB (P : Program) (f : FuncId) : Bool :=
  match P.funcs[f]? with
  | some fn => match fn.body with
    | some _ => !(fn.name == "runtime.NumGoroutine")
    | none => false
  | none => false
theorem fnB_ok {P : Program} {f : FuncId} (h : fnB P f = true) : ∃ fn code, P.funcs[f]? = some fn ∧ (fn.name == "runtime.NumGoroutine") = false ∧ fn.body = some code := by
  unfold fnB at h
  split at h
  · rename_i fn hf
    split at h
    · rename_i c hc
      exact ⟨fn, c, hf, by simpa using h, hc⟩
    · cases h
  · cases h
def lkC : List (Nat × Con) → Nat → Option Con
  | [], _ => none
  | (i, a) :: r, j => bif Nat.beq i j then some a else lkC r j
theorem lk_nil_ok {G : List (Nat × Go.Obj)} {P : Program} : ∀ f c, lkC [] f = some c → ConOk G P f c := fun f c h => by simp [lkC] at h
theorem lk_cons_ok {G : List (Nat × Go.Obj)} {P : Program} {i : Nat} {d : Con} {l : List (Nat × Con)} (h1 : ConOk G P i d) (h2 : ∀ f c, lkC l f = some c → ConOk G P f c) : ∀ f c, lkC ((i, d) :: l) f = some c → ConOk G P f c := fun f c h => by
  simp only [lkC] at h
  by_cases e : i = f
  · subst e
    simp at h; subst h; exact h1
  · rw [nbeq e] at h
    exact h2 f c h
end Go.Ab
