/- Objects under other names: what a cell tells stays true. -/
import Derived.Test.YtknccfhaoclimaaDoorA2
import Derived.Orders

set_option linter.unusedVariables false
set_option linter.unusedSimpArgs false
namespace Go.Ab
open Go

structure ExtF (f : Nat → Nat → Option (Nat × Nat)) (X : Cx) (H : Heap) (w : World) (X' : Cx) (H' : Heap) (w' : World) : Prop where
  ok : ∀ B, X.ok B → X'.ok B ∧ w'.heap[B]? = w.heap[B]?
  ref : ∀ i r j s, f i r = some (j, s) → r < H.ver i → s < H'.ver j ∧ ∀ o', H'.obj j s = some o' → o' ≠ .dead → ∃ o, H.obj i r = some o ∧ OSim o o' ∧ X'.b j = X.b i

section
variable {f : Nat → Nat → Option (Nat × Nat)} {X X' : Cx} {H H' : Heap} {w w' : World}
theorem ExtF.box (E : ExtF f X H w X' H' w') {i r j s : Nat} {gs : List Fld} (hf : f i r = some (j, s)) (hr : r < H.ver i) (h : H'.obj j s = some (.box gs)) :
    ∃ fs, H.obj i r = some (.box fs) ∧ FsSim fs gs ∧ X'.b j = X.b i := by
  obtain ⟨o, h1, h2, h3⟩ := (E.ref i r j s hf hr).2 _ h (by simp)
  cases o <;> simp [OSim] at h2
  exact ⟨_, h1, h2, h3⟩
theorem ExtF.row (E : ExtF f X H w X' H' w') {i r j s : Nat} {t : Ty} {ys : List t.T} (hf : f i r = some (j, s)) (hr : r < H.ver i) (h : H'.obj j s = some (.row t ys)) :
    ∃ xs : List t.T, H.obj i r = some (.row t xs) ∧ xs.length = ys.length ∧ X'.b j = X.b i := by
  obtain ⟨o, h1, h2, h3⟩ := (E.ref i r j s hf hr).2 _ h (by simp)
  cases o with
  | row u xs => simp only [OSim] at h2; obtain ⟨rfl, h2⟩ := h2; exact ⟨xs, h1, h2, h3⟩
  | _ => simp [OSim] at h2
theorem ExtF.it (E : ExtF f X H w X' H' w') {i r j s : Nat} {b : List Int} {p : Nat} (hf : f i r = some (j, s)) (hr : r < H.ver i) (h : H'.obj j s = some (.it b p)) :
    ∃ b p, H.obj i r = some (.it b p) ∧ X'.b j = X.b i := by
  obtain ⟨o, h1, h2, h3⟩ := (E.ref i r j s hf hr).2 _ h (by simp)
  cases o <;> simp [OSim] at h2
  exact ⟨_, _, h1, h3⟩
theorem renCaps_spec : ∀ {l l' : List (Nat × Nat)}, C.ren.renCaps f l = some l' → l'.length = l.length ∧ ∀ (j i s : Nat), l'[j]? = some (i, s) → ∃ i0 s0, l[j]? = some (i0, s0) ∧ f i0 s0 = some (i, s)
  | [], l', h => by simp [C.ren.renCaps] at h; subst h; simp
  | (i, v) :: r, l', h => by
    simp only [C.ren.renCaps] at h
    split at h
    · rename_i x r' h1 h2
      simp at h; subst h
      obtain ⟨h3, h4⟩ := renCaps_spec h2
      refine ⟨by simp [h3], fun j k s hj => ?_⟩
      cases j with
      | zero => simp at hj; subst hj; exact ⟨i, v, rfl, h1⟩
      | succ j => simp at hj; simpa using h4 j k s hj
    · simp at h
theorem CRel.extF (E : ExtF f X H w X' H' w') {c : C} {v : Value} (h : CRel X H w c v) : CRel X' H' w' (c.ren f) v := by
  cases c with
  | any => trivial
  | int k n => exact h
  | bool b => exact h
  | kb b => exact h
  | str s => exact h
  | nilp => exact h
  | nilf => exact h
  | nils => exact h
  | fn g l =>
    simp only [C.ren]
    split
    · rename_i l' hl
      obtain ⟨vs, h1, h2, h3⟩ := h
      obtain ⟨h4, h5⟩ := renCaps_spec hl
      refine ⟨vs, h1, by omega, fun j i r hj => ?_⟩
      obtain ⟨i0, s0, h6, h7⟩ := h5 j i r hj
      refine ⟨⟨(E.ref _ _ _ _ h7 (h3 j i0 s0 h6).1.1).1, (h3 j i0 s0 h6).1.2⟩, fun gs hg => ?_⟩
      obtain ⟨fs, h8, h9, h10⟩ := E.box h7 (h3 j i0 s0 h6).1.1 hg
      rw [h10]; exact (h3 j i0 s0 h6).2 fs h8
    · trivial
  | ro t xs => exact Rep.mono E.ok h
  | rox t xs => exact ⟨Rep.mono E.ok h.1, h.2⟩
  | ow i r =>
    simp only [C.ren]
    split
    · rename_i j s hf
      refine ⟨⟨(E.ref _ _ _ _ hf h.1.1).1, h.1.2⟩, fun t ys hg => ?_⟩
      obtain ⟨xs, h4, h5, h6⟩ := E.row hf h.1.1 hg
      rw [h6, ← h5]; exact h.2 t xs h4
    · trivial
  | os i r lo n =>
    simp only [C.ren]
    split
    · rename_i j s hf
      refine ⟨⟨(E.ref _ _ _ _ hf h.1.1).1, h.1.2⟩, fun t ys hg => ?_⟩
      obtain ⟨xs, h4, h5, h6⟩ := E.row hf h.1.1 hg
      rw [h6, ← h5]; exact h.2 t xs h4
    · trivial
  | oa i r p lo n =>
    simp only [C.ren]
    split
    · rename_i j s hf
      refine ⟨⟨(E.ref _ _ _ _ hf h.1.1).1, h.1.2⟩, fun gs hg => ?_⟩
      obtain ⟨fs, h4, h5, h6⟩ := E.box hf h.1.1 hg
      obtain ⟨m, t, xs, B, c, A, cp, h7, h8, h9, h10, h11⟩ := h.2 fs h4
      obtain ⟨ys, h12⟩ := FsSim.get p h5 h7
      exact ⟨m, t, ys, B, c, A, cp, h12, h8, by rw [h6]; exact h9, h10, by rw [← FsSim.wsum_take p h5]; exact h11⟩
    · trivial
  | pb i r p =>
    simp only [C.ren]
    split
    · rename_i j s hf
      refine ⟨⟨(E.ref _ _ _ _ hf h.1.1).1, h.1.2⟩, fun gs hg => ?_⟩
      obtain ⟨fs, h4, h5, h6⟩ := E.box hf h.1.1 hg
      rw [h6, ← FsSim.wsum_take p h5]; exact h.2 fs h4
    · trivial
  | pa i r p e q =>
    simp only [C.ren]
    split
    · rename_i j s hf
      refine ⟨⟨(E.ref _ _ _ _ hf h.1.1).1, h.1.2⟩, fun gs hg => ?_⟩
      obtain ⟨fs, h4, h5, h6⟩ := E.box hf h.1.1 hg
      obtain ⟨m, t, xs, B, c, h7, h8, h9, h10⟩ := h.2 fs h4
      obtain ⟨ys, h12⟩ := FsSim.get p h5 h7
      exact ⟨m, t, ys, B, c, h12, h8, by rw [h6]; exact h9, by rw [← FsSim.wsum_take p h5]; exact h10⟩
    · trivial
  | pe i r e q =>
    simp only [C.ren]
    split
    · rename_i j s hf
      refine ⟨⟨(E.ref _ _ _ _ hf h.1.1).1, h.1.2⟩, fun t ys hg => ?_⟩
      obtain ⟨xs, h4, h5, h6⟩ := E.row hf h.1.1 hg
      rw [h6, ← h5]; exact h.2 t xs h4
    · trivial
  | rop t x q =>
    obtain ⟨B, off, cs, h1, h2, h3, h4⟩ := h
    exact ⟨B, off, cs, h1, (E.ok B h2).1, h3.mono E.ok, h4.mono (E.ok B h2).2⟩
  | pi i r =>
    simp only [C.ren]
    split
    · rename_i j s hf
      refine ⟨⟨(E.ref _ _ _ _ hf h.1.1).1, h.1.2⟩, fun b p hg => ?_⟩
      obtain ⟨b', p', h4, h6⟩ := E.it hf h.1.1 hg
      rw [h6]; exact h.2 _ _ h4
    · trivial
theorem FRel.extF (E : ExtF f X H w X' H' w') : ∀ {fs : List Fld} {vs : List Value}, FRel X H w fs vs → FRel X' H' w' (fs.map (·.ren f)) vs
  | [], _, h => h
  | .c x :: r, _, ⟨v, us, h1, h2, h3, h4⟩ => ⟨v, us, h1, h2, h3.extF E, FRel.extF E h4⟩
  | .a n t xs :: r, _, ⟨as, us, h1, h2, h3, h4⟩ => ⟨as, us, h1, h2.mono E.ok, h3, FRel.extF E h4⟩
theorem AVRel.extF (E : ExtF f X H w X' H' w') {a : AV} {v : Value} (h : AVRel X H w a v) : AVRel X' H' w' (a.ren f) v := by
  cases a with
  | one c => exact CRel.extF E h
  | agg fs => obtain ⟨cs, h1, h2⟩ := h; exact ⟨cs, h1, h2.extF E⟩
theorem AVsRel.extF (E : ExtF f X H w X' H' w') : ∀ {l : List AV} {vs : List Value}, AVsRel X H w l vs → AVsRel X' H' w' (l.map (·.ren f)) vs
  | [], _, h => h
  | a :: r, _, ⟨v, us, h1, h2, h3⟩ => ⟨v, us, h1, h2.extF E, AVsRel.extF E h3⟩
theorem TVRel.extF (E : ExtF f X H w X' H' w') {a : TV} {v : Value} (h : TVRel X H w a v) : TVRel X' H' w' (a.ren f) v := by
  cases a with
  | v x => exact AVRel.extF E h
  | tup l => obtain ⟨vs, h1, h2⟩ := h; exact ⟨vs, h1, h2.extF E⟩
theorem Fld.ren_sim (g : Nat → Nat → Option (Nat × Nat)) : ∀ (fs : List Fld), FsSim fs (fs.map (·.ren g))
  | [] => trivial
  | .c x :: r => ⟨trivial, Fld.ren_sim g r⟩
  | .a n t xs :: r => ⟨⟨rfl, rfl⟩, Fld.ren_sim g r⟩
theorem Obj.ren_sim (g : Nat → Nat → Option (Nat × Nat)) (o : Obj) (hd : o ≠ .dead) : OSim o (o.ren g) := by
  cases o with
  | box fs => exact Fld.ren_sim g fs
  | row t xs => exact ⟨rfl, rfl⟩
  | it s p => trivial
  | dead => exact absurd rfl hd
theorem Obj.ren_dead {g : Nat → Nat → Option (Nat × Nat)} {o : Obj} : o.ren g ≠ .dead ↔ o ≠ .dead := by cases o <;> simp [Obj.ren]
/-- An object under another name, told with other names. -/
theorem ObjRel.extF (E : ExtF f X H w X' H' w') {i j : Nat} {o : Obj} (hb : X'.b j = X.b i) (hw : ∀ B c, o ≠ .dead → X.b i = some (B, c) → w'.heap[B]? = w.heap[B]?) (h : ObjRel X H w i o) : ObjRel X' H' w' j (o.ren f) := by
  cases o with
  | box fs =>
    obtain ⟨B, c, cur, ty, fr, h1, h2, h3, h4⟩ := h
    exact ⟨B, c, cur, ty, fr, hb.trans h1, (hw B c (by simp) h1).trans h2, h3, h4.extF E⟩
  | row t xs =>
    rcases h with ⟨h1, h2⟩ | ⟨B, cap, cs, h1, h2, h3, h3', h4, cur, ty, fr, h5, h6, h7⟩
    · exact .inl ⟨hb.trans h1, h2⟩
    · exact .inr ⟨B, cap, cs, hb.trans h1, h2, h3, h3', h4.mono E.ok, cur, ty, fr, (hw B cap (by simp) h1).trans h5, h6, h7⟩
  | it s p =>
    obtain ⟨B, c, b, h1, h2, h3⟩ := h
    exact ⟨B, c, b, hb.trans h1, (hw B c (by simp) h1).trans h2, h3⟩
  | dead => trivial
end
end Go.Ab

/- An operation that succeeds with a part of the heap in sight does the same with all of it. -/
set_option linter.unusedVariables false
set_option linter.unusedSimpArgs false
namespace Go.Ab
open Go

section
variable {P : Program} {K H : Heap} {dst : Nat} {ev : Operand → Option AV}
def Sub (K H : Heap) : Prop := ∀ i v o, K.obj i v = some o → H.obj i v = some o
theorem Sub.append {K H : Heap} (hs : Sub K H) (U : Heap) : Sub (U ++ K) (U ++ H) := by
  induction U with
  | nil => exact hs
  | cons e U ih =>
    obtain ⟨i, r, o⟩ := e
    intro j s o' h
    rw [List.cons_append, obj_cons] at h ⊢
    by_cases e : i = j
    · rw [if_pos e] at h ⊢; exact h
    · rw [if_neg e] at h ⊢; exact ih _ _ _ h
theorem at_mono (hs : Sub K H) {c : C} {fs : List Fld} (h : K.at c = some fs) : H.at c = some fs := by
  cases c <;> simp only [Heap.at] at h ⊢ <;> first
    | exact h
    | (split at h
       · rename_i ho; rw [hs _ _ _ ho]; exact h
       · simp at h)
theorem nil_mono (hs : Sub K H) {c : C} {b : Bool} (h : K.nil? c = some b) : H.nil? c = some b := by
  unfold Heap.nil? at h ⊢
  split at h
  · exact h
  · split at h
    · rename_i ho; rw [at_mono hs ho]; exact h
    · simp at h
theorem data_mono (hs : Sub K H) {c : C} {x} (h : K.data c = some x) : H.data c = some x := by
  cases c <;> simp only [Heap.data] at h ⊢ <;> first
    | exact h
    | (split at h
       · rename_i ho; rw [hs _ _ _ ho]; exact h
       · simp at h)
theorem plain_mono (hs : Sub K H) {c : C} {x} (h : K.plain c = some x) : H.plain c = some x := by
  cases c <;> simp only [Heap.plain] at h ⊢ <;> first
    | exact h
    | (split at h
       · rename_i ho; rw [hs _ _ _ ho]; exact h
       · simp at h)
theorem plainF_mono : ∀ {fs : List Fld} {K H : Heap} {x}, Sub K H → K.plainF fs = some x → H.plainF fs = some x
  | [], K, H, x, hs, h => by simpa [Heap.plainF] using h
  | .c c :: r, K, H, x, hs, h => by
    simp only [Heap.plainF] at h ⊢
    split at h
    · rename_i x' U h1
      rw [plain_mono hs h1]
      simp only
      split at h
      · rename_i r' V h2
        rw [plainF_mono (hs.append U) h2]
        exact h
      · simp at h
    · simp at h
  | .a n t xs :: r, K, H, x, hs, h => by
    simp only [Heap.plainF] at h ⊢
    split at h
    · rename_i r' V h2
      rw [plainF_mono hs h2]
      exact h
    · simp at h
theorem store_mono (hs : Sub K H) {c : C} {n : Nat} {new : List Fld} {x} (h : K.store c n new = some x) : H.store c n new = some x := by
  cases c <;> simp only [Heap.store] at h ⊢ <;> first
    | exact h
    | (split at h
       · rename_i ho; rw [hs _ _ _ ho]; exact h
       · simp at h; done)
    | (split at h
       · rename_i new' U h1
         rw [plainF_mono hs h1]
         simp only
         split at h
         · rename_i ho; rw [hs.append U _ _ _ ho]; exact h
         · simp at h
       · simp at h)
theorem eqV_mono (hs : Sub K H) {T : TypeId} {op : BinOp} {a b : C} {r : Bool} (h : eqV P K T op a b = some r) : eqV P H T op a b = some r := by
  unfold eqV at h ⊢
  split at h
  · exact h
  · rename_i e hu
    split at h
    · rename_i h1 h2; rw [nil_mono hs h1, nil_mono hs h2]; exact h
    · rename_i h1 h2; rw [nil_mono hs h1, nil_mono hs h2]; exact h
    · simp at h
  · exact h
  · simp at h
theorem indexAddrV_mono (hs : Sub K H) {T : TypeId} {c : C} {i : Int} {x} (h : indexAddrV P T K c i = some x) : indexAddrV P T H c i = some x := by
  unfold indexAddrV at h ⊢
  split at h
  · rename_i hu
    cases c <;> simp only at h ⊢ <;> first
      | exact h
      | (split at h
         · rename_i ho; rw [hs _ _ _ ho]; exact h
         · simp at h)
  · rename_i hu
    cases c <;> simp only at h ⊢ <;> first
      | exact h
      | (split at h
         · rename_i ho; rw [hs _ _ _ ho]; exact h
         · simp at h)
  · simp at h
theorem sliceV_mono (hs : Sub K H) {T : TypeId} {c : C} {lo hi : Option Int} {x} (h : sliceV P T K c lo hi = some x) : sliceV P T H c lo hi = some x := by
  cases c with
  | str s => exact h
  | _ =>
    simp only [sliceV] at h ⊢
    split at h
    · rename_i hu
      first
        | exact h
        | (split at h
           · rename_i ho; rw [hs _ _ _ ho]; exact h
           · simp at h)
    · rename_i hu
      first
        | exact h
        | (split at h
           · rename_i ho; rw [hs _ _ _ ho]; exact h
           · simp at h)
    · simp at h
theorem lenV_mono (hs : Sub K H) {T : TypeId} {a : AV} {n : Int} (h : lenV P T K a = some n) : lenV P T H a = some n := by
  unfold lenV at h ⊢
  split at h
  · exact h
  · exact h
  · rename_i hu
    cases a with
    | agg fs => exact h
    | one c =>
      cases c <;> simp only at h ⊢ <;> first
        | exact h
        | (split at h
           · rename_i ho; rw [hs _ _ _ ho]; exact h
           · simp at h)
  · simp at h
theorem srcData_mono (hs : Sub K H) {t : Ty} {c : C} {x} (h : srcData K t c = some x) : srcData H t c = some x := by
  cases c <;> simp only [srcData] at h ⊢ <;> first
    | exact h
    | (split at h
       · rename_i h1; rw [data_mono hs h1]; exact h
       · simp at h)
theorem appendV_mono (hs : Sub K H) (hv : K.ver dst = H.ver dst) {t : Ty} {bytes : Nat} {c : C} {ys : List t.T} {x} (h : appendV K dst t bytes c ys = some x) : appendV H dst t bytes c ys = some x := by
  cases c <;> simp only [appendV] at h ⊢ <;> first
    | (rw [← hv]; exact h)
    | exact h
    | (split at h
       · rename_i ho; rw [hs _ _ _ ho]; exact h
       · simp at h)
theorem opV_mono (hs : Sub K H) (hv : K.ver dst = H.ver dst) {op : Op} {x : List Bool × AV × Heap} (h : opV P dst ev K op = some x) : opV P dst ev H op = some x := by
  cases op with
  | load T a =>
    simp only [opV] at h ⊢
    split at h
    · rename_i c h1
      split at h
      · rename_i h2; rw [at_mono hs h2]; exact h
      · simp at h
    · simp at h
  | store T a y =>
    simp only [opV] at h ⊢
    split at h
    · rename_i c b h1 h2
      cases hk : b.known with
      | false => simp [hk] at h
      | true =>
        simp only [hk, cond_true] at h ⊢
        split at h
        · rename_i n h3
          split at h
          · rename_i h4; rw [store_mono hs h4]; exact h
          · simp at h
        · simp at h
    · simp at h
  | nilCheck y =>
    simp only [opV] at h ⊢
    split at h
    · rename_i h1; exact h
    · rename_i c hc h1
      split at h
      · rename_i h2
        rw [at_mono hs h2]; exact h
      · simp at h
    · simp at h
  | binOp op T a b T2 =>
    simp only [opV] at h ⊢
    split at h
    · rename_i c d h1 h2
      split at h
      · rename_i h3; exact h
      · rename_i h3
        split at h
        · rename_i h4; rw [eqV_mono hs h4]; exact h
        · simp at h
    · simp at h
  | convert S T a =>
    simp only [opV] at h ⊢
    split at h
    · rename_i h1 h2 h3; exact h
    · rename_i h1 h2 h3; exact h
    · rename_i h1 h2 h3; exact h
    · rename_i h1 h2 h3
      split at h
      · rename_i t xs h4; rw [hs _ _ _ h4]; exact h
      · simp at h
    · rename_i e c h00 h0 h1 h2 h3
      split at h
      · rename_i xs h4 h5
        have h5' := srcData_mono hs h5
        cases c <;> simp_all
      · simp at h
    · rename_i h1 h2 h3; rw [← hv]; exact h
    · simp at h
  | slice T a lo hi m =>
    cases m with
    | some m => simp [opV] at h
    | none =>
      simp only [opV] at h ⊢
      split at h
      · rename_i h1 h2 h3
        split at h
        · rename_i h4; rw [sliceV_mono hs h4]; exact h
        · simp at h
      · simp at h
  | fieldAddr S a f =>
    simp only [opV] at h ⊢
    split at h
    · rename_i h1 h2
      split at h
      · rename_i h3; rw [at_mono hs h3]; exact h
      · simp at h
    · simp at h
  | indexAddr T a i =>
    simp only [opV] at h ⊢
    split at h
    · rename_i h1 h2
      split at h
      · rename_i h3; rw [indexAddrV_mono hs h3]; exact h
      · simp at h
    · simp at h
  | call c =>
    obtain ⟨callee, args, argTypes⟩ := c
    cases callee with
    | builtin b =>
      cases b with
      | len =>
        simp only [opV] at h ⊢
        split at h
        · rename_i h1 h2
          split at h
          · rename_i h3
            split at h
            · rename_i h4; rw [lenV_mono hs h4]; exact h
            · simp at h
          · simp at h
        · simp at h
      | append =>
        simp only [opV] at h ⊢
        split at h
        · rename_i h1 h2
          split at h
          · rename_i h3 h4 h5 h6
            split at h
            · rename_i h7
              split at h
              · rename_i h8
                rw [srcData_mono hs h8]
                exact appendV_mono hs hv h
              · simp at h
            · simp at h
          · simp at h
        · simp at h
      | _ => exact h
    | _ => exact h
  | alloc T => simp only [opV, ← hv] at h ⊢; exact h
  | box T a => simp only [opV, ← hv] at h ⊢; exact h
  | buildSlice T n l => simp only [opV, ← hv] at h ⊢; exact h
  | makeSlice T l c => simp only [opV, ← hv] at h ⊢; exact h
  | range T a => simp only [opV, ← hv] at h ⊢; exact h
  | makeFunc f a b => cases f <;> exact h
  | _ => exact h
theorem op1_mono (hs : Sub K H) {o : Oper} {base : Nat} (hv : K.ver (base + o.dst.getD 999) = H.ver (base + o.dst.getD 999)) {t : List (Nat × TV)} {x} (h : op1 P o base t K = some x) : op1 P o base t H = some x := by
  unfold op1 at h ⊢
  split at h
  · exact h
  · exact h
  · split at h
    · rename_i h1; rw [opV_mono hs hv h1]; exact h
    · simp at h
theorem lk_restrict : ∀ {R : List Nat} {i : Nat}, lk (restrict H R) i = if i ∈ R then lk H i else none
  | [], i => by simp [restrict, lk]
  | j :: r, i => by
    simp only [restrict]
    split
    · rename_i v o h1
      rw [lk_cons]
      by_cases e : j = i
      · subst e; simp [h1]
      · have : i ≠ j := fun h => e h.symm
        simp [e, this, lk_restrict (R := r)]
    · rename_i h1
      rw [lk_restrict (R := r)]
      by_cases e : i = j
      · subst e; simp [h1]
      · simp [e]
theorem sub_restrict {R : List Nat} : Sub (restrict H R) H := by
  intro i v o h
  have := obj_lk h
  rw [lk_restrict] at this
  split at this
  · exact lk_obj this
  · simp at this
theorem ver_restrict {R : List Nat} {i : Nat} (h : i ∈ R) : (restrict H R).ver i = H.ver i := by
  unfold Heap.ver
  rw [lk_restrict, if_pos h]
theorem restrict_congr {R : List Nat} (h : ∀ i ∈ R, lk K i = lk H i) : restrict K R = restrict H R := by
  induction R with
  | nil => rfl
  | cons i r ih =>
    simp only [restrict]
    rw [h i (by simp), ih fun j hj => h j (by simp [hj])]
theorem lookT_congr {t t' : List (Nat × TV)} : ∀ {ds : List Nat}, (∀ d ∈ ds, lk t d = lk t' d) → lookT t ds = lookT t' ds
  | [], _ => rfl
  | d :: r, h => by
    simp only [lookT]
    rw [h d (by simp), lookT_congr fun e he => h e (by simp [he])]
end
end Go.Ab

/- One operation, where the machine stands before it: what is looked at is enough. -/
set_option linter.unusedVariables false
set_option linter.unusedSimpArgs false
namespace Go.Ab
open Go

section
variable {P : Program} {w0 : World} {S0 ok0 : Nat → Prop} {X X' : Cx} {H H' : Heap} {w w' : World} {n base : Nat} {t t' : List (Nat × TV)} {tmps : Array Value} {ops : Array Oper} {o : Oper} {i : Nat} {cs : List Bool} {v : TV} {U : Heap} {fp : FP}

/-- What is known of the temporaries holds of them. -/
def TLk (X : Cx) (H : Heap) (w : World) (t : List (Nat × TV)) (tmps : Array Value) : Prop := ∀ i v, lk t i = some v → TVRel X H w v (tmps.getD i undef)
def TRel (X : Cx) (H : Heap) (w : World) (n : Nat) (t : List (Nat × TV)) (tmps : Array Value) : Prop := tmps.size = n ∧ (∀ i v, lk t i = some v → i < n) ∧ TLk X H w t tmps
theorem TLk.ext (E : Ext X H w X' H' w') (h : TLk X H w t tmps) : TLk X' H' w' t tmps := fun i v hi => (h i v hi).ext E
theorem TRel.ext (E : Ext X H w X' H' w') (h : TRel X H w n t tmps) : TRel X' H' w' n t tmps := ⟨h.1, h.2.1, h.2.2.ext E⟩
theorem TLk.av (h : TLk X H w t tmps) (i : Nat) : AVRel X H w (tmpAV t i) (tmps.getD i undef) := by
  unfold tmpAV
  split
  · rename_i x hx; exact h i _ hx
  · trivial
theorem TLk.ev (h : TLk X H w t tmps) (ds : List Deferred) : EvOk X H w (evT t) (Act.eval ⟨tmps, ds.toArray.toList⟩) := by
  intro x a hx
  cases x with
  | tmp i => simp [evT] at hx; subst hx; exact h.av i
  | const v =>
    simp only [evT, Option.map_eq_some_iff] at hx
    obtain ⟨c, hc, rfl⟩ := hx
    exact ofConst_sound hc
  | func f => simp [evT] at hx; subst hx; exact ⟨#[], rfl, rfl, by simp⟩
  | global g => simp [evT] at hx
theorem lookT_lk : ∀ {ds : List Nat} {i : Nat} {v : TV}, lk (lookT t ds) i = some v → lk t i = some v
  | [], i, v, h => by simp [lookT, lk] at h
  | d :: r, i, v, h => by
    simp only [lookT] at h
    split at h
    · rename_i u hu
      rw [lk_cons] at h
      by_cases e : d = i
      · subst e; simp at h; subst h; exact hu
      · simp [e] at h; exact lookT_lk h
    · exact lookT_lk h
theorem lookT_some : ∀ {ds : List Nat} {i : Nat}, i ∈ ds → lk (lookT t ds) i = lk t i
  | d :: r, i, h => by
    simp only [lookT]
    by_cases e : d = i
    · subst e
      split
      · rename_i u hu; rw [lk_cons]; simp [hu]
      · rename_i hu
        by_cases h2 : d ∈ r
        · exact lookT_some h2
        · cases h3 : lk (lookT t r) d with
          | none => rw [hu]
          | some v => exact (lookT_lk h3).symm
    · have h2 : i ∈ r := by
        rcases List.mem_cons.1 h with h | h
        · exact absurd h.symm e
        · exact h
      split
      · rw [lk_cons]; simp [e]; exact lookT_some h2
      · exact lookT_some h2
theorem TLk.look (h : TLk X H w t tmps) (ds : List Nat) : TLk X H w (lookT t ds) tmps := fun i v hi => h i v (lookT_lk hi)

theorem run_extract {ρ : Operand → Value} {x : Operand} {k : Nat} {vs : Array Value} {u : Value} (hop : o.op = .extract x k) (he : ρ x = .tuple vs) (hu : vs[k]? = some u) : (execOp ρ o).run P w = .ok (.value u) w := by
  simp [execOp, hop, he, Instr.extract, hu]
theorem AVsRel.get : ∀ {l : List AV} {vs : List Value} {k : Nat} {a : AV}, AVsRel X H w l vs → l[k]? = some a → ∃ u, vs[k]? = some u ∧ AVRel X H w a u
  | [], _, k, a, _, h => by simp at h
  | b :: r, _, 0, a, ⟨v, us, h1, h2, h3⟩, h => by simp at h; subst h; subst h1; exact ⟨v, rfl, h2⟩
  | b :: r, _, k + 1, a, ⟨v, us, h1, h2, h3⟩, h => by
    simp at h; subst h1
    obtain ⟨u, h4, h5⟩ := AVsRel.get h3 h
    exact ⟨u, by simpa using h4, h5⟩
theorem AVsRel.length : ∀ {l : List AV} {vs : List Value}, AVsRel X H w l vs → vs.length = l.length
  | [], _, h => by rw [show _ = _ from h]; rfl
  | a :: r, _, ⟨v, us, h1, h2, h3⟩ => by subst h1; simp [AVsRel.length h3]

/-- What comes of one operation. -/
def Out1 (P : Program) (w0 : World) (S0 ok0 : Nat → Prop) (X : Cx) (H : Heap) (w : World) (ρ : Operand → Value) (o : Oper) (v : TV) (U : Heap) : Prop :=
  ∃ val w' X', ((execOp ρ o).run P w = .ok (.value val) w' ∨ ((execOp ρ o).run P w = .ok .skip w' ∧ val = undef)) ∧ Ext X H w X' (U ++ H) w' ∧ Inv w0 S0 ok0 X' (U ++ H) w' ∧ TVRel X' (U ++ H) w' v val
theorem op1_sound (I : Inv w0 S0 ok0 X H w) {ds : List Deferred} (hT : TLk X H w t tmps) (h : op1 P o base t H = some (cs, v, U)) (hc : ∀ c ∈ cs, c = true) : Out1 P w0 S0 ok0 X H w (Act.eval ⟨tmps, ds⟩) o v U := by
  have E : EvOk X H w (evT t) (Act.eval ⟨tmps, ds⟩) := by simpa using hT.ev ds
  unfold op1 at h
  split at h
  · rename_i x k hop
    split at h
    · rename_i l hl
      split at h
      · rename_i a ha
        simp at h
        obtain ⟨rfl, rfl, rfl⟩ := h
        obtain ⟨vs, he, h1⟩ := hT x _ hl
        obtain ⟨u, h2, h3⟩ := h1.get ha
        exact ⟨u, w, X, .inl (run_extract hop (vs := vs) (by simpa [Act.eval] using he) (by simpa using h2)), Ext.refl .., I, h3⟩
      · simp at h
    · simp at h
  · rename_i x hop
    split at h
    · rename_i v' hl
      simp at h
      obtain ⟨rfl, rfl, rfl⟩ := h
      exact ⟨tmps.getD x undef, w, X, .inl (by simp [execOp, hop, Act.eval]), Ext.refl .., I, hT x _ hl⟩
    · simp at h
  · split at h
    · rename_i cs' v' U' h1
      simp at h
      obtain ⟨rfl, rfl, rfl⟩ := h
      exact opV_sound I E h1 hc
    · simp at h
theorem inL_iff {i : Nat} : ∀ {l : List Nat}, inL i l = true ↔ i ∈ l
  | [] => by simp [inL]
  | j :: r => by
    simp only [inL]
    by_cases e : i = j
    · subst e; simp
    · simp [nbeq e, e, inL_iff (l := r)]
theorem opR_spec (h : opR P ops i o base t H = some (cs, v, U, fp)) : fp = ⟨i, looksOf ops o, idsOf base o (lookT t (looksOf ops o)), U.map (·.1)⟩ ∧
    op1 P o base (lookT t (looksOf ops o)) (restrict H (idsOf base o (lookT t (looksOf ops o)))) = some (cs, v, U) ∧ ∀ e ∈ U, e.1 ∈ idsOf base o (lookT t (looksOf ops o)) := by
  simp only [opR] at h
  split at h
  · rename_i cs' v' U' h1
    cases hU : U'.all (fun e => inL e.1 (idsOf base o (lookT t (looksOf ops o)))) with
    | false => simp [hU] at h
    | true =>
      simp only [hU, cond_true, Option.some.injEq, Prod.mk.injEq] at h
      obtain ⟨rfl, rfl, rfl, rfl⟩ := h
      exact ⟨rfl, h1, fun e he => inL_iff.1 (List.all_eq_true.1 hU e he)⟩
  · simp at h
end
end Go.Ab

/- Operations one behind the other: each with what it looks at and what it turns. -/
set_option linter.unusedVariables false
set_option linter.unusedSimpArgs false
namespace Go.Ab
open Go

structure El where
  i : Nat
  o : Oper
  looks : List Nat
  ids : List Nat
  t0 : List (Nat × TV)
  H0 : Heap
  v : TV
  U : Heap
def Agree (e : El) (t : List (Nat × TV)) (H : Heap) : Prop := (∀ d ∈ e.looks, lk t d = lk e.t0 d) ∧ ∀ i ∈ e.ids, lk H i = lk e.H0 i
structure Good (P : Program) (ops : Array Oper) (n : Nat) (w0 : World) (S0 ok0 : Nat → Prop) (e : El) : Prop where
  at_ : ops[e.i]? = some e.o
  ids : ∀ x ∈ e.U, x.1 ∈ e.ids
  run : ∀ X H w t tmps, Agree e t H → TRel X H w n t tmps → Inv w0 S0 ok0 X H w → ∀ (b : Frame) dfs rest k cs, ∃ val w' X',
    Steps P (lone (b.at ⟨tmps, dfs⟩ (.inRegion ops (e.i :: rest) :: k)) cs w) (lone (b.at (Act.put ⟨tmps, dfs⟩ e.o.dst val) (.inRegion ops rest :: k)) cs w') ∧
    Ext X H w X' (e.U ++ H) w' ∧ Inv w0 S0 ok0 X' (e.U ++ H) w' ∧ TVRel X' (e.U ++ H) w' e.v val
def Chain (n : Nat) : List El → List (Nat × TV) → Heap → List (Nat × TV) → Heap → Prop
  | [], t, H, t', H' => (∀ d, lk t d = lk t' d) ∧ ∀ i, lk H i = lk H' i
  | e :: l, t, H, t', H' => Agree e t H ∧ Chain n l (putT n t e.o.dst e.v) (e.U ++ H) t' H'

section
variable {P : Program} {w0 : World} {S0 ok0 : Nat → Prop} {X X' : Cx} {H H' K : Heap} {w w' : World} {n base : Nat} {t t' s : List (Nat × TV)} {tmps : Array Value} {ops : Array Oper} {o : Oper} {i : Nat} {cs : List Bool} {v : TV} {U : Heap} {fp : FP}

/-! ### Heaps that tell the same -/
theorem obj_congr (h : ∀ i, lk H i = lk K i) (i r : Nat) : H.obj i r = K.obj i r := by unfold Heap.obj; rw [h]
theorem ver_congr (h : ∀ i, lk H i = lk K i) (i : Nat) : H.ver i = K.ver i := by unfold Heap.ver; rw [h]
theorem Ext.of_eq (h : ∀ i, lk H i = lk K i) : Ext X H w X K w where
  ok B hB := ⟨hB, rfl⟩
  ver i := by rw [ver_congr h]; exact Nat.le_refl _
  ref i r o' ho hd _ := ⟨o', by rw [obj_congr h]; exact ho, by cases o' <;> simp_all [OSim, FsSim.refl], rfl⟩
theorem Inv.congr (h : ∀ i, lk H i = lk K i) (I : Inv w0 S0 ok0 X H w) : Inv w0 S0 ok0 X K w where
  objs i r o ho := (I.objs i r o (by rw [h]; exact ho)).ext (Ext.of_eq h) rfl fun _ _ _ _ => rfl
  sep i r o B c ho hd hB := by
    obtain ⟨h1, h2, h3⟩ := I.sep i r o B c (by rw [h]; exact ho) hd hB
    exact ⟨h1, h2, fun j r' o' c' hj => h3 j r' o' c' (by rw [h]; exact hj)⟩
  okb := I.okb
  frm := I.frm
  size := I.size
  os := I.os
  tape := I.tape
  output := I.output
theorem Inv.drew (I : Inv w0 S0 ok0 X H w) (d : Nat) : Inv w0 S0 ok0 X H { w with drawn := d } := by
  have E : Ext X H w X H { w with drawn := d } := ⟨fun B hB => ⟨hB, rfl⟩, fun i => Nat.le_refl _, fun i r o' h hd _ => ⟨o', h, by cases o' <;> simp_all [OSim, FsSim.refl], rfl⟩⟩
  exact ⟨fun i r o ho => (I.objs i r o ho).ext E rfl fun _ _ _ _ => rfl, I.sep, I.okb, I.frm, I.size, I.os, I.tape, I.output⟩
theorem Ext.drew (d : Nat) : Ext X H w X H { w with drawn := d } := ⟨fun B hB => ⟨hB, rfl⟩, fun i => Nat.le_refl _, fun i r o' h hd _ => ⟨o', h, by cases o' <;> simp_all [OSim, FsSim.refl], rfl⟩⟩

/-! ### Temporaries -/
theorem lk_putT {dst : Option Nat} {j : Nat} : lk (putT n t dst v) j = match dst with
    | some d => if d = j ∧ d < n then some v else lk t j
    | none => lk t j := by
  unfold putT
  cases dst with
  | none => rfl
  | some d =>
    cases hb : Nat.blt d n with
    | true =>
      have hd : d < n := by simpa [Nat.blt_eq] using hb
      simp only [hb, cond_true]
      simp [lk_cons, hd]
    | false =>
      have hd : ¬ d < n := by
        intro h
        rw [← Nat.blt_eq, hb] at h
        cases h
      simp only [hb, cond_false]
      simp [hd]
theorem TRel.put (h : TRel X H w n t tmps) {dst : Option Nat} {val : Value} (hv : TVRel X H w v val) (dfs : List Deferred) : TRel X H w n (putT n t dst v) (Act.put ⟨tmps, dfs⟩ dst val).tmps := by
  obtain ⟨h1, h2, h3⟩ := h
  cases dst with
  | none => exact ⟨h1, h2, h3⟩
  | some d =>
    refine ⟨by simp [Act.put, h1], fun j u hj => ?_, fun j u hj => ?_⟩
    · rw [lk_putT] at hj
      simp only at hj
      split at hj
      · omega
      · exact h2 j u hj
    · rw [lk_putT] at hj
      simp only at hj
      simp only [Act.put]
      split at hj
      · rename_i hd
        obtain ⟨rfl, hd⟩ := hd
        simp at hj; subst hj
        have : d < tmps.size := by omega
        simpa [Array.getD_eq_getD_getElem?, Array.getElem?_setIfInBounds, this] using hv
      · rename_i hd
        by_cases e : d = j
        · subst e
          have : ¬ d < n := fun h => hd ⟨rfl, h⟩
          have hlt := h2 d u hj
          exact absurd hlt this
        · have := h3 j u hj
          simpa [Array.getD_eq_getD_getElem?, Array.getElem?_setIfInBounds_ne e] using this
def Wk (s t : List (Nat × TV)) : Prop := ∀ d v', lk t d = some v' → ∃ v, lk s d = some v ∧ ∀ X H w val, TVRel X H w v val → TVRel X H w v' val
theorem Wk.refl (t : List (Nat × TV)) : Wk t t := fun d v h => ⟨v, h, fun _ _ _ _ h => h⟩
theorem Wk.trans {a b c : List (Nat × TV)} (h : Wk a b) (k : Wk b c) : Wk a c := fun d v hv => by
  obtain ⟨u, h1, h2⟩ := k d v hv
  obtain ⟨x, h3, h4⟩ := h d u h1
  exact ⟨x, h3, fun X H w val hh => h2 _ _ _ _ (h4 _ _ _ _ hh)⟩
theorem cutG_append {ops : Array Oper} : ∀ l : List Nat, (cutG ops l).1 ++ (cutG ops l).2 = l
  | [] => rfl
  | i :: r => by
    simp only [cutG]
    cases callFree ops i with
    | false => rfl
    | true =>
      cases isGuard ops i with
      | true => rfl
      | false => simp [cutG_append r]
theorem cutSeg_append {ops : Array Oper} (l : List Nat) : (cutSeg ops l).1 ++ (cutSeg ops l).2 = l := by
  unfold cutSeg
  cases l.all (callFree ops) with
  | true => simp
  | false => exact cutG_append l
theorem contG_some {R : Type} {ops : Array Oper} {l rest : List Nat} {t : List (Nat × TV)} {k : List (Nat × TV) → Option R} {r : R} (h : contG (splitT ops l rest t) t k = some r) :
    ∃ t', k t' = some r ∧ Wk t t' := by
  cases hs : splitT ops l rest t with
  | none => rw [hs] at h; exact ⟨t, h, Wk.refl t⟩
  | some x =>
    obtain ⟨d, g⟩ := x
    rw [hs] at h
    have hl : lk t d = some (.v (.one (.bool g))) := by
      unfold splitT at hs
      split at hs
      · split at hs
        · split at hs
          · rename_i g' hl
            cases hq : isGuard ops _ with
            | false => rw [hq] at hs; simp at hs
            | true => rw [hq] at hs; simp at hs; obtain ⟨rfl, rfl⟩ := hs; exact hl
          · simp at hs
        · simp at hs
      · simp at hs
    have hw : Wk t ((d, .v (.one (.kb g))) :: t) := fun j u hj => by
      rw [lk_cons] at hj
      by_cases e : d = j
      · subst e
        simp at hj; subst hj
        exact ⟨_, hl, fun _ _ _ _ hh => hh⟩
      · rw [if_neg e] at hj
        exact ⟨u, hj, fun _ _ _ _ hh => hh⟩
    cases g with
    | true => exact ⟨_, h, hw⟩
    | false => exact ⟨_, h, hw⟩
theorem Wk.put (h : Wk s t) (dst : Option Nat) (v : TV) : Wk (putT n s dst v) (putT n t dst v) := by
  intro d u hu
  rw [lk_putT] at hu
  rw [lk_putT]
  cases dst with
  | none => exact h d u hu
  | some e =>
    simp only at hu ⊢
    split at hu
    · rename_i hd
      rw [if_pos hd]
      exact ⟨v, rfl, fun _ _ _ _ hh => by simp at hu; subst hu; exact hh⟩
    · rename_i hd
      rw [if_neg hd]
      exact h d u hu
theorem TRel.wk (h : TRel X H w n s tmps) (k : Wk s t) : TRel X H w n t tmps :=
  ⟨h.1, fun i v hi => by obtain ⟨u, h1, _⟩ := k i v hi; exact h.2.1 i u h1, fun i v hi => by obtain ⟨u, h1, h2⟩ := k i v hi; exact h2 _ _ _ _ (h.2.2 i u h1)⟩
theorem TRel.congr (h : TRel X H w n s tmps) (k : ∀ d, lk s d = lk t d) : TRel X H w n t tmps :=
  h.wk fun d v hv => ⟨v, by rw [k]; exact hv, fun _ _ _ _ hh => hh⟩

/-! ### Guards -/
theorem guard_gen {b : Bool} (h : guardOf ops t o = .kn b) (ht : ∀ d, (∃ j want, o.guard = some (j, want) ∧ (ops[j]?).bind (·.dst) = some d) → ∀ u, lk t d = some u → d < tmps.size ∧ ∃ X H w, TVRel X H w u (tmps.getD d undef)) :
    Region.wanted o (yielded ops tmps) = b := by
  unfold guardOf at h
  unfold Region.wanted
  split at h
  · simp at h
  · rename_i j want hg
    rw [hg]
    simp only
    split at h
    · rename_i d hd
      have get : ∀ {u : TV}, lk t d = some u → ∃ val, tmps[d]? = some val ∧ ∃ X H w, TVRel X H w u val := fun {u} hu => by
        obtain ⟨hlt, X, H, w, h1⟩ := ht d ⟨j, want, hg, hd⟩ u hu
        refine ⟨tmps.getD d undef, ?_, X, H, w, h1⟩
        rw [Array.getD_eq_getD_getElem?]
        simp [hlt]
      unfold yielded
      rw [hd]
      split at h
      · rename_i c hx
        simp at h
        obtain ⟨val, h1, X, H, w, h2⟩ := get hx
        have h2 : val = .bool c := h2
        subst h2
        simp only [Option.bind_some, h1]
        subst h
        cases want <;> cases c <;> rfl
      · rename_i hx
        simp at h
        obtain ⟨val, h1, X, H, w, vs, h2, _⟩ := get hx
        subst h2
        simp only [Option.bind_some, h1]
        subst h
        rfl
      · simp at h
    · simp at h
theorem guard_wanted {s : List (Nat × TV)} (hT : TLk X H w s tmps) (hk : Wk s t) (hs : tmps.size = n) (hl : ∀ i v, lk s i = some v → i < n) {b : Bool} (h : guardOf ops t o = .kn b) : Region.wanted o (yielded ops tmps) = b :=
  guard_gen h fun d _ u hu => by
    obtain ⟨x, h1, h2⟩ := hk d u hu
    exact ⟨by rw [hs]; exact hl d x h1, X, H, w, h2 _ _ _ _ (hT d x h1)⟩
theorem guard_yes {t : List (Nat × TV)} (h : guardOf ops t o = .yes) : Region.wanted o (yielded ops tmps) = true := by
  unfold guardOf at h
  unfold Region.wanted
  split at h
  · rename_i hg; rw [hg]
  · split at h
    · split at h <;> simp at h
    · simp at h

theorem step_op {b : Frame} {a : Act} {rest : List Nat} {k : List Item} {cs' : List Frame} (ho : ops[i]? = some o) (hw : Region.wanted o (yielded ops a.tmps) = true) {val : Value}
    (hr : (execOp a.eval o).run P w = .ok (.value val) w' ∨ ((execOp a.eval o).run P w = .ok .skip w' ∧ val = undef)) :
    Steps P (lone (b.at a (.inRegion ops (i :: rest) :: k)) cs' w) (lone (b.at (a.put o.dst val) (.inRegion ops rest :: k)) cs' w') := by
  have hg := stepG_op (P := P) (b := b) (k := k) (cs := cs') (w := w) (rest := rest) ho hw
  have hfin : ∀ v, (b.at a (.inRegion ops (i :: rest) :: k)).finish v = b.at (a.put o.dst v) (.inRegion ops rest :: k) := by
    intro v; rw [Frame.finish_at, ho]; rfl
  refine .one (step_lone_go ?_)
  rcases hr with hr | ⟨hr, rfl⟩
  · rw [hg, ← hfin]; simp [stepG.apply, hr]
  · rw [hg, ← hfin]; simp [stepG.apply, hr]

/-- What a guard asks is looked at. -/
theorem guard_looks (hds : ∀ d, (∃ j want, o.guard = some (j, want) ∧ (ops[j]?).bind (·.dst) = some d) → lk s d = lk t d) : guardOf ops s o = guardOf ops t o := by
  unfold guardOf
  split
  · rfl
  · rename_i j want hg
    split
    · rename_i d hd
      have := hds d ⟨j, want, hg, hd⟩
      skip
      rw [this]
    · rfl
theorem guard_in_looks {d : Nat} (h : ∃ j want, o.guard = some (j, want) ∧ (ops[j]?).bind (·.dst) = some d) : d ∈ looksOf ops o := by
  obtain ⟨j, want, hg, hd⟩ := h
  unfold looksOf
  rw [hg]
  simp only [hd]
  exact List.mem_cons_self ..

theorem good_op (hr : opR P ops i o base t H = some (cs, v, U, fp)) (hc : ∀ c ∈ cs, c = true) (ho : ops[i]? = some o) (hg : guardOf ops t o = .yes ∨ guardOf ops t o = .kn true) (hk : Wk s t)
    {v' : TV} (hv : ∀ X H w val, TVRel X H w v val → TVRel X H w v' val) : Good P ops n w0 S0 ok0 ⟨i, o, fp.looks, fp.ids, s, H, v', U⟩ := by
  obtain ⟨hfp, h1, h2⟩ := opR_spec hr
  subst hfp
  refine ⟨ho, h2, fun X H' w t1 tmps hA hT I b dfs rest k cs' => ?_⟩
  obtain ⟨hA1, hA2⟩ := hA
  simp only at hA1 hA2
  have hTl : TLk X H' w (lookT t (looksOf ops o)) tmps := fun d u hd => by
    have hdl : d ∈ looksOf ops o := by
      have : ∀ {ds : List Nat}, lk (lookT t ds) d = some u → d ∈ ds := by
        intro ds
        induction ds with
        | nil => intro h; simp [lookT, lk] at h
        | cons e r ih =>
          intro h
          simp only [lookT] at h
          split at h
          · rw [lk_cons] at h
            by_cases e' : e = d
            · simp [e']
            · simp [e'] at h; simp [ih h]
          · simp [ih h]
      exact this hd
    obtain ⟨x, h3, h4⟩ := hk d u (lookT_lk hd)
    exact h4 _ _ _ _ (hT.2.2 d x (by rw [hA1 d hdl]; exact h3))
  have hres : restrict H' (idsOf base o (lookT t (looksOf ops o))) = restrict H (idsOf base o (lookT t (looksOf ops o))) := restrict_congr hA2
  rw [← hres] at h1
  have h5 := op1_mono sub_restrict (ver_restrict (by simp [idsOf])) h1
  obtain ⟨val, w', X', h6, h7, h8, h9⟩ := op1_sound (ds := dfs) I hTl h5 hc
  refine ⟨val, w', X', step_op ho ?_ h6, h7, h8, hv _ _ _ _ h9⟩
  -- the guard
  have hgt : ∀ d, (∃ j want, o.guard = some (j, want) ∧ (ops[j]?).bind (·.dst) = some d) → lk t1 d = lk s d := fun d hd => hA1 d (guard_in_looks hd)
  rcases hg with hg | hg
  · exact guard_yes hg
  · -- what s tells, t1 tells
    have hk1 : ∀ d, (∃ j want, o.guard = some (j, want) ∧ (ops[j]?).bind (·.dst) = some d) → ∀ u, lk t d = some u → ∃ x, lk t1 d = some x ∧ ∀ X H w val, TVRel X H w x val → TVRel X H w u val := fun d hd u hu => by
      obtain ⟨x, h3, h4⟩ := hk d u hu
      exact ⟨x, by rw [hgt d hd]; exact h3, h4⟩
    exact guard_gen hg fun d hd u hu => by
      obtain ⟨x, h3, h4⟩ := hk1 d hd u hu
      exact ⟨by rw [hT.1]; exact hT.2.1 d x h3, X, H', w, h4 _ _ _ _ (hT.2.2 d x h3)⟩
theorem good_skip (ho : ops[i]? = some o) (hg : guardOf ops t o = .kn false) (hk : Wk s t) : Good P ops n w0 S0 ok0 ⟨i, o, looksOf ops o, [], s, H, .tup [], []⟩ := by
  refine ⟨ho, by simp, fun X H' w t1 tmps hA hT I b dfs rest k cs' => ⟨undef, w, X, ?_, Ext.refl .., I, ⟨#[], rfl, rfl⟩⟩⟩
  have hw : Region.wanted o (yielded ops tmps) = false := guard_gen hg fun d hd u hu => by
    obtain ⟨x, h3, h4⟩ := hk d u hu
    have h10 : lk t1 d = some x := by rw [hA.1 d (guard_in_looks hd)]; exact h3
    exact ⟨by rw [hT.1]; exact hT.2.1 d x h10, X, H', w, h4 _ _ _ _ (hT.2.2 d x h10)⟩
  have hs := step_op_skip (P := P) (b := b) (a := ⟨tmps, dfs⟩) (k := k) (cs := cs') (w := w) (ops := ops) (i := i) (rest := rest) (by simp [ho]; simpa using hw)
  simp only [ho, Option.bind_some] at hs
  exact .one hs
end
end Go.Ab

/- Runs of operations, in the order of the text and in any order. -/
set_option linter.unusedVariables false
set_option linter.unusedSimpArgs false
namespace Go.Ab
open Go

section
variable {P : Program} {w0 : World} {S0 ok0 : Nat → Prop} {X X' : Cx} {H H' K : Heap} {w w' : World} {n base : Nat} {t t' s : List (Nat × TV)} {tmps : Array Value} {ops : Array Oper} {o : Oper} {i : Nat} {cs : List Bool} {v : TV} {U : Heap} {fp : FP}

theorem lk_app {α : Type} (a b : List (Nat × α)) (x : Nat) : lk (a ++ b) x = match lk a x with | some v => some v | none => lk b x := by
  induction a with
  | nil => simp [lk]
  | cons e a ih =>
    obtain ⟨i, v⟩ := e
    rw [List.cons_append, lk_cons, lk_cons]
    by_cases h : i = x
    · simp [h]
    · simp [h, ih]
theorem mergeTV_left {g : Bool} (hg : g = true) {a b : TV} {x : Value} (h : TVRel X H w a x) : TVRel X H w (mergeTV g a b) x := by
  unfold mergeTV
  split
  · exact mergeAV_left hg h
  · trivial
theorem mergeTV_right {g : Bool} (hg : g = false) {a b : TV} {x : Value} (h : TVRel X H w b x) : TVRel X H w (mergeTV g a b) x := by
  unfold mergeTV
  split
  · exact mergeAV_right hg h
  · trivial
theorem mergeT_spec {g : Bool} {r1 r2 b : List (Nat × TV)} : ∀ {n1 n2 t' : List (Nat × TV)} {k : Nat}, mergeT g k (n1 ++ r1) (n2 ++ r2) b = some t' → n1.length = k → n2.length = k →
    ∃ m, t' = m ++ b ∧ ∀ x, (∃ u1 u2, lk n1 x = some u1 ∧ lk n2 x = some u2 ∧ lk m x = some (mergeTV g u1 u2)) ∨ (lk n1 x = none ∧ lk n2 x = none ∧ lk m x = none)
  | [], n2, t', k, h, h1, h2 => by
    have h2 : n2 = [] := List.eq_nil_of_length_eq_zero (by simp at h1; omega)
    simp at h1
    subst h2
    rw [← h1] at h
    simp [mergeT] at h
    subst h
    exact ⟨[], rfl, fun x => .inr ⟨rfl, rfl, rfl⟩⟩
  | (i, a) :: n1, [], t', k, h, h1, h2 => by simp at h1 h2; omega
  | (i, a) :: n1, (j, c) :: n2, t', k, h, h1, h2 => by
    obtain ⟨k, rfl⟩ : ∃ k', k = k' + 1 := ⟨k - 1, by simp at h1; omega⟩
    simp only [List.cons_append, mergeT] at h
    by_cases e : i = j
    · subst e
      simp at h
      split at h
      · rename_i l h3
        simp at h; subst h
        obtain ⟨m, rfl, h4⟩ := mergeT_spec h3 (by simpa using h1) (by simpa using h2)
        refine ⟨(i, mergeTV g a c) :: m, rfl, fun x => ?_⟩
        simp only [lk_cons]
        by_cases e : i = x
        · simp [e]
        · simp [e]
          rcases h4 x with ⟨u1, u2, h5, h6, h7⟩ | h5
          · exact .inl ⟨u1, h5, u2, h6, h7⟩
          · exact .inr h5
      · simp at h
    · simp [nbeq e] at h

theorem seg_ext : ∀ {l : List Nat} {t : List (Nat × TV)} {H : Heap} {cs t' H' fs}, seg P ops base n l t H = some (cs, t', H', fs) → (∃ new, t' = new ++ t) ∧ ∃ V, H' = V ++ H
  | [], t, H, cs, t', H', fs, h => by simp [seg] at h; obtain ⟨_, rfl, rfl, _⟩ := h; exact ⟨⟨[], rfl⟩, [], rfl⟩
  | i :: r, t, H, cs, t', H', fs, h => by
    have hp : ∀ (t : List (Nat × TV)) dst v, ∃ new, putT n t dst v = new ++ t := fun t dst v => by
      unfold putT
      cases dst with
      | none => exact ⟨[], rfl⟩
      | some d => cases hb : Nat.blt d n <;> simp only [hb, cond_true, cond_false] <;> first | exact ⟨[], rfl⟩ | exact ⟨[(d, v)], rfl⟩
    simp only [seg, segStep] at h
    split at h
    · simp at h
    · rename_i o ho
      split at h
      · simp at h
      · split at h
        · rename_i h1
          simp at h; obtain ⟨_, rfl, rfl, _⟩ := h
          obtain ⟨⟨new, e⟩, h2⟩ := seg_ext h1
          obtain ⟨m, e2⟩ := hp t o.dst (.tup [])
          exact ⟨⟨new ++ m, by rw [e, e2, List.append_assoc]⟩, h2⟩
        · simp at h
      · split at h
        · rename_i cs1 v U fp hr
          split at h
          · rename_i g d hg hd
            cases hb : Nat.blt d n with
            | false => simp [hb] at h
            | true =>
              simp only [hb, cond_true] at h
              split at h
              · rename_i c1 t1 H1 f1 c2 t2 H2 f2 h1 h2
                split at h
                all_goals first
                  | (cases hq : (Nat.beq H1.length (U ++ H).length && (Nat.beq H2.length (U ++ H).length && Nat.beq t1.length t2.length)) <;> simp [hq] at h; done)
                  | skip
                all_goals (
                  cases hq : (Nat.beq H1.length (U ++ H).length && (Nat.beq H2.length (U ++ H).length && Nat.beq t1.length t2.length)) with
                  | false => simp only [hq, cond_false] at h; cases h
                  | true =>
                    simp only [hq, cond_true] at h
                    rename_i tm hm
                    simp at h
                    obtain ⟨_, rfl, rfl, _⟩ := h
                    obtain ⟨⟨n1, e1⟩, _⟩ := seg_ext h1
                    obtain ⟨⟨n2, e2⟩, _⟩ := seg_ext h2
                    subst e1 e2
                    simp only [Bool.and_eq_true] at hq
                    have hl := Nat.eq_of_beq_eq_true hq.2.2
                    simp at hl
                    obtain ⟨m, rfl, _⟩ := mergeT_spec hm (by simp) (by simp; omega)
                    exact ⟨⟨m ++ [(d, v)], by simp⟩, U, rfl⟩)
              · simp at h
          · split at h
            · rename_i h1
              simp at h; obtain ⟨_, rfl, rfl, _⟩ := h
              obtain ⟨⟨new, e⟩, V, e3⟩ := seg_ext h1
              obtain ⟨m, e2⟩ := hp t o.dst v
              exact ⟨⟨new ++ m, by rw [e, e2, List.append_assoc]⟩, V ++ U, by rw [e3, List.append_assoc]⟩
            · simp at h
        · simp at h
theorem mergeCs_true {g : Bool} {a b : List Bool} (h : ∀ c ∈ mergeCs g a b, c = true) : (g = true → ∀ c ∈ a, c = true) ∧ (g = false → ∀ c ∈ b, c = true) := by
  have hall : ∀ {l : List Bool}, allB l = true → ∀ c ∈ l, c = true := by
    intro l
    induction l with
    | nil => simp
    | cons x r ih =>
      intro hx c hc
      cases r with
      | nil => simp [allB] at hx; simp at hc; rw [hc, hx]
      | cons y r =>
        simp only [allB, Bool.and_eq_true] at hx
        rcases List.mem_cons.1 hc with rfl | hc
        · exact hx.1
        · exact ih hx.2 c hc
  unfold mergeCs at h
  split at h
  · simp
  · simp at h
    refine ⟨fun hg => hall (by subst hg; simpa using h), fun hg => hall (by subst hg; simpa using h)⟩
def FPin (e : El) (fs : List FP) : Prop := ∃ f ∈ fs, f.i = e.i ∧ f.looks = e.looks ∧ f.ids = e.ids ∧ f.w = e.U.map (·.1)
theorem FPin.mono {e : El} {fs gs : List FP} (h : FPin e fs) (hs : ∀ f ∈ fs, f ∈ gs) : FPin e gs := by
  obtain ⟨f, h1, h2⟩ := h; exact ⟨f, hs f h1, h2⟩
theorem seg_chain : ∀ {l : List Nat} {t s : List (Nat × TV)} {H : Heap} {cs t' H' fs}, seg P ops base n l t H = some (cs, t', H', fs) → (∀ c ∈ cs, c = true) → Wk s t →
    ∃ es s', es.map El.i = l ∧ (∀ e ∈ es, (∀ w0 S0 ok0, Good P ops n w0 S0 ok0 e) ∧ FPin e fs) ∧ Chain n es s H s' H' ∧ Wk s' t'
  | [], t, s, H, cs, t', H', fs, h, hc, hk => by
    simp [seg] at h; obtain ⟨_, rfl, rfl, _⟩ := h
    exact ⟨[], s, rfl, by simp, ⟨fun _ => rfl, fun _ => rfl⟩, hk⟩
  | i :: r, t, s, H, cs, t', H', fs, h, hc, hk => by
    have h0 := h
    simp only [seg, segStep] at h
    split at h
    · simp at h
    · rename_i o ho
      split at h
      · simp at h
      · rename_i hg
        split at h
        · rename_i h1
          simp at h; obtain ⟨rfl, rfl, rfl, rfl⟩ := h
          obtain ⟨es, s', h2, h3, h4, h5⟩ := seg_chain h1 hc (hk.put o.dst (.tup []))
          refine ⟨⟨i, o, looksOf ops o, [], s, H, .tup [], []⟩ :: es, s', by simp [h2], fun e he => ?_, ⟨⟨fun _ _ => rfl, by simp⟩, h4⟩, h5⟩
          rcases List.mem_cons.1 he with rfl | he
          · exact ⟨fun w0 S0 ok0 => good_skip ho hg hk, ⟨_, List.mem_cons_self .., rfl, rfl, rfl, rfl⟩⟩
          · exact ⟨(h3 e he).1, (h3 e he).2.mono fun f hf => List.mem_cons_of_mem _ hf⟩
        · simp at h
      · rename_i hg1 hg2
        have hg : guardOf ops t o = .yes ∨ guardOf ops t o = .kn true := by
          cases hq : guardOf ops t o with
          | yes => exact .inl rfl
          | lost => exact absurd hq hg1
          | kn b => cases b with
            | true => exact .inr rfl
            | false => exact absurd hq hg2
        split at h
        · rename_i cs1 v U fp hr
          have hfp := (opR_spec hr).1
          split at h
          · rename_i g d hsg hd
            have hvg : v = .v (.one (.bool g)) := by
              unfold splitG at hsg
              split at hsg
              · cases hq : isGuard ops i <;> simp [hq] at hsg
                subst hsg; rfl
              · simp at hsg
            cases hb : Nat.blt d n with
            | false => simp [hb] at h
            | true =>
              have hdn : d < n := by simpa [Nat.blt_eq] using hb
              simp only [hb, cond_true] at h
              split at h
              · rename_i c1 t1 H1 f1 c2 t2 H2 f2 h1 h2
                cases hq : (Nat.beq H1.length (U ++ H).length && (Nat.beq H2.length (U ++ H).length && Nat.beq t1.length t2.length)) with
                | false => simp only [hq, cond_false] at h; cases h
                | true =>
                  simp only [hq, cond_true] at h
                  simp only [Bool.and_eq_true] at hq
                  have hl := Nat.eq_of_beq_eq_true hq.2.2
                  split at h
                  · rename_i tm hm
                    simp at h
                    obtain ⟨rfl, rfl, rfl, rfl⟩ := h
                    obtain ⟨⟨n1, e1⟩, V1, e3⟩ := seg_ext h1
                    obtain ⟨⟨n2, e2⟩, V2, e4⟩ := seg_ext h2
                    have hl1 := Nat.eq_of_beq_eq_true hq.1
                    have hl2 := Nat.eq_of_beq_eq_true hq.2.1
                    have hV1 : V1 = [] := by rw [e3, List.length_append] at hl1; exact List.eq_nil_of_length_eq_zero (by omega)
                    have hV2 : V2 = [] := by rw [e4, List.length_append] at hl2; exact List.eq_nil_of_length_eq_zero (by omega)
                    rw [hV1, List.nil_append] at e3
                    rw [hV2, List.nil_append] at e4
                    have hm' : mergeT g (t1.length - (t.length + 1)) (n1 ++ ((d, .v (.one (.kb true))) :: t)) (n2 ++ ((d, .v (.one (.kb false))) :: t)) ((d, v) :: t) = some tm := by
                      rw [e1, e2] at hm; rw [e1]; exact hm
                    have hn1 : n1.length = t1.length - (t.length + 1) := by rw [e1]; simp
                    have hn2 : n2.length = t1.length - (t.length + 1) := by rw [hl, e2]; simp
                    obtain ⟨m, hm1, hm2⟩ := mergeT_spec hm' hn1 hn2
                    have hc1 : ∀ c ∈ cs1, c = true := fun c hc' => hc c (List.mem_append.2 (.inl hc'))
                    have hc2 := mergeCs_true fun c hc' => hc c (List.mem_append.2 (.inr hc'))
                    cases hgv : g with
                    | true =>
                      obtain ⟨es, s', h3, h4, h5, h6⟩ := seg_chain h1 (hc2.1 hgv) (hk.put (some d) (.v (.one (.kb true))) |> fun q => by
                        have : putT n t (some d) (.v (.one (.kb true))) = (d, .v (.one (.kb true))) :: t := by unfold putT; simp only [hb, cond_true]
                        rw [← this]; exact q)
                      refine ⟨⟨i, o, fp.looks, fp.ids, s, H, .v (.one (.kb true)), U⟩ :: es, s', by simp [h3], fun e he => ?_, ⟨⟨fun _ _ => rfl, fun _ _ => rfl⟩, ?_⟩, ?_⟩
                      · rcases List.mem_cons.1 he with rfl | he
                        · refine ⟨fun w0 S0 ok0 => good_op hr hc1 ho hg hk fun X H w val hh => ?_, ⟨fp, List.mem_cons_self .., by rw [hfp], rfl, rfl, by rw [hfp]⟩⟩
                          rw [hvg, hgv] at hh; exact hh
                        · exact ⟨(h4 e he).1, (h4 e he).2.mono fun f hf => List.mem_cons_of_mem _ (List.mem_append.2 (.inl hf))⟩
                      · rw [e3] at h5; rw [hd]; exact h5
                      · refine h6.trans fun x u hx => ?_
                        rw [hm1, lk_app] at hx
                        rcases hm2 x with ⟨u1, u2, h7, h8, h9⟩ | ⟨h7, h8, h9⟩
                        · rw [h9] at hx
                          simp at hx; subst hx
                          refine ⟨u1, by rw [e1, lk_app, h7], fun X H w val hh => mergeTV_left hgv hh⟩
                        · rw [h9] at hx
                          simp only at hx
                          rw [e1, lk_app, h7]
                          simp only
                          rw [lk_cons] at hx ⊢
                          by_cases e : d = x
                          · rw [if_pos e] at hx ⊢
                            simp at hx; subst hx
                            exact ⟨_, rfl, fun X H w val hh => by rw [hvg, hgv]; exact hh⟩
                          · rw [if_neg e] at hx ⊢
                            exact ⟨u, hx, fun _ _ _ _ hh => hh⟩
                    | false =>
                      obtain ⟨es, s', h3, h4, h5, h6⟩ := seg_chain h2 (hc2.2 hgv) (hk.put (some d) (.v (.one (.kb false))) |> fun q => by
                        have : putT n t (some d) (.v (.one (.kb false))) = (d, .v (.one (.kb false))) :: t := by unfold putT; simp only [hb, cond_true]
                        rw [← this]; exact q)
                      refine ⟨⟨i, o, fp.looks, fp.ids, s, H, .v (.one (.kb false)), U⟩ :: es, s', by simp [h3], fun e he => ?_, ⟨⟨fun _ _ => rfl, fun _ _ => rfl⟩, ?_⟩, ?_⟩
                      · rcases List.mem_cons.1 he with rfl | he
                        · refine ⟨fun w0 S0 ok0 => good_op hr hc1 ho hg hk fun X H w val hh => ?_, ⟨fp, List.mem_cons_self .., by rw [hfp], rfl, rfl, by rw [hfp]⟩⟩
                          rw [hvg, hgv] at hh; exact hh
                        · exact ⟨(h4 e he).1, (h4 e he).2.mono fun f hf => List.mem_cons_of_mem _ (List.mem_append.2 (.inr hf))⟩
                      · rw [e4] at h5; rw [hd]; exact h5
                      · refine h6.trans fun x u hx => ?_
                        rw [hm1, lk_app] at hx
                        rcases hm2 x with ⟨u1, u2, h7, h8, h9⟩ | ⟨h7, h8, h9⟩
                        · rw [h9] at hx
                          simp at hx; subst hx
                          refine ⟨u2, by rw [e2, lk_app, h8], fun X H w val hh => mergeTV_right hgv hh⟩
                        · rw [h9] at hx
                          simp only at hx
                          rw [e2, lk_app, h8]
                          simp only
                          rw [lk_cons] at hx ⊢
                          by_cases e : d = x
                          · rw [if_pos e] at hx ⊢
                            simp at hx; subst hx
                            exact ⟨_, rfl, fun X H w val hh => by rw [hvg, hgv]; exact hh⟩
                          · rw [if_neg e] at hx ⊢
                            exact ⟨u, hx, fun _ _ _ _ hh => hh⟩
                  · simp at h
              · simp at h
          · split at h
            · rename_i h1
              simp at h; obtain ⟨rfl, rfl, rfl, rfl⟩ := h
              obtain ⟨es, s', h2, h3, h4, h5⟩ := seg_chain h1 (fun c hc' => hc c (List.mem_append.2 (.inr hc'))) (hk.put o.dst v)
              refine ⟨⟨i, o, fp.looks, fp.ids, s, H, v, U⟩ :: es, s', by simp [h2], fun e he => ?_, ⟨⟨fun _ _ => rfl, fun _ _ => rfl⟩, h4⟩, h5⟩
              rcases List.mem_cons.1 he with rfl | he
              · exact ⟨fun w0 S0 ok0 => good_op hr (fun c hc' => hc c (List.mem_append.2 (.inl hc'))) ho hg hk fun _ _ _ _ hh => hh, ⟨fp, List.mem_cons_self .., by rw [hfp], rfl, rfl, by rw [hfp]⟩⟩
              · exact ⟨(h3 e he).1, (h3 e he).2.mono fun f hf => List.mem_cons_of_mem _ hf⟩
            · simp at h
        · simp at h

/-- In the order of the text. -/
theorem chain_steps : ∀ {es : List El} {s s' : List (Nat × TV)} {H H' : Heap} {X : Cx} {w : World} {tmps : Array Value}, Chain n es s H s' H' → (∀ e ∈ es, Good P ops n w0 S0 ok0 e) → TRel X H w n s tmps → Inv w0 S0 ok0 X H w →
    ∀ (b : Frame) dfs rest k cs, ∃ tmps' w' X', Steps P (lone (b.at ⟨tmps, dfs⟩ (.inRegion ops (es.map El.i ++ rest) :: k)) cs w) (lone (b.at ⟨tmps', dfs⟩ (.inRegion ops rest :: k)) cs w') ∧
      Ext X H w X' H' w' ∧ Inv w0 S0 ok0 X' H' w' ∧ TRel X' H' w' n s' tmps'
  | [], s, s', H, H', X, w, tmps, ⟨h1, h2⟩, _, hT, I, b, dfs, rest, k, cs => ⟨tmps, w, X, .refl .., Ext.of_eq h2, I.congr h2, (hT.ext (Ext.of_eq h2)).congr h1⟩
  | e :: es, s, s', H, H', X, w, tmps, ⟨hA, h1⟩, hG, hT, I, b, dfs, rest, k, cs => by
    obtain ⟨val, w1, X1, h2, h3, h4, h5⟩ := (hG e (by simp)).run X H w s tmps hA hT I b dfs (es.map El.i ++ rest) k cs
    have hT1 := (hT.ext h3).put (dst := e.o.dst) h5 dfs
    obtain ⟨tmps', w', X', h6, h7, h8, h9⟩ := chain_steps h1 (fun e he => hG e (by simp [he])) hT1 h4 b dfs rest k cs
    refine ⟨tmps', w', X', ?_, h3.trans h7, h8, h9⟩
    have hp : Act.put ⟨tmps, dfs⟩ e.o.dst val = ⟨(Act.put ⟨tmps, dfs⟩ e.o.dst val).tmps, dfs⟩ := by cases e.o.dst <;> rfl
    rw [hp] at h2
    exact h2.trans h6
end
end Go.Ab

/- Operations that may go in another order: where none asks for what another turns, every order comes to the same. -/
set_option linter.unusedVariables false
set_option linter.unusedSimpArgs false
namespace Go.Ab
open Go

section
variable {P : Program} {w0 : World} {S0 ok0 : Nat → Prop} {X X' : Cx} {H H' K : Heap} {w w' : World} {n base : Nat} {t t' s s' : List (Nat × TV)} {tmps : Array Value} {ops : Array Oper} {o : Oper} {i : Nat} {cs : List Bool} {v : TV} {U : Heap} {fp : FP}

structure Indep (a b : El) : Prop where
  l1 : ∀ d, a.o.dst = some d → d ∉ b.looks
  l2 : ∀ d, b.o.dst = some d → d ∉ a.looks
  ne : ∀ d, a.o.dst = some d → b.o.dst ≠ some d
  w1 : ∀ x ∈ a.U, x.1 ∉ b.ids
  w2 : ∀ x ∈ b.U, x.1 ∉ a.ids
theorem lk_none {α : Type} : ∀ {l : List (Nat × α)} {x : Nat}, (∀ e ∈ l, e.1 ≠ x) → lk l x = none
  | [], _, _ => rfl
  | (i, v) :: r, x, h => by
    rw [lk_cons, if_neg (h (i, v) (by simp))]
    exact lk_none fun e he => h e (by simp [he])
theorem lk_mem {α : Type} : ∀ {l : List (Nat × α)} {x : Nat} {v : α}, lk l x = some v → (x, v) ∈ l
  | [], _, _, h => by simp [lk] at h
  | (i, u) :: r, x, v, h => by
    rw [lk_cons] at h
    by_cases e : i = x
    · subst e; simp at h; subst h; simp
    · rw [if_neg e] at h; simp [lk_mem h]
theorem chain_congr : ∀ {l : List El} {t t1 : List (Nat × TV)} {H H1 : Heap}, (∀ d, lk t d = lk t1 d) → (∀ i, lk H i = lk H1 i) → Chain n l t H t' H' → Chain n l t1 H1 t' H'
  | [], t, t1, H, H1, h, k, ⟨h1, h2⟩ => ⟨fun d => by rw [← h]; exact h1 d, fun i => by rw [← k]; exact h2 i⟩
  | e :: l, t, t1, H, H1, h, k, ⟨hA, h1⟩ => ⟨⟨fun d hd => by rw [← h]; exact hA.1 d hd, fun i hi => by rw [← k]; exact hA.2 i hi⟩,
      chain_congr (fun d => by rw [lk_putT, lk_putT]; cases e.o.dst <;> simp [h]) (fun i => by rw [lk_app, lk_app, k]) h1⟩
theorem agree_back {a e : El} (hi : Indep a e) (h : Agree e (putT n t a.o.dst a.v) (a.U ++ H)) : Agree e t H := by
  refine ⟨fun d hd => ?_, fun i hi' => ?_⟩
  · have := h.1 d hd
    rw [lk_putT] at this
    cases hq : a.o.dst with
    | none => rw [hq] at this; exact this
    | some c =>
      rw [hq] at this
      simp only at this
      rw [if_neg (fun hh : c = d ∧ c < n => hi.l1 c hq (hh.1 ▸ hd))] at this
      exact this
  · have := h.2 i hi'
    rw [lk_app, lk_none (fun x hx he => hi.w1 x hx (he ▸ hi'))] at this
    exact this
theorem agree_on {a e : El} (hi : Indep a e) (h : Agree a t H) : Agree a (putT n t e.o.dst e.v) (e.U ++ H) := by
  refine ⟨fun d hd => ?_, fun i hi' => ?_⟩
  · rw [lk_putT]
    cases hq : e.o.dst with
    | none => exact h.1 d hd
    | some c =>
      simp only
      rw [if_neg (fun hh : c = d ∧ c < n => hi.l2 c hq (hh.1 ▸ hd))]
      exact h.1 d hd
  · rw [lk_app, lk_none (fun x hx he => hi.w2 x hx (he ▸ hi'))]
    exact h.2 i hi'
theorem put_comm' {a e : El} (hi : Indep a e) (d : Nat) : lk (putT n (putT n t a.o.dst a.v) e.o.dst e.v) d = lk (putT n (putT n t e.o.dst e.v) a.o.dst a.v) d := by
  rw [lk_putT, lk_putT]
  cases h1 : a.o.dst with
  | none =>
    cases h2 : e.o.dst with
    | none => simp [lk_putT]
    | some c => simp [lk_putT]
  | some b =>
    cases h2 : e.o.dst with
    | none => simp [lk_putT]
    | some c =>
      have hne : b ≠ c := fun h => hi.ne b h1 (by rw [h2, h])
      simp only [lk_putT]
      by_cases e1 : c = d ∧ c < n
      · have e2 : ¬ (b = d ∧ b < n) := fun h => hne (h.1.trans e1.1.symm)
        rw [if_pos e1, if_neg e2, if_pos e1]
      · rw [if_neg e1, if_neg e1]
theorem heap_comm {a e : El} (hi : Indep a e) (ha : ∀ x ∈ a.U, x.1 ∈ a.ids) (i : Nat) : lk (e.U ++ (a.U ++ H)) i = lk (a.U ++ (e.U ++ H)) i := by
  rw [lk_app, lk_app, lk_app, lk_app]
  cases h1 : lk e.U i with
  | none => rfl
  | some x =>
    have := hi.w2 _ (lk_mem h1)
    have h2 : lk a.U i = none := lk_none fun y hy he => this (by have := ha y hy; rw [he] at this; exact this)
    rw [h2]
theorem chain_front {e : El} : ∀ {l1 l2 : List El} {t : List (Nat × TV)} {H : Heap}, Chain n (l1 ++ e :: l2) t H t' H' → (∀ a ∈ l1, Indep a e) → (∀ a ∈ l1, ∀ x ∈ a.U, x.1 ∈ a.ids) →
    Agree e t H ∧ Chain n (l1 ++ l2) (putT n t e.o.dst e.v) (e.U ++ H) t' H'
  | [], l2, t, H, h, _, _ => h
  | a :: l1, l2, t, H, ⟨hA, h⟩, hi, hu => by
    obtain ⟨h1, h2⟩ := chain_front h (fun b hb => hi b (by simp [hb])) (fun b hb => hu b (by simp [hb]))
    have hia := hi a (by simp)
    exact ⟨agree_back hia h1, agree_on hia hA, chain_congr (put_comm' hia) (heap_comm hia (hu a (by simp))) h2⟩

def Edge (ops : Array Oper) (k i : Nat) : Prop := ∃ o, ops[i]? = some o ∧ ∃ e ∈ o.after, Region.binds .any e = true ∧ e.on = k
inductive Path (ops : Array Oper) : Nat → Nat → Prop
  | one {k i : Nat} : Edge ops k i → Path ops k i
  | step {k j i : Nat} : Edge ops k j → Path ops j i → Path ops k i
theorem Path.snoc {k j i : Nat} (h : Path ops k j) (e : Edge ops j i) : Path ops k i := by
  induction h with
  | one h => exact .step h (.one e)
  | step h _ ih => exact .step h (ih e)
theorem Path.last {listed : Array Bool} (hcl : ∀ k j, Edge ops k j → listed.getD k true = false → listed.getD j true = false) {k i : Nat} (h : Path ops k i) : listed.getD k true = false → ∃ c, Edge ops c i ∧ listed.getD c true = false := by
  induction h with
  | one h => exact fun hk => ⟨_, h, hk⟩
  | step h _ ih => exact fun hk => ih (hcl _ _ h hk)
theorem draw_go (hback : ∀ (j : Nat) o, ops[j]? = some o → ∀ e ∈ o.after, Region.binds .any e = true → e.on < j) :
    ∀ (fuel m : Nat) (listed : Array Bool) (rem : List El) (s : List (Nat × TV)) (H : Heap) (X : Cx) (w : World) (tmps : Array Value),
      rem.length ≤ fuel → rem.Pairwise (fun a b => a.i < b.i) → (∀ j, j < ops.size → (listed.getD j true = false ↔ ∃ e ∈ rem, e.i = j)) → listed.size = ops.size →
      (∀ k j, Edge ops k j → listed.getD k true = false → listed.getD j true = false) → (∀ a ∈ rem, ∀ b ∈ rem, a.i < b.i → Path ops a.i b.i ∨ Indep a b) → (∀ e ∈ rem, Good P ops n w0 S0 ok0 e) → Chain n rem s H s' H' → TRel X H w n s tmps → Inv w0 S0 ok0 X H w →
      ∀ (b : Frame) dfs k cs, ∃ tmps' w' X', Steps P (lone (b.at ⟨tmps, dfs⟩ (.inRegion ops (Region.linearise.go .any ops fuel m listed []) :: k)) cs w) (lone (b.at ⟨tmps', dfs⟩ (.inRegion ops [] :: k)) cs w') ∧
        Ext X H w X' H' w' ∧ Inv w0 S0 ok0 X' H' w' ∧ TRel X' H' w' n s' tmps' := by
  intro fuel
  induction fuel with
  | zero =>
    intro m listed rem s H X w tmps hl hs hm hsz hcl hp hG hC hT I b dfs k cs
    have hr : rem = [] := List.eq_nil_of_length_eq_zero (by omega)
    subst hr
    have := chain_steps hC hG hT I b dfs [] k cs
    simpa [Region.linearise.go] using this
  | succ fuel ih =>
    intro m listed rem s H X w tmps hl hs hm hsz hcl hp hG hC hT I b dfs k cs
    simp only [Region.linearise.go]
    change ∃ tmps' w' X', Steps P (lone (b.at ⟨tmps, dfs⟩ (.inRegion ops (match (Region.ready .any ops listed)[m % (Region.ready .any ops listed).length]? with
      | some i => Region.linearise.go .any ops fuel (m / (Region.ready .any ops listed).length) (listed.setIfInBounds i true) [i]
      | none => [].reverse) :: k)) cs w) _ ∧ _
    cases hi : (Region.ready .any ops listed)[m % (Region.ready .any ops listed).length]? with
    | none =>
      have hnil : Region.ready .any ops listed = [] := by
        cases hr : Region.ready .any ops listed with
        | nil => rfl
        | cons x xs =>
          rw [hr] at hi
          have hlt : m % (x :: xs).length < (x :: xs).length := Nat.mod_lt _ (by simp)
          simp at hi
          simp at hlt
          omega
      have hr : rem = [] := by
        cases rem with
        | nil => rfl
        | cons e r =>
          exfalso
          have hat := (hG e (by simp)).at_
          have hlt : e.i < ops.size := (Array.getElem?_eq_some_iff.1 hat).1
          have : e.i ∈ Region.ready .any ops listed := by
            rw [mem_ready]
            refine ⟨(hm e.i hlt).2 ⟨e, by simp, rfl⟩, e.o, hat, fun ed hed hb => ?_⟩
            have h1 := hback e.i e.o hat ed hed hb
            have h2 : ¬ (listed.getD ed.on true = false) := fun hh => by
              obtain ⟨e', he', h3⟩ := (hm ed.on (by omega)).1 hh
              rcases List.mem_cons.1 he' with rfl | he'
              · omega
              · have := (List.pairwise_cons.1 hs).1 e' he'
                omega
            have h4 : ed.on < listed.size := by omega
            simp [h4] at h2 ⊢
            exact h2
          rw [hnil] at this
          cases this
      subst hr
      have := chain_steps hC hG hT I b dfs [] k cs
      simpa using this
    | some i =>
      simp only []
      rw [linearise_go_acc, List.reverse_singleton, List.singleton_append]
      obtain ⟨h1, o, ho, h2⟩ := mem_ready.1 (List.mem_of_getElem? hi)
      have hlt : i < ops.size := (Array.getElem?_eq_some_iff.1 ho).1
      obtain ⟨e, he, rfl⟩ := (hm i hlt).1 h1
      obtain ⟨l1, l2, rfl⟩ := List.append_of_mem he
      have hord := List.pairwise_append.1 hs
      have hlt1 : ∀ a ∈ l1, a.i < e.i := fun a ha => hord.2.2 a ha e (by simp)
      have hgt2 : ∀ a ∈ l2, e.i < a.i := (List.pairwise_cons.1 hord.2.1).1
      have hin : ∀ a ∈ l1, Indep a e := fun a ha => by
        rcases hp a (by simp [ha]) e (by simp) (hlt1 a ha) with hpath | h
        · have hal : a.i < ops.size := by have := hlt1 a ha; omega
          obtain ⟨c, ⟨o', ho', ed, hed, hb, hon⟩, h4⟩ := hpath.last hcl ((hm a.i hal).2 ⟨a, by simp [ha], rfl⟩)
          rw [ho] at ho'; simp at ho'; subst ho'
          have h3 := h2 ed hed hb
          rw [hon] at h3
          by_cases h5 : c < listed.size
          · simp [h5] at h3 h4
            rw [h3] at h4; cases h4
          · simp [h5] at h4
        · exact h
      obtain ⟨hA, hC'⟩ := chain_front hC hin fun a ha => (hG a (by simp [ha])).ids
      obtain ⟨val, w1, X1, h6, h7, h8, h9⟩ := (hG e (by simp)).run X H w s tmps hA hT I b dfs (Region.linearise.go .any ops fuel (m / (Region.ready .any ops listed).length) (listed.setIfInBounds e.i true) []) k cs
      have hT1 := (hT.ext h7).put (dst := e.o.dst) h9 dfs
      have hp' : Act.put ⟨tmps, dfs⟩ e.o.dst val = ⟨(Act.put ⟨tmps, dfs⟩ e.o.dst val).tmps, dfs⟩ := by cases e.o.dst <;> rfl
      rw [hp'] at h6
      have hsub : ∀ a, a ∈ l1 ++ l2 → a ∈ l1 ++ e :: l2 := fun a ha => by
        rcases List.mem_append.1 ha with h | h
        · simp [h]
        · simp [h]
      obtain ⟨tmps', w', X', h10, h11, h12, h13⟩ := ih (m / (Region.ready .any ops listed).length) (listed.setIfInBounds e.i true) (l1 ++ l2) _ _ X1 w1 _
        (by simp at hl ⊢; omega) (List.pairwise_append.2 ⟨hord.1, (List.pairwise_cons.1 hord.2.1).2, fun a ha c hc => hord.2.2 a ha c (by simp [hc])⟩) (fun j hj => by
          by_cases e1 : e.i = j
          · subst e1
            constructor
            · intro hh
              have h5 : e.i < listed.size := by omega
              simp [Array.getElem?_setIfInBounds, h5] at hh
            · rintro ⟨a, ha, hai⟩
              rcases List.mem_append.1 ha with h | h
              · have := hlt1 a h; omega
              · have := hgt2 a h; omega
          · rw [getD_set_ne true e1]
            rw [hm j hj]
            constructor
            · rintro ⟨a, ha, rfl⟩
              refine ⟨a, ?_, rfl⟩
              rcases List.mem_append.1 ha with h | h
              · simp [h]
              · rcases List.mem_cons.1 h with rfl | h
                · exact absurd rfl e1
                · simp [h]
            · rintro ⟨a, ha, rfl⟩
              exact ⟨a, hsub a ha, rfl⟩) (by simp [hsz])
        (fun k j hkj hk => by
          have hke : e.i ≠ k := by
            rintro rfl
            have h5 : e.i < listed.size := by omega
            simp [Array.getElem?_setIfInBounds, h5] at hk
          rw [getD_set_ne true hke] at hk
          have hje : e.i ≠ j := by
            rintro rfl
            obtain ⟨o', ho', ed, hed, hb, hon⟩ := hkj
            rw [ho] at ho'; simp at ho'; subst ho'
            have h3 := h2 ed hed hb
            rw [hon] at h3
            by_cases h5 : k < listed.size
            · simp [h5] at h3 hk
              rw [h3] at hk; cases hk
            · simp [h5] at hk
          rw [getD_set_ne true hje]
          exact hcl k j hkj hk)
        (fun a ha c hc => hp a (hsub a ha) c (hsub c hc)) (fun a ha => hG a (hsub a ha)) hC' hT1 h8 b dfs k cs
      exact ⟨tmps', w', X', h6.trans h10, h7.trans h11, h12, h13⟩
end
end Go.Ab

/- What the interpreter looks for is what the order needs. -/
set_option linter.unusedVariables false
set_option linter.unusedSimpArgs false
namespace Go.Ab
open Go

section
variable {P : Program} {w0 : World} {S0 ok0 : Nat → Prop} {X X' : Cx} {H H' K : Heap} {w w' : World} {n base : Nat} {t t' s s' : List (Nat × TV)} {tmps : Array Value} {ops : Array Oper} {o : Oper} {i : Nat} {cs : List Bool} {v : TV} {U : Heap} {fp : FP}

theorem blt_iff {a b : Nat} : Nat.blt a b = true ↔ a < b := by rw [Nat.blt_eq]
theorem backB_spec : ∀ {l : List Oper} {i : Nat}, backB ops i l = true → ∀ (j : Nat) o, l[j]? = some o → ∀ e ∈ o.after, Region.binds .any e = true → e.on < i + j
  | [], i, _, j, o, h, _, _, _ => by simp at h
  | o' :: r, i, h, j, o, hj, e, he, hb => by
    simp only [backB, Bool.and_eq_true] at h
    cases j with
    | zero =>
      simp at hj; subst hj
      have := List.all_eq_true.1 h.1 e (by simpa using he)
      simp [hb] at this
      omega
    | succ j =>
      have := backB_spec h.2 j o (by simpa using hj) e he hb
      omega
theorem okPairs_spec {ms : List (Nat × Nat)} {a : FP} : ∀ {fs : List FP}, okPairs ops ms a fs = true → ∀ b ∈ fs, a.i < b.i → Nat.testBit ((lk ms b.i).getD 0) a.i = true ∨ apartB ops a b = true
  | [], _, b, hb, _ => by simp at hb
  | c :: r, h, b, hb, hlt => by
    simp only [okPairs, Bool.and_eq_true] at h
    rcases List.mem_cons.1 hb with rfl | hb
    · have h1 := h.1
      rw [blt_iff.2 hlt] at h1
      simpa using h1
    · exact okPairs_spec h.2 b hb hlt
theorem okFPs_spec {ms : List (Nat × Nat)} {all : List FP} : ∀ {fs : List FP}, okFPs ops ms all fs = true → ∀ a ∈ fs, okPairs ops ms a all = true
  | [], _, a, ha => by simp at ha
  | c :: r, h, a, ha => by
    simp only [okFPs, Bool.and_eq_true] at h
    rcases List.mem_cons.1 ha with rfl | ha
    · exact h.1
    · exact okFPs_spec h.2 a ha
theorem ancMask_spec {acc : List (Nat × Nat)} {k : Nat} : ∀ {ons : List Nat}, Nat.testBit (ancMask acc ons) k = true → ∃ j ∈ ons, k = j ∨ Nat.testBit ((lk acc j).getD 0) k = true
  | [], h => by simp [ancMask] at h
  | j :: r, h => by
    have h' : Nat.testBit ((((1 <<< j) ||| ((lk acc j).getD 0)) ||| ancMask acc r)) k = true := h
    rw [Nat.testBit_or, Nat.testBit_or, Bool.or_eq_true, Bool.or_eq_true] at h'
    rcases h' with (h1 | h1) | h1
    · rw [Nat.one_shiftLeft, Nat.testBit_two_pow] at h1
      exact ⟨j, by simp, .inl (by simpa using (of_decide_eq_true (by simpa using h1) : j = k).symm)⟩
    · exact ⟨j, by simp, .inr h1⟩
    · obtain ⟨m, hm, h2⟩ := ancMask_spec h1
      exact ⟨m, List.mem_cons_of_mem _ hm, h2⟩
theorem bindOns_edge {j k : Nat} (ho : ops[k]? = some o) (h : j ∈ bindOns o) : Edge ops j k := by
  obtain ⟨e, he, h1⟩ := List.mem_filterMap.1 h
  cases hb : Region.binds .any e with
  | false => rw [hb] at h1; simp at h1
  | true =>
    rw [hb] at h1
    simp at h1
    exact ⟨o, ho, e, by simpa using he, hb, h1⟩
theorem masks_spec : ∀ {l : List Oper} {m : Nat} {acc : List (Nat × Nat)}, (∀ j o, l[j]? = some o → ops[m + j]? = some o) → (∀ i k, Nat.testBit ((lk acc i).getD 0) k = true → Path ops k i) →
    ∀ i k, Nat.testBit ((lk (masks l m acc) i).getD 0) k = true → Path ops k i
  | [], m, acc, _, ha => ha
  | o :: r, m, acc, hl, ha => by
    simp only [masks]
    refine masks_spec (fun j o' hj => ?_) fun i k hi => ?_
    · rw [show m + 1 + j = m + (j + 1) by omega]
      exact hl (j + 1) o' (by simpa using hj)
    · rw [lk_cons] at hi
      by_cases e : m = i
      · subst e
        rw [if_pos rfl] at hi
        obtain ⟨j, hj, h1⟩ := ancMask_spec hi
        have he : Edge ops j m := bindOns_edge (by simpa using hl 0 o rfl) hj
        rcases h1 with rfl | h1
        · exact .one he
        · exact (ha _ _ h1).snoc he
      · rw [if_neg e] at hi
        exact ha i k hi
theorem not_inL {i : Nat} {l : List Nat} (h : inL i l = false) : i ∉ l := fun hh => by rw [inL_iff.2 hh] at h; cases h
theorem apartB_spec {a b : FP} {x y : El} (h : apartB ops a b = true) (hx : ops[x.i]? = some x.o) (hy : ops[y.i]? = some y.o)
    (h1 : a.i = x.i ∧ a.looks = x.looks ∧ a.ids = x.ids ∧ a.w = x.U.map (·.1)) (h2 : b.i = y.i ∧ b.looks = y.looks ∧ b.ids = y.ids ∧ b.w = y.U.map (·.1)) : Indep x y := by
  obtain ⟨a1, a2, a3, a4⟩ := h1
  obtain ⟨b1, b2, b3, b4⟩ := h2
  unfold apartB at h
  rw [a1, b1, hx, hy, a2, b2, a3, b3, a4, b4] at h
  simp only [Option.bind_some, Bool.and_eq_true] at h
  obtain ⟨h3, h4, h5, h6⟩ := h
  refine ⟨fun d hd => ?_, fun d hd => ?_, fun d hd => ?_, fun e he => ?_, fun e he => ?_⟩
  · rw [hd] at h3
    simp at h3
    exact not_inL h3.1
  · rw [hd] at h4
    simp at h4
    exact not_inL h4
  · rw [hd] at h3
    simp only [Bool.and_eq_true] at h3
    intro hh
    rw [hh] at h3
    simp at h3
  · have := List.all_eq_true.1 h5 e.1 (List.mem_map.2 ⟨e, he, rfl⟩)
    simp at this
    exact not_inL this
  · have := List.all_eq_true.1 h6 e.1 (List.mem_map.2 ⟨e, he, rfl⟩)
    simp at this
    exact not_inL this
/-- A region whose operations may go in another order. -/
theorem draw_region {fs : List FP} {es : List El} (hm : P.follows .mixedOrders = true) (hd : okDraw ops fs = true) (hi : es.map El.i = List.range ops.size) (hF : ∀ e ∈ es, FPin e fs) (hG : ∀ e ∈ es, Good P ops n w0 S0 ok0 e)
    (hC : Chain n es s H s' H') (hT : TRel X H w n s tmps) (I : Inv w0 S0 ok0 X H w) (b : Frame) (dfs : List Deferred) (k : List Item) (cs : List Frame) (id : Nat) :
    ∃ tmps' w' X', Steps P (lone (b.at ⟨tmps, dfs⟩ (.code (.region id ops true) :: k)) cs w) (lone (b.at ⟨tmps', dfs⟩ (.inRegion ops [] :: k)) cs w') ∧ Ext X H w X' H' w' ∧ Inv w0 S0 ok0 X' H' w' ∧ TRel X' H' w' n s' tmps' := by
  simp only [okDraw, Bool.and_eq_true] at hd
  have hback : ∀ (j : Nat) o, ops[j]? = some o → ∀ e ∈ o.after, Region.binds .any e = true → e.on < j := fun j o hj e he hb => by
    have := backB_spec hd.1 j o (by simpa using hj) e he hb
    omega
  have hsort : es.Pairwise (fun a b => a.i < b.i) := by
    have : (es.map El.i).Pairwise (· < ·) := by rw [hi]; exact List.pairwise_lt_range
    exact List.pairwise_map.1 this
  have hlen : es.length = ops.size := by
    have := congrArg List.length hi
    simpa using this
  obtain ⟨tmps', w', X', h1, h2, h3, h4⟩ := draw_go (P := P) (w0 := w0) (S0 := S0) (ok0 := ok0) hback ops.size (w.tape w.drawn (.order b.fn id)) (Array.replicate ops.size false) es s H X { w with drawn := w.drawn + 1 } tmps (by omega) hsort
    (fun j hj => by
      constructor
      · intro _
        have : j ∈ es.map El.i := by rw [hi]; simpa using hj
        obtain ⟨e, he, hej⟩ := List.mem_map.1 this
        exact ⟨e, he, hej⟩
      · intro _
        simp [hj]) (by simp)
    (fun k j hkj _ => by
      obtain ⟨o, ho, _⟩ := hkj
      have := (Array.getElem?_eq_some_iff.1 ho).1
      simp [this])
    (fun a ha c hc hlt => by
      obtain ⟨f, hf, hf'⟩ := hF a ha
      obtain ⟨g, hg, hg'⟩ := hF c hc
      rcases okPairs_spec (okFPs_spec hd.2 f hf) g hg (by rw [hf'.1, hg'.1]; exact hlt) with h | h
      · rw [hf'.1, hg'.1] at h
        exact .inl (masks_spec (fun j o hj => by simpa using hj) (fun i k hi => by simp [lk] at hi) _ _ h)
      · exact .inr (apartB_spec h (hG a ha).at_ (hG c hc).at_ hf' hg')) hG hC (hT.ext (Ext.drew _)) (I.drew _) b dfs k cs
  refine ⟨tmps', w', X', .head step_region_draw ?_, (Ext.drew _).trans h2, h3, h4⟩
  simp only [Region.schedule, hm, Bool.true_or, if_true]
  exact h1
end
end Go.Ab

/- Heaps under other names; what a call hands back laid into what the caller has. -/
set_option linter.unusedVariables false
set_option linter.unusedSimpArgs false
namespace Go.Ab
open Go

section
variable {P : Program} {w0 : World} {S0 S1 ok0 : Nat → Prop} {X X' : Cx} {H H' K : Heap} {w w' : World} {f g : Nat → Nat → Option (Nat × Nat)} {ids : List Nat}

/-- Names are told of what is there alone; no two of them become one. -/
structure NameOk (f : Nat → Nat → Option (Nat × Nat)) (H : Heap) : Prop where
  cur : ∀ i v j s, f i v = some (j, s) → ∃ o, lk H i = some (v, o)
  inj : ∀ i v j s i' v' s', f i v = some (j, s) → f i' v' = some (j, s') → i = i'
theorem normH_spec : ∀ {ids : List Nat} {j s : Nat} {o'' : Obj}, lk (normH H f ids) j = some (s, o'') → ∃ i v o, i ∈ ids ∧ lk H i = some (v, o) ∧ f i v = some (j, s) ∧ o'' = o.ren f
  | [], j, s, o'', h => by simp [normH, lk] at h
  | i :: r, j, s, o'', h => by
    have rest : lk (normH H f r) j = some (s, o'') → ∃ k v o, k ∈ i :: r ∧ lk H k = some (v, o) ∧ f k v = some (j, s) ∧ o'' = o.ren f := fun h => by
      obtain ⟨k, v, o, h1, h2⟩ := normH_spec h
      exact ⟨k, v, o, List.mem_cons_of_mem _ h1, h2⟩
    simp only [normH] at h
    split at h
    · rename_i v o h1
      split at h
      · rename_i j' s' h2
        rw [lk_cons] at h
        by_cases e : j' = j
        · subst e
          simp at h
          obtain ⟨rfl, rfl⟩ := h
          exact ⟨i, v, o, by simp, h1, h2, rfl⟩
        · rw [if_neg e] at h; exact rest h
      · exact rest h
    · exact rest h
theorem normH_has (hN : NameOk f H) {i v j s : Nat} {o : Obj} (h1 : lk H i = some (v, o)) (h2 : f i v = some (j, s)) : ∀ {ids : List Nat}, i ∈ ids → lk (normH H f ids) j = some (s, o.ren f)
  | k :: r, hm => by
    simp only [normH]
    by_cases e : k = i
    · subst e
      simp only [h1, h2]
      rw [lk_cons, if_pos rfl]
    · have hr : i ∈ r := by
        rcases List.mem_cons.1 hm with h | h
        · exact absurd h.symm e
        · exact h
      split
      · rename_i v' o' h3
        split
        · rename_i j' s' h4
          rw [lk_cons]
          by_cases e2 : j' = j
          · subst e2
            exact absurd (hN.inj _ _ _ _ _ _ _ h4 h2) e
          · rw [if_neg e2]; exact normH_has hN h1 h2 hr
        · exact normH_has hN h1 h2 hr
      · exact normH_has hN h1 h2 hr
open Classical in
noncomputable def Cx.named (X Y : Cx) (f : Nat → Nat → Option (Nat × Nat)) : Cx where
  b j := if h : ∃ i v s, f i v = some (j, s) then X.b h.choose else Y.b j
  ok := X.ok
theorem Cx.named_b (hN : NameOk f H) (Y : Cx) {i v j s : Nat} (h : f i v = some (j, s)) : (X.named Y f).b j = X.b i := by
  have hx : ∃ i v s, f i v = some (j, s) := ⟨i, v, s, h⟩
  unfold Cx.named
  simp only [dif_pos hx]
  obtain ⟨v', s', h'⟩ := hx.choose_spec
  rw [hN.inj _ _ _ _ _ _ _ h' h]
theorem Cx.named_other (Y : Cx) {j : Nat} (h : ¬ ∃ i v s, f i v = some (j, s)) : (X.named Y f).b j = Y.b j := by
  unfold Cx.named
  simp only [dif_neg h]

theorem norm_inv (I : Inv w0 S0 ok0 X H w) (hN : NameOk f H) (hids : ∀ i v p, f i v = some p → i ∈ ids) (Y : Cx) :
    ExtF f X H w (X.named Y f) (normH H f ids) w ∧ Inv w0 S0 ok0 (X.named Y f) (normH H f ids) w := by
  have E : ExtF f X H w (X.named Y f) (normH H f ids) w := by
    refine ⟨fun B hB => ⟨hB, rfl⟩, fun i r j s hf hr => ?_⟩
    obtain ⟨o, ho⟩ := hN.cur i r j s hf
    have hl := normH_has hN ho hf (hids i r _ hf)
    refine ⟨by rw [lk_ver hl]; omega, fun o' ho' hd => ?_⟩
    have := obj_lk ho'
    rw [hl] at this
    simp at this
    subst this
    exact ⟨o, lk_obj ho, Obj.ren_sim f o (Obj.ren_dead.1 hd), Cx.named_b hN Y hf⟩
  refine ⟨E, ?_, ?_, I.okb, I.frm, I.size, I.os, I.tape, I.output⟩
  · intro j s o'' h
    obtain ⟨i, v, o, h1, h2, h3, rfl⟩ := normH_spec h
    exact (I.objs i v o h2).extF E (Cx.named_b hN Y h3) fun _ _ _ _ => rfl
  · intro j s o'' B c h hd hB
    obtain ⟨i, v, o, h1, h2, h3, rfl⟩ := normH_spec h
    rw [Cx.named_b hN Y h3] at hB
    obtain ⟨h4, h5, h6⟩ := I.sep i v o B c h2 (Obj.ren_dead.1 hd) hB
    refine ⟨h4, h5, fun j' s' o2 c' h' hd' hB' => ?_⟩
    obtain ⟨i', v', o', h1', h2', h3', rfl⟩ := normH_spec h'
    rw [Cx.named_b hN Y h3'] at hB'
    have := h6 i' v' o' c' h2' (Obj.ren_dead.1 hd') hB'
    subst this
    rw [h2] at h2'
    simp at h2'
    obtain ⟨rfl, rfl⟩ := h2'
    rw [h3] at h3'
    simp at h3'
    exact h3'.1.symm

theorem kill_spec : ∀ {ids : List Nat} {j : Nat}, lk (kill H ids) j = if j ∈ ids then (lk H j).map (fun x => (x.1 + 1, Obj.dead)) else none
  | [], j => by simp [kill, lk]
  | i :: r, j => by
    simp only [kill]
    split
    · rename_i v o h1
      rw [lk_cons]
      by_cases e : i = j
      · subst e; simp [h1]
      · have : j ≠ i := fun h => e h.symm
        simp [e, this, kill_spec (ids := r)]
    · rename_i h1
      rw [kill_spec (ids := r)]
      by_cases e : j = i
      · subst e; simp [h1]
      · simp [e]

theorem join (I : Inv w0 S0 ok0 X H w) (I' : Inv w S1 X.ok X' H' w') (hS1 : ∀ B, S1 B → ∃ i r o c, i ∈ ids ∧ lk H i = some (r, o) ∧ o ≠ .dead ∧ X.b i = some (B, c))
    (hok : ∀ B, X.ok B → X'.ok B ∧ w'.heap[B]? = w.heap[B]?) (hN : NameOk g H')
    (hin : ∀ i v j s, g i v = some (j, s) → j ∈ ids → ∃ r o, lk H j = some (r, o) ∧ r ≤ s ∧ (s = r → ∀ o', lk H' i = some (v, o') → o' ≠ .dead → OSim o o' ∧ X'.b i = X.b j))
    (hout : ∀ i v j s, g i v = some (j, s) → j ∉ ids → s = H.ver j) :
    Ext X H w (X'.named X g) (normH H' g (H'.map (·.1)) ++ kill H ids ++ H) w' ∧ Inv w0 S0 ok0 (X'.named X g) (normH H' g (H'.map (·.1)) ++ kill H ids ++ H) w' ∧
      ExtF g X' H' w' (X'.named X g) (normH H' g (H'.map (·.1)) ++ kill H ids ++ H) w' := by
  -- what is told of a name now
  have hm : ∀ {i v : Nat} {o : Obj}, lk H' i = some (v, o) → i ∈ H'.map (·.1) := fun h => List.mem_map.2 ⟨_, lk_mem h, rfl⟩
  have told : ∀ {i v j s : Nat} {o : Obj}, lk H' i = some (v, o) → g i v = some (j, s) → lk (normH H' g (H'.map (·.1)) ++ kill H ids ++ H) j = some (s, o.ren g) := fun h1 h2 => by
    rw [List.append_assoc, lk_app, normH_has hN h1 h2 (hm h1)]
  have cases3 : ∀ {j s : Nat} {o'' : Obj}, lk (normH H' g (H'.map (·.1)) ++ kill H ids ++ H) j = some (s, o'') →
      (∃ i v o, lk H' i = some (v, o) ∧ g i v = some (j, s) ∧ o'' = o.ren g) ∨ o'' = .dead ∧ (∃ r o, j ∈ ids ∧ lk H j = some (r, o) ∧ s = r + 1) ∨ j ∉ ids ∧ lk H j = some (s, o'') ∧ ¬ ∃ i v s, g i v = some (j, s) := fun {j s o''} h => by
    rw [List.append_assoc, lk_app] at h
    split at h
    · rename_i x hx
      simp at h; subst h
      obtain ⟨i, v, o, _, h2, h3, h4⟩ := normH_spec hx
      exact .inl ⟨i, v, o, h2, h3, h4⟩
    · rename_i hx
      rw [lk_app, kill_spec] at h
      by_cases e : j ∈ ids
      · cases hl : lk H j with
        | none => simp [e, hl] at h
        | some x =>
          simp [e, hl] at h
          obtain ⟨rfl, rfl⟩ := h
          exact .inr (.inl ⟨rfl, x.1, x.2, e, rfl, rfl⟩)
      · simp [e] at h
        refine .inr (.inr ⟨e, h, ?_⟩)
        rintro ⟨i, v, s', hg⟩
        obtain ⟨o, ho⟩ := hN.cur i v j s' hg
        rw [normH_has hN ho hg (hm ho)] at hx
        cases hx
  have hver : ∀ j, H.ver j ≤ Heap.ver (normH H' g (H'.map (·.1)) ++ kill H ids ++ H) j := fun j => by
    cases hl : lk (normH H' g (H'.map (·.1)) ++ kill H ids ++ H) j with
    | none =>
      have : lk H j = none := by
        rw [lk_app] at hl
        split at hl
        · cases hl
        · exact hl
      unfold Heap.ver
      rw [this]
      exact Nat.zero_le _
    | some x =>
      obtain ⟨s, o⟩ := x
      rw [lk_ver hl]
      rcases cases3 hl with ⟨i, v, o', h1, h2, _⟩ | ⟨_, r, o', h1, h2, h3⟩ | ⟨h1, h2, _⟩
      · by_cases e : j ∈ ids
        · obtain ⟨r, o2, h3, h4, _⟩ := hin i v j s h2 e
          rw [lk_ver h3]; omega
        · rw [← hout i v j s h2 e]; omega
      · rw [lk_ver h2]; omega
      · rw [lk_ver h2]; omega
  have E : Ext X H w (X'.named X g) (normH H' g (H'.map (·.1)) ++ kill H ids ++ H) w' := by
    refine ⟨hok, hver, fun j s o'' ho hd hr => ?_⟩
    rcases cases3 (obj_lk ho) with ⟨i, v, o, h1, h2, rfl⟩ | ⟨rfl, _⟩ | ⟨h1, h2, h3⟩
    · by_cases e : j ∈ ids
      · obtain ⟨r, o2, h3, h4, h5⟩ := hin i v j s h2 e
        rw [lk_ver h3] at hr
        have hsr : s = r := by omega
        have hd' := Obj.ren_dead.1 hd
        obtain ⟨h6, h7⟩ := h5 hsr o h1 hd'
        subst hsr
        exact ⟨o2, lk_obj h3, h6.trans (Obj.ren_sim g o hd'), (Cx.named_b hN X h2).trans h7⟩
      · rw [hout i v j s h2 e] at hr; omega
    · exact absurd rfl hd
    · exact ⟨o'', lk_obj h2, by cases o'' <;> simp_all [OSim, FsSim.refl], Cx.named_other X h3⟩
  have EF : ExtF g X' H' w' (X'.named X g) (normH H' g (H'.map (·.1)) ++ kill H ids ++ H) w' := by
    refine ⟨fun B hB => ⟨hB, rfl⟩, fun i r j s hf hr => ?_⟩
    obtain ⟨o, ho⟩ := hN.cur i r j s hf
    have hl := told ho hf
    refine ⟨by rw [lk_ver hl]; omega, fun o' ho' hd => ?_⟩
    have := obj_lk ho'
    rw [hl] at this
    simp at this
    subst this
    exact ⟨o, lk_obj ho, Obj.ren_sim g o (Obj.ren_dead.1 hd), Cx.named_b hN X hf⟩
  -- blocks of what was not handed over are none of the callee's
  have hS0 : ∀ B, S1 B → S0 B ∨ w0.heap.size ≤ B := fun B hB => by
    obtain ⟨i, r, o, c, _, h2, h3, h4⟩ := hS1 B hB
    exact (I.sep i r o B c h2 h3 h4).2.1
  have hkeep : ∀ {j s : Nat} {o : Obj} {B c : Nat}, j ∉ ids → lk H j = some (s, o) → o ≠ .dead → X.b j = some (B, c) → ¬ S1 B := fun {j s o B c} h1 h2 h3 h4 h5 => by
    obtain ⟨i, r, o', c', h6, h7, h8, h9⟩ := hS1 B h5
    exact h1 ((I.sep j s o B c h2 h3 h4).2.2 i r o' c' h7 h8 h9 ▸ h6)
  refine ⟨E, ⟨?_, ?_, ?_, ?_, ?_, ?_, ?_, ?_⟩, EF⟩
  · intro j s o'' h
    rcases cases3 h with ⟨i, v, o, h1, h2, rfl⟩ | ⟨rfl, _⟩ | ⟨h1, h2, h3⟩
    · exact (I'.objs i v o h1).extF EF (Cx.named_b hN X h2) fun _ _ _ _ => rfl
    · trivial
    · refine (I.objs j s o'' h2).ext E (Cx.named_other X h3) fun B c hd hB => ?_
      exact I'.frm B (I.lt h2 hd hB) (hkeep h1 h2 hd hB)
  · intro j s o'' B c h hd hB
    rcases cases3 h with ⟨i, v, o, h1, h2, rfl⟩ | ⟨rfl, _⟩ | ⟨h1, h2, h3⟩
    · rw [Cx.named_b hN X h2] at hB
      obtain ⟨h4, h5, h6⟩ := I'.sep i v o B c h1 (Obj.ren_dead.1 hd) hB
      refine ⟨h4, ?_, fun j' s' o2 c' h' hd' hB' => ?_⟩
      · rcases h5 with h5 | h5
        · exact hS0 B h5
        · exact .inr (Nat.le_trans I.size h5)
      · rcases cases3 h' with ⟨i', v', o', h1', h2', rfl⟩ | ⟨rfl, _⟩ | ⟨h1', h2', h3'⟩
        · rw [Cx.named_b hN X h2'] at hB'
          have := h6 i' v' o' c' h1' (Obj.ren_dead.1 hd') hB'
          subst this
          rw [h1] at h1'
          simp at h1'
          obtain ⟨rfl, rfl⟩ := h1'
          rw [h2] at h2'
          simp at h2'
          exact h2'.1.symm
        · exact absurd rfl hd'
        · rw [Cx.named_other X h3'] at hB'
          exfalso
          rcases h5 with h5 | h5
          · exact hkeep h1' h2' hd' hB' h5
          · have := I.lt h2' hd' hB'; omega
    · exact absurd rfl hd
    · rw [Cx.named_other X h3] at hB
      obtain ⟨h4, h5, h6⟩ := I.sep j s o'' B c h2 hd hB
      have hlt := I.lt h2 hd hB
      have hnS := hkeep h1 h2 hd hB
      refine ⟨fun hX => ?_, h5, fun j' s' o2 c' h' hd' hB' => ?_⟩
      · rcases (I'.okb B hX).2 with h7 | h7 | h7
        · exact h4 h7
        · exact hnS h7
        · omega
      · rcases cases3 h' with ⟨i', v', o', h1', h2', rfl⟩ | ⟨rfl, _⟩ | ⟨h1', h2', h3'⟩
        · rw [Cx.named_b hN X h2'] at hB'
          exfalso
          rcases (I'.sep i' v' o' B c' h1' (Obj.ren_dead.1 hd') hB').2.1 with h7 | h7
          · exact hnS h7
          · omega
        · exact absurd rfl hd'
        · rw [Cx.named_other X h3'] at hB'
          exact h6 j' s' o2 c' h2' hd' hB'
  · intro B hB
    obtain ⟨h1, h2⟩ := I'.okb B hB
    refine ⟨h1, ?_⟩
    rcases h2 with h2 | h2 | h2
    · exact (I.okb B h2).2
    · exact .inr (hS0 B h2)
    · exact .inr (.inr (Nat.le_trans I.size h2))
  · intro B h1 h2
    have h3 : ¬ S1 B := fun h => by
      rcases hS0 B h with h | h
      · exact h2 h
      · omega
    exact (I'.frm B (Nat.lt_of_lt_of_le h1 I.size) h3).trans (I.frm B h1 h2)
  · exact Nat.le_trans I.size I'.size
  · exact I'.os.trans I.os
  · exact I'.tape.trans I.tape
  · exact I'.output.trans I.output
end
end Go.Ab
