/- What the abstract interpreter's values and objects stand for in the model's memory. -/
import Derived.Test.YtknccfhaoclimaaDoorA1
import Derived.Laws.BytesArg
import Derived.Lib.ConvBytes
import Derived.Great.BuildSlice

set_option linter.unusedVariables false
set_option linter.unusedSimpArgs false
namespace Go.Ab
open Go

def inR (k : IntKind) (n : Int) : Prop := k.min ≤ n ∧ n ≤ k.max
/-- These cells lie there. -/
def At (w : World) (B off : Nat) (cs : List Value) : Prop := ∀ j, (h : j < cs.length) → w.cell? ⟨B, off + j, none⟩ = some cs[j]

/-- What plain data stands for: cells, and what they lead to; all blocks that are met are of 'ok'. -/
inductive Rep (w : World) (ok : Nat → Prop) : (t : Ty) → t.T → List Value → Prop
  | int (k : IntKind) (n : Int) : inR k n → Rep w ok (.int k) n [.int k n]
  | bool (b : Bool) : Rep w ok .bool b [.bool b]
  | str (s : ByteArray) : s.size ≤ maxStr → Rep w ok .str (strBytes s) [.string s]
  | sl0 (t : Ty) (A : Option Addr) (c : Nat) : Rep w ok (.sl t) ([] : List t.T) [.slice A 0 c]
  | sl (t : Ty) (xs : List t.T) (B off c : Nat) (cs : List Value) : Rep w ok (.ar xs.length t) xs cs → At w B off cs → ok B → xs.length ≤ c → xs.length ≤ maxBytes →
      Rep w ok (.sl t) xs [.slice (some ⟨B, off, none⟩) xs.length c]
  | un : Rep w ok .un () []
  | pr (a b : Ty) (x : a.T) (y : b.T) (cs ds : List Value) : Rep w ok a x cs → Rep w ok b y ds → Rep w ok (.pr a b) (x, y) (cs ++ ds)
  | ar0 (t : Ty) : Rep w ok (.ar 0 t) ([] : List t.T) []
  | arS (n : Nat) (t : Ty) (x : t.T) (xs : List t.T) (cs ds : List Value) : Rep w ok t x cs → Rep w ok (.ar n t) xs ds → Rep w ok (.ar (n + 1) t) (x :: xs : List t.T) (cs ++ ds)
  | tree (l : Ty) (x : l.T) (kids : List (Tree l.T)) (cs : List Value) (v : Value) : Rep w ok l x cs → Rep w ok (.sl (.tree l)) kids [v] → Rep w ok (.tree l) (.node x kids) (cs ++ [v])

theorem At.mono {w w' : World} {B off : Nat} {cs : List Value} (h : At w B off cs) (hb : w'.heap[B]? = w.heap[B]?) : At w' B off cs := by
  intro j hj
  have := h j hj
  unfold World.cell? at this ⊢
  simp only [hb]
  exact this

/-- Plain data stays what it is while its blocks lie as they lay. -/
theorem Rep.mono {w w' : World} {ok ok' : Nat → Prop} (hk : ∀ B, ok B → ok' B ∧ w'.heap[B]? = w.heap[B]?) {t : Ty} {x : t.T} {cs : List Value} (h : Rep w ok t x cs) : Rep w' ok' t x cs := by
  induction h with
  | int k n h => exact .int k n h
  | bool b => exact .bool b
  | str s h => exact .str s h
  | sl0 t A c => exact .sl0 t A c
  | sl t xs B off c cs _ hat hok hc hm ih => exact .sl t xs B off c cs ih (hat.mono (hk B hok).2) (hk B hok).1 hc hm
  | un => exact .un
  | pr a b x y cs ds _ _ i1 i2 => exact .pr a b x y cs ds i1 i2
  | ar0 t => exact .ar0 t
  | arS n t x xs cs ds _ _ i1 i2 => exact .arS n t x xs cs ds i1 i2
  | tree l x kids cs v _ _ i1 i2 => exact .tree l x kids cs v i1 i2

theorem Rep.length {w : World} {ok : Nat → Prop} {t : Ty} {x : t.T} {cs : List Value} (h : Rep w ok t x cs) : cs.length = t.size := by
  induction h with
  | pr a b x y cs ds _ _ i1 i2 => simp [i1, i2, Ty.size]
  | arS n t x xs cs ds _ _ i1 i2 => simp [i1, i2, Ty.size, Nat.succ_mul]; omega
  | tree l x kids cs v _ _ i1 i2 => simp [i1, Ty.size]
  | _ => simp [Ty.size]

variable {w : World} {ok : Nat → Prop}
theorem Rep.int_inv {k : IntKind} {n : Int} {cs : List Value} (h : Rep w ok (.int k) n cs) : cs = [.int k n] ∧ inR k n := by cases h; exact ⟨rfl, ‹_›⟩
theorem Rep.bool_inv {b : Bool} {cs : List Value} (h : Rep w ok .bool b cs) : cs = [.bool b] := by cases h; rfl
theorem Rep.str_inv {s : List Int} {cs : List Value} (h : Rep w ok .str s cs) : ∃ b : ByteArray, cs = [.string b] ∧ strBytes b = s ∧ b.size ≤ maxStr := by cases h; exact ⟨_, rfl, rfl, ‹_›⟩
theorem Rep.un_inv {x : Unit} {cs : List Value} (h : Rep w ok .un x cs) : cs = [] := by cases h; rfl
theorem Rep.pr_inv {a b : Ty} {x : a.T × b.T} {cs : List Value} (h : Rep w ok (.pr a b) x cs) : ∃ c d, cs = c ++ d ∧ Rep w ok a x.1 c ∧ Rep w ok b x.2 d := by
  cases h; exact ⟨_, _, rfl, ‹_›, ‹_›⟩
theorem Rep.tree_inv {l : Ty} {x : Tree l.T} {cs : List Value} (h : Rep w ok (.tree l) x cs) : ∃ c v, cs = c ++ [v] ∧ Rep w ok l x.val c ∧ Rep w ok (.sl (.tree l)) x.kids [v] := by
  cases h; exact ⟨_, _, rfl, ‹_›, ‹_›⟩
theorem Rep.sl_inv {t : Ty} {xs : List t.T} {cs : List Value} (h : Rep w ok (.sl t) xs cs) : ∃ A c, cs = [.slice A xs.length c] ∧ xs.length ≤ maxBytes ∧
    (0 < xs.length → ∃ B off ds, A = some ⟨B, off, none⟩ ∧ ok B ∧ Rep w ok (.ar xs.length t) xs ds ∧ At w B off ds ∧ xs.length ≤ c) := by
  cases h with
  | sl0 _ A c => exact ⟨A, c, rfl, by simp, fun h => absurd h (by simp)⟩
  | sl _ _ B off c ds h1 h2 h3 h4 h5 => exact ⟨_, c, rfl, h5, fun _ => ⟨B, off, ds, rfl, h3, h1, h2, h4⟩⟩
theorem Rep.ar_len {n : Nat} {t : Ty} {xs : List t.T} {cs : List Value} (h : Rep w ok (.ar n t) xs cs) : xs.length = n := by
  induction n generalizing xs cs with
  | zero => cases h; rfl
  | succ n ih => cases h with | arS _ _ x xs cs ds h1 h2 => simp [ih h2]
theorem Rep.ar_cons {n : Nat} {t : Ty} {x : t.T} {xs : List t.T} {cs : List Value} (h : Rep w ok (.ar (n + 1) t) (x :: xs : List t.T) cs) : ∃ a b, cs = a ++ b ∧ Rep w ok t x a ∧ Rep w ok (.ar n t) xs b := by
  cases h; exact ⟨_, _, rfl, ‹_›, ‹_›⟩
theorem Rep.ar_append {n m : Nat} {t : Ty} {xs ys : List t.T} {cs ds : List Value} (h : Rep w ok (.ar n t) xs cs) (h' : Rep w ok (.ar m t) ys ds) : Rep w ok (.ar (n + m) t) (xs ++ ys : List t.T) (cs ++ ds) := by
  induction n generalizing xs cs with
  | zero => cases h; rw [Nat.zero_add]; simpa using h'
  | succ n ih => cases h with
    | arS _ _ x xs cs es h1 h2 =>
      have := Rep.arS _ t x (xs ++ ys) cs (es ++ ds) h1 (ih h2)
      rw [show n + 1 + m = n + m + 1 by omega]
      simpa [List.append_assoc] using this
theorem Rep.ar_split {n m : Nat} {t : Ty} {xs : List t.T} {cs : List Value} (h : Rep w ok (.ar (n + m) t) xs cs) :
    ∃ as bs, cs = as ++ bs ∧ Rep w ok (.ar n t) (xs.take n : List t.T) as ∧ Rep w ok (.ar m t) (xs.drop n : List t.T) bs := by
  induction n generalizing xs cs with
  | zero => exact ⟨[], cs, rfl, by simpa using Rep.ar0 t, by rw [Nat.zero_add] at h; simpa using h⟩
  | succ n ih =>
    rw [show n + 1 + m = n + m + 1 by omega] at h
    cases h with
    | arS _ _ x xs cs ds h1 h2 =>
      obtain ⟨as, bs, rfl, h3, h4⟩ := ih h2
      exact ⟨cs ++ as, bs, by simp, by simpa using Rep.arS _ t x _ _ _ h1 h3, by simpa using h4⟩
theorem Rep.ar_get {n : Nat} {t : Ty} {xs : List t.T} {cs : List Value} (h : Rep w ok (.ar n t) xs cs) (j : Nat) (hj : j < n) (d : t.T) :
    ∃ as b bs, cs = as ++ (b ++ bs) ∧ as.length = j * t.size ∧ Rep w ok t (xs.getD j d) b ∧ Rep w ok (.ar j t) (xs.take j : List t.T) as ∧ Rep w ok (.ar (n - j - 1) t) (xs.drop (j + 1) : List t.T) bs := by
  have hl := h.ar_len
  obtain ⟨m, rfl⟩ : ∃ m, n = j + (m + 1) := ⟨n - j - 1, by omega⟩
  obtain ⟨as, r, rfl, h1, h2⟩ := h.ar_split
  have hne : j < xs.length := by omega
  have he : xs.drop j = xs.getD j d :: xs.drop (j + 1) := by
    rw [List.drop_eq_getElem_cons hne]
    simp [hne]
  rw [he] at h2
  obtain ⟨b, bs, rfl, h3, h4⟩ := h2.ar_cons
  exact ⟨as, b, bs, rfl, by simpa [Ty.size] using h1.length, h3, h1, by rw [show j + (m + 1) - j - 1 = m by omega]; exact h4⟩
theorem Rep.ar_set {n : Nat} {t : Ty} {xs : List t.T} {as bs b' : List Value} {j : Nat} {y : t.T} (hj : j < n) (h1 : Rep w ok (.ar j t) (xs.take j : List t.T) as) (hb : Rep w ok t y b')
    (h2 : Rep w ok (.ar (n - j - 1) t) (xs.drop (j + 1) : List t.T) bs) (hl : xs.length = n) : Rep w ok (.ar n t) (xs.set j y : List t.T) (as ++ (b' ++ bs)) := by
  have h3 := h1.ar_append (Rep.arS _ t y _ _ _ hb h2)
  rw [show j + (n - j - 1 + 1) = n by omega] at h3
  rwa [List.set_eq_take_append_cons_drop, if_pos (by omega)]

/-! ### Cells of the interpreter's -/
/-- Object name ↦ its block, and how many elements have room there; the blocks of plain data. -/
structure Cx where
  b : Nat → Option (Nat × Nat)
  ok : Nat → Prop

def wsum (fs : List Fld) : Nat := (fs.map Fld.width).sum
def RowV (pl : Option (Nat × Nat)) (sz lo n : Nat) (v : Value) : Prop :=
  match pl with
  | none => v = .slice none 0 0 ∧ n = 0 ∧ lo = 0
  | some (B, cap) => ∃ A, v = .slice A n (cap - lo) ∧ lo + n ≤ cap ∧ (0 < n ∨ lo = 0 → A = some ⟨B, lo * sz, none⟩)
def Ty.ws (t : Ty) : List Nat := (t.flds t.dflt).map Fld.width
def C.RefOk (H : Heap) (i r : Nat) : Prop := r < H.ver i

def CRel (X : Cx) (H : Heap) (w : World) : C → Value → Prop
  | .any, _ => True
  | .int k n, v => v = .int k n ∧ inR k n
  | .bool b, v => v = .bool b
  | .kb b, v => v = .bool b
  | .str s, v => ∃ b : ByteArray, v = .string b ∧ strBytes b = s ∧ b.size ≤ maxStr
  | .nilp, v => v = .pointer none
  | .nilf, v => v = .nilFunc
  | .nils, v => v = .slice none 0 0
  | .fn f l, v => ∃ vs : Array Value, v = .func (.func f) #[] vs ∧ vs.size = l.length ∧ ∀ (j i r : Nat), l[j]? = some (i, r) → (r < H.ver i ∧ ∃ u, vs[j]? = some u ∧ u.oneCell' = true) ∧ ∀ fs, H.obj i r = some (.box fs) → ∃ B c, X.b i = some (B, c) ∧ vs[j]? = some (Value.pointer (some ⟨B, 0, none⟩))
  | .ro t xs, v => Rep w X.ok (.sl t) xs [v]
  | .rox t xs, v => Rep w X.ok (.sl t) xs [v] ∧ ∃ A, v = .slice A xs.length xs.length
  | .ow i r, v => (r < H.ver i ∧ v.oneCell' = true) ∧ ∀ t xs, H.obj i r = some (.row t xs) → RowV (X.b i) t.size 0 xs.length v
  | .os i r lo n, v => (r < H.ver i ∧ v.oneCell' = true) ∧ ∀ t xs, H.obj i r = some (.row t xs) → lo + n ≤ xs.length ∧ RowV (X.b i) t.size lo n v
  | .oa i r p lo n, v => (r < H.ver i ∧ v.oneCell' = true) ∧ ∀ fs, H.obj i r = some (.box fs) → ∃ m t xs B c A cp, fs[p]? = some (.a m t xs) ∧ lo + n ≤ m ∧ X.b i = some (B, c) ∧ v = .slice A n cp ∧ (0 < n → A = some ⟨B, wsum (fs.take p) + lo * t.size, none⟩)
  | .pb i r p, v => (r < H.ver i ∧ v.oneCell' = true) ∧ ∀ fs, H.obj i r = some (.box fs) → ∃ B c, X.b i = some (B, c) ∧ v = .pointer (some ⟨B, wsum (fs.take p), none⟩)
  | .pa i r p e q, v => (r < H.ver i ∧ v.oneCell' = true) ∧ ∀ fs, H.obj i r = some (.box fs) → ∃ m t xs B c, fs[p]? = some (.a m t xs) ∧ e < m ∧ X.b i = some (B, c) ∧ v = .pointer (some ⟨B, wsum (fs.take p) + e * t.size + (t.ws.take q).sum, none⟩)
  | .pe i r e q, v => (r < H.ver i ∧ v.oneCell' = true) ∧ ∀ t xs, H.obj i r = some (.row t xs) → ∃ B c, X.b i = some (B, c) ∧ e < xs.length ∧ v = .pointer (some ⟨B, e * t.size + (t.ws.take q).sum, none⟩)
  | .rop t x q, v => ∃ B off cs, v = .pointer (some ⟨B, off + (t.ws.take q).sum, none⟩) ∧ X.ok B ∧ Rep w X.ok t x cs ∧ At w B off cs
  | .pi i r, v => (r < H.ver i ∧ v.oneCell' = true) ∧ ∀ s p, H.obj i r = some (.it s p) → ∃ B c, X.b i = some (B, c) ∧ v = .pointer (some ⟨B, 0, none⟩)

def FRel (X : Cx) (H : Heap) (w : World) : List Fld → List Value → Prop
  | [], vs => vs = []
  | .c x :: r, vs => ∃ v us, vs = v :: us ∧ v.oneCell' = true ∧ CRel X H w x v ∧ FRel X H w r us
  | .a n t xs :: r, vs => ∃ as us, vs = as ++ us ∧ Rep w X.ok (.ar n t) xs as ∧ (∀ v ∈ as, v.oneCell' = true) ∧ FRel X H w r us
def AVRel (X : Cx) (H : Heap) (w : World) : AV → Value → Prop
  | .one c, v => CRel X H w c v
  | .agg fs, v => ∃ cs : Array Value, v = .agg cs ∧ FRel X H w fs cs.toList
def AVsRel (X : Cx) (H : Heap) (w : World) : List AV → List Value → Prop
  | [], vs => vs = []
  | a :: r, vs => ∃ v us, vs = v :: us ∧ AVRel X H w a v ∧ AVsRel X H w r us
def TVRel (X : Cx) (H : Heap) (w : World) : TV → Value → Prop
  | .v x, v => AVRel X H w x v
  | .tup l, v => ∃ vs : Array Value, v = .tuple vs ∧ AVsRel X H w l vs.toList

/-- Two objects of one shape: only what they hold may part. -/
def FSim : Fld → Fld → Prop
  | .c _, .c _ => True
  | .a n t xs, .a m u ys => n = m ∧ t = u
  | _, _ => False
def FsSim : List Fld → List Fld → Prop
  | [], [] => True
  | f :: r, g :: s => FSim f g ∧ FsSim r s
  | _, _ => False
def OSim : Obj → Obj → Prop
  | .box fs, .box gs => FsSim fs gs
  | .row t xs, .row u ys => t = u ∧ xs.length = ys.length
  | .it .., .it .. => True
  | _, _ => False

theorem FSim.refl (f : Fld) : FSim f f := by cases f <;> simp [FSim]
theorem FsSim.refl : ∀ fs : List Fld, FsSim fs fs
  | [] => trivial
  | f :: r => ⟨FSim.refl f, FsSim.refl r⟩
theorem FSim.width {f g : Fld} (h : FSim f g) : f.width = g.width := by
  cases f <;> cases g <;> simp_all [FSim, Fld.width]
theorem FsSim.trans : ∀ {a b c : List Fld}, FsSim a b → FsSim b c → FsSim a c
  | [], [], [], _, _ => trivial
  | f :: r, g :: s, h :: t, h1, h2 => by
    refine ⟨?_, FsSim.trans h1.2 h2.2⟩
    have := h1.1; have := h2.1
    cases f <;> cases g <;> cases h <;> simp_all [FSim]
theorem FsSim.length : ∀ {a b : List Fld}, FsSim a b → a.length = b.length
  | [], [], _ => rfl
  | f :: r, g :: s, h => by simp [FsSim.length h.2]
theorem FsSim.wsum_take : ∀ {a b : List Fld} (p : Nat), FsSim a b → wsum (a.take p) = wsum (b.take p)
  | [], [], p, _ => rfl
  | f :: r, g :: s, 0, _ => rfl
  | f :: r, g :: s, p + 1, h => by
    have := FsSim.wsum_take p h.2
    have := h.1.width
    simp_all [wsum]
theorem FsSim.get : ∀ {a b : List Fld} (p : Nat), FsSim a b → ∀ {n t xs}, a[p]? = some (.a n t xs) → ∃ ys, b[p]? = some (.a n t ys)
  | [], [], p, _, _, _, _, h => by simp at h
  | f :: r, g :: s, 0, h, n, t, xs, e => by
    simp at e; subst e
    have := h.1
    cases g with
    | c x => simp [FSim] at this
    | a m u ys => simp [FSim] at this; obtain ⟨rfl, rfl⟩ := this; exact ⟨ys, by simp⟩
  | f :: r, g :: s, p + 1, h, n, t, xs, e => by
    simp at e
    obtain ⟨ys, h2⟩ := FsSim.get p h.2 e
    exact ⟨ys, by simpa using h2⟩
theorem OSim.refl_box (fs : List Fld) : OSim (.box fs) (.box fs) := FsSim.refl fs

/-- From one state to a later one: what is plain data lies as it lay; what is named by a cell of the earlier state is, where it is there at all, of the shape that it had. -/
structure Ext (X : Cx) (H : Heap) (w : World) (X' : Cx) (H' : Heap) (w' : World) : Prop where
  ok : ∀ B, X.ok B → X'.ok B ∧ w'.heap[B]? = w.heap[B]?
  ver : ∀ i, H.ver i ≤ H'.ver i
  ref : ∀ i r o', H'.obj i r = some o' → o' ≠ .dead → r < H.ver i → ∃ o, H.obj i r = some o ∧ OSim o o' ∧ X'.b i = X.b i

theorem Ext.refl (X : Cx) (H : Heap) (w : World) : Ext X H w X H w where
  ok _ h := ⟨h, rfl⟩
  ver _ := Nat.le_refl _
  ref i r o' h hd _ := ⟨o', h, by cases o' <;> simp_all [OSim, FsSim.refl], rfl⟩
theorem OSim.trans {a b c : Obj} (h : OSim a b) (h' : OSim b c) : OSim a c := by
  cases a <;> cases b <;> cases c <;> simp_all [OSim]
  exact FsSim.trans h h'
theorem Ext.trans {X Y Z : Cx} {H H' H'' : Heap} {w w' w'' : World} (h : Ext X H w Y H' w') (k : Ext Y H' w' Z H'' w'') : Ext X H w Z H'' w'' where
  ok B hB := ⟨(k.ok B (h.ok B hB).1).1, (k.ok B (h.ok B hB).1).2.trans (h.ok B hB).2⟩
  ver i := Nat.le_trans (h.ver i) (k.ver i)
  ref i r o'' ho hd hr := by
    obtain ⟨o', h1, h2, h3⟩ := k.ref i r o'' ho hd (Nat.lt_of_lt_of_le hr (h.ver i))
    obtain ⟨o, h4, h5, h6⟩ := h.ref i r o' h1 (by intro e; subst e; simp [OSim] at h2) hr
    exact ⟨o, h4, h5.trans h2, h3.trans h6⟩

theorem Ext.box {X X' : Cx} {H H' : Heap} {w w' : World} (E : Ext X H w X' H' w') {i r : Nat} {gs : List Fld} (h : H'.obj i r = some (.box gs)) (hr : r < H.ver i) :
    ∃ fs, H.obj i r = some (.box fs) ∧ FsSim fs gs ∧ X'.b i = X.b i := by
  obtain ⟨o, h1, h2, h3⟩ := E.ref i r _ h (by simp) hr
  cases o <;> simp [OSim] at h2
  exact ⟨_, h1, h2, h3⟩
theorem Ext.row {X X' : Cx} {H H' : Heap} {w w' : World} (E : Ext X H w X' H' w') {i r : Nat} {t : Ty} {ys : List t.T} (h : H'.obj i r = some (.row t ys)) (hr : r < H.ver i) :
    ∃ xs : List t.T, H.obj i r = some (.row t xs) ∧ xs.length = ys.length ∧ X'.b i = X.b i := by
  obtain ⟨o, h1, h2, h3⟩ := E.ref i r _ h (by simp) hr
  cases o with
  | row u xs => simp only [OSim] at h2; obtain ⟨rfl, h2⟩ := h2; exact ⟨xs, h1, h2, h3⟩
  | _ => simp [OSim] at h2
theorem Ext.it {X X' : Cx} {H H' : Heap} {w w' : World} (E : Ext X H w X' H' w') {i r : Nat} {s : List Int} {p : Nat} (h : H'.obj i r = some (.it s p)) (hr : r < H.ver i) :
    ∃ s p, H.obj i r = some (.it s p) ∧ X'.b i = X.b i := by
  obtain ⟨o, h1, h2, h3⟩ := E.ref i r _ h (by simp) hr
  cases o <;> simp [OSim] at h2
  exact ⟨_, _, h1, h3⟩

theorem CRel.ext {X X' : Cx} {H H' : Heap} {w w' : World} (E : Ext X H w X' H' w') {c : C} {v : Value} (h : CRel X H w c v) : CRel X' H' w' c v := by
  cases c with
  | any => trivial
  | int k n => exact h
  | bool b => exact h
  | kb b => exact h
  | str s => exact h
  | nilp => exact h
  | nilf => exact h
  | nils => exact h
  | fn f l =>
    obtain ⟨vs, h1, h2, h3⟩ := h
    refine ⟨vs, h1, h2, fun j i r hj => ⟨⟨Nat.lt_of_lt_of_le (h3 j i r hj).1.1 (E.ver i), (h3 j i r hj).1.2⟩, fun gs hg => ?_⟩⟩
    obtain ⟨fs, h4, h5, h6⟩ := E.box hg (h3 j i r hj).1.1
    rw [h6]; exact (h3 j i r hj).2 fs h4
  | ro t xs => exact Rep.mono E.ok h
  | rox t xs => exact ⟨Rep.mono E.ok h.1, h.2⟩
  | ow i r =>
    refine ⟨⟨Nat.lt_of_lt_of_le h.1.1 (E.ver i), h.1.2⟩, fun t ys hg => ?_⟩
    obtain ⟨xs, h4, h5, h6⟩ := E.row hg h.1.1
    rw [h6, ← h5]; exact h.2 t xs h4
  | os i r lo n =>
    refine ⟨⟨Nat.lt_of_lt_of_le h.1.1 (E.ver i), h.1.2⟩, fun t ys hg => ?_⟩
    obtain ⟨xs, h4, h5, h6⟩ := E.row hg h.1.1
    rw [h6, ← h5]; exact h.2 t xs h4
  | oa i r p lo n =>
    refine ⟨⟨Nat.lt_of_lt_of_le h.1.1 (E.ver i), h.1.2⟩, fun gs hg => ?_⟩
    obtain ⟨fs, h4, h5, h6⟩ := E.box hg h.1.1
    obtain ⟨m, t, xs, B, c, A, cp, h7, h8, h9, h10, h11⟩ := h.2 fs h4
    obtain ⟨ys, h12⟩ := FsSim.get p h5 h7
    exact ⟨m, t, ys, B, c, A, cp, h12, h8, by rw [h6]; exact h9, h10, by rw [← FsSim.wsum_take p h5]; exact h11⟩
  | pb i r p =>
    refine ⟨⟨Nat.lt_of_lt_of_le h.1.1 (E.ver i), h.1.2⟩, fun gs hg => ?_⟩
    obtain ⟨fs, h4, h5, h6⟩ := E.box hg h.1.1
    rw [h6, ← FsSim.wsum_take p h5]; exact h.2 fs h4
  | pa i r p e q =>
    refine ⟨⟨Nat.lt_of_lt_of_le h.1.1 (E.ver i), h.1.2⟩, fun gs hg => ?_⟩
    obtain ⟨fs, h4, h5, h6⟩ := E.box hg h.1.1
    obtain ⟨m, t, xs, B, c, h7, h8, h9, h10⟩ := h.2 fs h4
    obtain ⟨ys, h12⟩ := FsSim.get p h5 h7
    exact ⟨m, t, ys, B, c, h12, h8, by rw [h6]; exact h9, by rw [← FsSim.wsum_take p h5]; exact h10⟩
  | pe i r e q =>
    refine ⟨⟨Nat.lt_of_lt_of_le h.1.1 (E.ver i), h.1.2⟩, fun t ys hg => ?_⟩
    obtain ⟨xs, h4, h5, h6⟩ := E.row hg h.1.1
    rw [h6, ← h5]; exact h.2 t xs h4
  | rop t x q =>
    obtain ⟨B, off, cs, h1, h2, h3, h4⟩ := h
    exact ⟨B, off, cs, h1, (E.ok B h2).1, h3.mono E.ok, h4.mono (E.ok B h2).2⟩
  | pi i r =>
    refine ⟨⟨Nat.lt_of_lt_of_le h.1.1 (E.ver i), h.1.2⟩, fun s p hg => ?_⟩
    obtain ⟨s', p', h4, h6⟩ := E.it hg h.1.1
    rw [h6]; exact h.2 _ _ h4
theorem FRel.ext {X X' : Cx} {H H' : Heap} {w w' : World} (E : Ext X H w X' H' w') : ∀ {fs : List Fld} {vs : List Value}, FRel X H w fs vs → FRel X' H' w' fs vs
  | [], _, h => h
  | .c x :: r, _, ⟨v, us, h1, h2, h3, h4⟩ => ⟨v, us, h1, h2, h3.ext E, FRel.ext E h4⟩
  | .a n t xs :: r, _, ⟨as, us, h1, h2, h3, h4⟩ => ⟨as, us, h1, h2.mono E.ok, h3, FRel.ext E h4⟩
theorem AVRel.ext {X X' : Cx} {H H' : Heap} {w w' : World} (E : Ext X H w X' H' w') {a : AV} {v : Value} (h : AVRel X H w a v) : AVRel X' H' w' a v := by
  cases a with
  | one c => exact CRel.ext E h
  | agg fs => obtain ⟨cs, h1, h2⟩ := h; exact ⟨cs, h1, h2.ext E⟩
theorem AVsRel.ext {X X' : Cx} {H H' : Heap} {w w' : World} (E : Ext X H w X' H' w') : ∀ {l : List AV} {vs : List Value}, AVsRel X H w l vs → AVsRel X' H' w' l vs
  | [], _, h => h
  | a :: r, _, ⟨v, us, h1, h2, h3⟩ => ⟨v, us, h1, h2.ext E, AVsRel.ext E h3⟩
theorem TVRel.ext {X X' : Cx} {H H' : Heap} {w w' : World} (E : Ext X H w X' H' w') {a : TV} {v : Value} (h : TVRel X H w a v) : TVRel X' H' w' a v := by
  cases a with
  | v x => exact AVRel.ext E h
  | tup l => obtain ⟨vs, h1, h2⟩ := h; exact ⟨vs, h1, h2.ext E⟩

/-! ### The objects -/
def NoFr (fr : Nat × Nat) (n : Nat) : Prop := fr.1 ≤ fr.2 ∧ ∀ off, off < n → ¬ (fr.1 ≤ off ∧ off < fr.2)
/-- A row's block: so much room, these cells at its head. -/
def RowAt (w : World) (B cap sz : Nat) (cs : List Value) : Prop :=
  ∃ cur ty fr, w.heap[B]? = some (.cells cur ty fr) ∧ cur.size = cap * sz ∧ NoFr fr cur.size ∧ cs.length ≤ cur.size ∧ cur.toList.take cs.length = cs
def ObjRel (X : Cx) (H : Heap) (w : World) (i : Nat) : Obj → Prop
  | .box fs => ∃ B c cur ty fr, X.b i = some (B, c) ∧ w.heap[B]? = some (.cells cur ty fr) ∧ NoFr fr cur.size ∧ FRel X H w fs cur.toList
  | .row t xs => (X.b i = none ∧ xs = []) ∨ ∃ B cap cs, X.b i = some (B, cap) ∧ xs.length ≤ cap ∧ xs.length ≤ maxBytes ∧ cap ≤ maxLen ∧ Rep w X.ok (.ar xs.length t) xs cs ∧ RowAt w B cap t.size cs
  | .it s p => ∃ B c b, X.b i = some (B, c) ∧ w.heap[B]? = some (.stringIter b p) ∧ strBytes b = s ∧ b.size ≤ maxStr
  | .dead => True
/-- The state of memory, since the world w0: S0: the blocks that were handed over to be written; ok0: those of plain data then. -/
structure Inv (w0 : World) (S0 ok0 : Nat → Prop) (X : Cx) (H : Heap) (w : World) : Prop where
  objs : ∀ i r o, lk H i = some (r, o) → ObjRel X H w i o
  sep : ∀ i r o B c, lk H i = some (r, o) → o ≠ .dead → X.b i = some (B, c) → ¬ X.ok B ∧ (S0 B ∨ w0.heap.size ≤ B) ∧
    ∀ j r' o' c', lk H j = some (r', o') → o' ≠ .dead → X.b j = some (B, c') → j = i
  okb : ∀ B, X.ok B → B < w.heap.size ∧ (ok0 B ∨ S0 B ∨ w0.heap.size ≤ B)
  frm : ∀ B, B < w0.heap.size → ¬ S0 B → w.heap[B]? = w0.heap[B]?
  size : w0.heap.size ≤ w.heap.size
  os : w.os = w0.os
  tape : w.tape = w0.tape
  output : w.output = w0.output
end Go.Ab

/- What the abstract interpreter's values and objects stand for: how memory turns. -/
set_option linter.unusedVariables false
set_option linter.unusedSimpArgs false
namespace Go.Ab
open Go

theorem setCell_heap {w : World} {B off : Nat} {v : Value} {cur : Array Value} {ty : TypeId} {fr : Nat × Nat} (h : w.heap[B]? = some (.cells cur ty fr)) :
    (w.setCell ⟨B, off, none⟩ v).heap[B]? = some (.cells (cur.setIfInBounds off v) ty fr) := by
  simp [World.setCell, Array.getElem?_modify, h]
theorem setCell_other {w : World} {B off b : Nat} {v : Value} (h : b ≠ B) : (w.setCell ⟨B, off, none⟩ v).heap[b]? = w.heap[b]? := by
  simp [World.setCell, Array.getElem?_modify, Ne.symm h]
theorem setCells_other {b B : Nat} (h : b ≠ B) : ∀ (vs : List Value) (off : Nat) (w : World), (w.setCells B off vs).heap[b]? = w.heap[b]?
  | [], _, _ => rfl
  | v :: r, off, w => by
    rw [World.setCells, setCells_other h r]
    exact setCell_other h
theorem setCells_heap {B : Nat} {ty : TypeId} {fr : Nat × Nat} : ∀ (vs : List Value) (off : Nat) (w : World) (cur : Array Value), w.heap[B]? = some (.cells cur ty fr) → off + vs.length ≤ cur.size →
    ∃ cur', (w.setCells B off vs).heap[B]? = some (.cells cur' ty fr) ∧ cur'.toList = cur.toList.take off ++ (vs ++ cur.toList.drop (off + vs.length))
  | [], off, w, cur, h, _ => ⟨cur, h, by simp⟩
  | v :: r, off, w, cur, h, hl => by
    simp at hl
    obtain ⟨cur', h1, h2⟩ := setCells_heap r (off + 1) (w.setCell ⟨B, off, none⟩ v) (cur.setIfInBounds off v) (setCell_heap h) (by simp; omega)
    refine ⟨cur', h1, ?_⟩
    rw [h2]
    have hlt : off < cur.toList.length := by simp; omega
    rw [Array.toList_setIfInBounds, List.set_eq_take_append_cons_drop, if_pos hlt]
    have e1 : (cur.toList.take off ++ v :: cur.toList.drop (off + 1)).take (off + 1) = cur.toList.take off ++ [v] := by
      have hn : (cur.toList.take off).length = off := by rw [List.length_take]; omega
      rw [List.take_append, hn, List.take_of_length_le (by rw [hn]; omega), show off + 1 - off = 1 by omega]
      simp
    have e2 : (cur.toList.take off ++ v :: cur.toList.drop (off + 1)).drop (off + 1 + r.length) = cur.toList.drop (off + (r.length + 1)) := by
      rw [List.drop_append]
      have : off + 1 + r.length - (cur.toList.take off).length = r.length + 1 := by simp [List.length_take]; omega
      rw [this, List.drop_eq_nil_of_le (by simp [List.length_take]; omega)]
      simp [List.drop_drop]; congr 1; omega
    rw [e1, e2]
    simp
theorem setCells_size {B : Nat} : ∀ (vs : List Value) (off : Nat) (w : World), (w.setCells B off vs).heap.size = w.heap.size
  | [], _, _ => rfl
  | v :: r, off, w => by rw [World.setCells, setCells_size r, World.size_setCell]
theorem setCells_rest {B : Nat} : ∀ (vs : List Value) (off : Nat) (w : World), (w.setCells B off vs).os = w.os ∧ (w.setCells B off vs).tape = w.tape ∧ (w.setCells B off vs).output = w.output
  | [], _, _ => ⟨rfl, rfl, rfl⟩
  | v :: r, off, w => by rw [World.setCells]; exact setCells_rest r _ _

theorem At.of_row {w : World} {B off : Nat} {cur : Array Value} {ty : TypeId} {fr : Nat × Nat} {cs : List Value} (h : w.heap[B]? = some (.cells cur ty fr)) (as bs : List Value) (e : cur.toList = as ++ (cs ++ bs)) (ho : as.length = off) :
    At w B off cs := by
  intro j hj
  simp only [World.cell?, h, Option.isSome_none, Bool.false_eq_true, if_false]
  rw [← Array.getElem?_toList, e, List.getElem?_append_right (by omega)]
  simp [ho, hj, List.getElem?_append_left]
theorem cell_at {w : World} {B off : Nat} {cs : List Value} (h : At w B off cs) : ∀ j v, cs[j]? = some v → w.cell? ((⟨B, off, none⟩ : Addr).add j) = some v := by
  intro j v hj
  obtain ⟨hl, rfl⟩ := List.getElem?_eq_some_iff.1 hj
  have := h j hl
  unfold Addr.add
  split
  · subst_vars; simpa using this
  · exact this

variable {P : Program} {w : World}
theorem run_und {T : TypeId} {d : TypeDesc} (h : P.underlying T = some d) : (underlying T).run P w = .ok d w := run_underlying h w
theorem run_size {T : TypeId} {n : Nat} (h : szT P T = some n) : (sizeOf T).run P w = .ok n w := by
  unfold szT at h
  obtain ⟨i, hi, rfl⟩ := Option.map_eq_some_iff.1 h
  simp [sizeOf, typeInfo, program, hi, Sem.run]
theorem run_isAgg {T : TypeId} {b : Bool} (h : aggT P T = some b) : (isAgg T).run P w = .ok b w := by
  unfold aggT at h
  split at h
  · rename_i hu; simp at h; subst h; simp [isAgg, run_und hu]
  · rename_i hu; simp at h; subst h; simp [isAgg, run_und hu]
  · rename_i d h1 h2 hu
    simp at h; subst h
    cases d <;> simp_all [isAgg, run_und hu]
  · simp at h
theorem run_loadVar_agg {T : TypeId} {B off : Nat} {cs : List Value} (h : aggT P T = some true) (hs : szT P T = some cs.length) (ha : At w B off cs) :
    (loadVar T ⟨B, off, none⟩).run P w = .ok (.agg cs.toArray) w := by
  simp [loadVar, run_isAgg h, run_size hs, run_loadCells_list w _ cs (cell_at ha)]
theorem run_loadVar_one {T : TypeId} {B off : Nat} {v : Value} (h : aggT P T = some false) (ha : At w B off [v]) : (loadVar T ⟨B, off, none⟩).run P w = .ok v w := by
  have := ha 0 (by simp)
  simp at this
  simp [loadVar, run_isAgg h, load, Sem.run, this]
theorem run_storeVar_at {T : TypeId} {B off : Nat} {v : Value} {cur : Array Value} {ty : TypeId} {fr : Nat × Nat} (hs : szT P T = some v.cells.size) (hh : w.heap[B]? = some (.cells cur ty fr)) (hl : off + v.cells.size ≤ cur.size)
    (hf : NoFr fr cur.size) (h1 : ∀ x ∈ v.cells.toList, x.oneCell' = true) : (storeVar T ⟨B, off, none⟩ v).run P w = .ok () (w.setCells B off v.cells.toList) := by
  have hc := run_storeCells_cells (P := P) B off v.cells.toList 0 w (fun j hj => by
      simp at hj
      simp only [World.cell?, hh, Option.isSome_none, Bool.false_eq_true, if_false, Nat.add_zero]
      rw [Array.getElem?_eq_getElem (by omega)]; rfl) (fun j hj => by
      simp at hj
      simp only [World.frozen?, hh, Nat.add_zero]
      have := hf.2 (off + j) (by omega)
      simp at this ⊢
      exact this) h1
  simp [storeVar, run_size hs, hc]
end Go.Ab

/- How the tie between objects and memory is kept: a new object, one that turns, one that becomes plain data. -/
set_option linter.unusedVariables false
set_option linter.unusedSimpArgs false
namespace Go.Ab
open Go

theorem nbeq {i j : Nat} (h : ¬ i = j) : Nat.beq i j = false := by
  cases hb : Nat.beq i j
  · rfl
  · exact absurd (Nat.eq_of_beq_eq_true hb) h
theorem lk_cons {α : Type} (i j : Nat) (a : α) (l : List (Nat × α)) : lk ((i, a) :: l) j = if i = j then some a else lk l j := by
  by_cases h : i = j
  · subst h; simp [lk]
  · simp [lk, nbeq h, h]
theorem obj_cons (i r j s : Nat) (o : Obj) (H : Heap) : Heap.obj ((i, r, o) :: H) j s = if i = j then (if r = s then some o else none) else H.obj j s := by
  unfold Heap.obj
  rw [lk_cons]
  by_cases h : i = j
  · subst h
    by_cases h2 : r = s
    · subst h2; simp
    · have := nbeq h2
      simp [this, h2]
  · simp [h]
theorem ver_cons (i r j : Nat) (o : Obj) (H : Heap) : Heap.ver ((i, r, o) :: H) j = if i = j then r + 1 else H.ver j := by
  unfold Heap.ver
  rw [lk_cons]
  by_cases h : i = j
  · subst h; simp
  · simp [h]
theorem obj_lk {H : Heap} {i r : Nat} {o : Obj} (h : H.obj i r = some o) : lk H i = some (r, o) := by
  unfold Heap.obj at h
  split at h
  · rename_i v' o' hk
    by_cases h2 : v' = r
    · subst h2; simp at h; subst h; exact hk
    · have := nbeq h2
      simp [this] at h
  · simp at h
theorem lk_obj {H : Heap} {i r : Nat} {o : Obj} (h : lk H i = some (r, o)) : H.obj i r = some o := by
  unfold Heap.obj
  simp [h]
theorem lk_ver {H : Heap} {i r : Nat} {o : Obj} (h : lk H i = some (r, o)) : H.ver i = r + 1 := by
  unfold Heap.ver
  simp [h]
theorem obj_ver {H : Heap} {i r : Nat} {o : Obj} (h : H.obj i r = some o) : H.ver i = r + 1 := lk_ver (obj_lk h)

theorem Ext.upd {X X' : Cx} {H : Heap} {w w' : World} {i r : Nat} {o' : Obj} (hok : ∀ B, X.ok B → X'.ok B ∧ w'.heap[B]? = w.heap[B]?) (hb : ∀ j, j ≠ i → X'.b j = X.b j)
    (hv : H.ver i ≤ r + 1) (hs : r < H.ver i → o' ≠ .dead → ∃ o, H.obj i r = some o ∧ OSim o o' ∧ X'.b i = X.b i) : Ext X H w X' ((i, r, o') :: H) w' where
  ok := hok
  ver j := by
    rw [ver_cons]
    split
    · subst_vars; exact hv
    · exact Nat.le_refl _
  ref j s o ho hd hr := by
    rw [obj_cons] at ho
    by_cases h : i = j
    · subst h
      by_cases h2 : r = s
      · subst h2
        simp at ho
        subst ho
        exact hs hr hd
      · simp [h2] at ho
    · simp [h] at ho
      exact ⟨o, ho, by cases o <;> simp_all [OSim, FsSim.refl], hb j (Ne.symm h)⟩

theorem ObjRel.ext {X X' : Cx} {H H' : Heap} {w w' : World} (E : Ext X H w X' H' w') {i : Nat} {o : Obj} (hb : X'.b i = X.b i) (hw : ∀ B c, o ≠ .dead → X.b i = some (B, c) → w'.heap[B]? = w.heap[B]?) (h : ObjRel X H w i o) : ObjRel X' H' w' i o := by
  cases o with
  | box fs =>
    obtain ⟨B, c, cur, ty, fr, h1, h2, h3, h4⟩ := h
    exact ⟨B, c, cur, ty, fr, hb.trans h1, (hw B c (by simp) h1).trans h2, h3, h4.ext E⟩
  | row t xs =>
    rcases h with ⟨h1, h2⟩ | ⟨B, cap, cs, h1, h2, h3, h3', h4, cur, ty, fr, h5, h6, h7⟩
    · exact .inl ⟨hb.trans h1, h2⟩
    · exact .inr ⟨B, cap, cs, hb.trans h1, h2, h3, h3', h4.mono E.ok, cur, ty, fr, (hw B cap (by simp) h1).trans h5, h6, h7⟩
  | it s p =>
    obtain ⟨B, c, b, h1, h2, h3⟩ := h
    exact ⟨B, c, b, hb.trans h1, (hw B c (by simp) h1).trans h2, h3⟩
  | dead => trivial

section
variable {w0 : World} {S0 ok0 : Nat → Prop} {X X' : Cx} {H : Heap} {w w' : World}
/-- The objects' blocks lie in memory. -/
theorem Inv.lt (I : Inv w0 S0 ok0 X H w) {i r : Nat} {o : Obj} (h : lk H i = some (r, o)) (hd : o ≠ .dead) {B c : Nat} (hb : X.b i = some (B, c)) : B < w.heap.size := by
  have := I.objs i r o h
  cases o with
  | box fs =>
    obtain ⟨B', c', cur, ty, fr, h1, h2, _⟩ := this
    rw [hb] at h1; simp at h1; obtain ⟨rfl, rfl⟩ := h1
    exact (Array.getElem?_eq_some_iff.1 h2).1
  | row t xs =>
    rcases this with ⟨h1, _⟩ | ⟨B', cap, cs, h1, _, _, _, _, cur, ty, fr, h5, _⟩
    · rw [hb] at h1; simp at h1
    · rw [hb] at h1; simp at h1; obtain ⟨rfl, rfl⟩ := h1
      exact (Array.getElem?_eq_some_iff.1 h5).1
  | it s p =>
    obtain ⟨B', c', b, h1, h2, _⟩ := this
    rw [hb] at h1; simp at h1; obtain ⟨rfl, rfl⟩ := h1
    exact (Array.getElem?_eq_some_iff.1 h2).1
  | dead => exact absurd rfl hd

/-- One entry of the heap told anew. -/
theorem Inv.upd (I : Inv w0 S0 ok0 X H w) {i r : Nat} {o' : Obj} (E : Ext X H w X' ((i, r, o') :: H) w') (hb : ∀ j, j ≠ i → X'.b j = X.b j)
    (hblk : ∀ j s o B c, j ≠ i → lk H j = some (s, o) → o ≠ .dead → X.b j = some (B, c) → w'.heap[B]? = w.heap[B]?)
    (hi : ObjRel X' ((i, r, o') :: H) w' i o')
    (hsep : ∀ B c, o' ≠ .dead → X'.b i = some (B, c) → ¬ X'.ok B ∧ (S0 B ∨ w0.heap.size ≤ B) ∧ ∀ j s o c', j ≠ i → lk H j = some (s, o) → o ≠ .dead → X.b j = some (B, c') → False)
    (hokn : ∀ B, X'.ok B → X.ok B ∨ (B < w'.heap.size ∧ (S0 B ∨ w0.heap.size ≤ B) ∧ ∀ j s o c', j ≠ i → lk H j = some (s, o) → o ≠ .dead → X.b j = some (B, c') → False))
    (hfrm : ∀ B, B < w0.heap.size → ¬ S0 B → w'.heap[B]? = w.heap[B]?) (hsz : w.heap.size ≤ w'.heap.size)
    (hos : w'.os = w.os) (htape : w'.tape = w.tape) (hout : w'.output = w.output) : Inv w0 S0 ok0 X' ((i, r, o') :: H) w' where
  objs j s o h := by
    rw [lk_cons] at h
    by_cases e : i = j
    · subst e
      simp at h
      obtain ⟨rfl, rfl⟩ := h
      exact hi
    · simp [e] at h
      exact (I.objs j s o h).ext E (hb j (Ne.symm e)) fun B c hd hB => hblk j s o B c (Ne.symm e) h hd hB
  sep j s o B c h hd hB := by
    rw [lk_cons] at h
    by_cases e : i = j
    · subst e
      simp at h
      obtain ⟨rfl, rfl⟩ := h
      obtain ⟨h1, h2, h3⟩ := hsep B c hd hB
      refine ⟨h1, h2, fun k s' o2 c' hk hd' hB' => ?_⟩
      rw [lk_cons] at hk
      by_cases e2 : i = k
      · exact e2.symm
      · simp [e2] at hk
        rw [hb k (Ne.symm e2)] at hB'
        exact (h3 k s' o2 c' (Ne.symm e2) hk hd' hB').elim
    · simp [e] at h
      rw [hb j (Ne.symm e)] at hB
      obtain ⟨h1, h2, h3⟩ := I.sep j s o B c h hd hB
      refine ⟨fun hX => ?_, h2, fun k s' o2 c' hk hd' hB' => ?_⟩
      · rcases hokn B hX with h4 | ⟨_, _, h4⟩
        · exact h1 h4
        · exact h4 j s o c (Ne.symm e) h hd hB
      · rw [lk_cons] at hk
        by_cases e2 : i = k
        · subst e2
          simp at hk
          obtain ⟨rfl, rfl⟩ := hk
          exact ((hsep B c' hd' hB').2.2 j s o c (Ne.symm e) h hd hB).elim
        · simp [e2] at hk
          rw [hb k (Ne.symm e2)] at hB'
          exact h3 k s' o2 c' hk hd' hB'
  okb B hB := by
    rcases hokn B hB with h | ⟨h1, h2, _⟩
    · obtain ⟨h1, h2⟩ := I.okb B h
      exact ⟨by omega, h2⟩
    · exact ⟨h1, .inr h2⟩
  frm B h1 h2 := (hfrm B h1 h2).trans (I.frm B h1 h2)
  size := Nat.le_trans I.size hsz
  os := hos.trans I.os
  tape := htape.trans I.tape
  output := hout.trans I.output

def Cx.set (X : Cx) (i : Nat) (pl : Option (Nat × Nat)) : Cx := { X with b := fun j => if j = i then pl else X.b j }
theorem Cx.set_same (X : Cx) (i : Nat) (pl : Option (Nat × Nat)) : (X.set i pl).b i = pl := by simp [Cx.set]
theorem Cx.set_other (X : Cx) {i j : Nat} (pl : Option (Nat × Nat)) (h : j ≠ i) : (X.set i pl).b j = X.b j := by simp [Cx.set, h]

theorem alloc_old {w : World} {o : Obj} {o2 : Go.Obj} {B : Nat} (h : B < w.heap.size) : (w.alloc o2).heap[B]? = w.heap[B]? := by
  show (w.heap.push o2)[B]? = _
  rw [Array.getElem?_push, if_neg (Nat.ne_of_lt h)]
theorem alloc_at {w : World} (o2 : Go.Obj) : (w.alloc o2).heap[w.heap.size]? = some o2 := by
  show (w.heap.push o2)[w.heap.size]? = _
  simp
theorem alloc_size {w : World} (o2 : Go.Obj) : (w.alloc o2).heap.size = w.heap.size + 1 := by
  show (w.heap.push o2).size = _
  simp

/-- A new object, in a new block. -/
theorem Inv.newW (I : Inv w0 S0 ok0 X H w) (i cap : Nat) (o' : Obj) (hold : ∀ b, b < w.heap.size → w'.heap[b]? = w.heap[b]?) (hsz : w.heap.size ≤ w'.heap.size) (hos : w'.os = w.os) (htape : w'.tape = w.tape) (hout : w'.output = w.output)
    (hi : ∀ E : Ext X H w (X.set i (some (w.heap.size, cap))) ((i, H.ver i, o') :: H) w', ObjRel (X.set i (some (w.heap.size, cap))) ((i, H.ver i, o') :: H) w' i o') :
    Ext X H w (X.set i (some (w.heap.size, cap))) ((i, H.ver i, o') :: H) w' ∧ Inv w0 S0 ok0 (X.set i (some (w.heap.size, cap))) ((i, H.ver i, o') :: H) w' := by
  have E : Ext X H w (X.set i (some (w.heap.size, cap))) ((i, H.ver i, o') :: H) w' :=
    Ext.upd (fun B hB => ⟨hB, hold B (I.okb B hB).1⟩) (fun j h => Cx.set_other X _ h) (by omega) (fun h => absurd h (by omega))
  refine ⟨E, I.upd E (fun j h => Cx.set_other X _ h) (fun j s o B c hj h hd hB => hold B (I.lt h hd hB)) (hi E) ?_ (fun B hB => .inl hB)
    (fun B hB _ => hold B (Nat.lt_of_lt_of_le hB I.size)) hsz hos htape hout⟩
  intro B c hd hB
  rw [Cx.set_same] at hB
  simp at hB
  obtain ⟨rfl, rfl⟩ := hB
  refine ⟨fun h => absurd (I.okb _ h).1 (by omega), .inr I.size, fun j s o c' hj h hd' hB' => absurd (I.lt h hd' hB') (by omega)⟩
theorem Inv.new (I : Inv w0 S0 ok0 X H w) (i cap : Nat) (o' : Obj) (o2 : Go.Obj)
    (hi : ∀ E : Ext X H w (X.set i (some (w.heap.size, cap))) ((i, H.ver i, o') :: H) (w.alloc o2), ObjRel (X.set i (some (w.heap.size, cap))) ((i, H.ver i, o') :: H) (w.alloc o2) i o') :
    Ext X H w (X.set i (some (w.heap.size, cap))) ((i, H.ver i, o') :: H) (w.alloc o2) ∧ Inv w0 S0 ok0 (X.set i (some (w.heap.size, cap))) ((i, H.ver i, o') :: H) (w.alloc o2) :=
  I.newW i cap o' (fun b hb => alloc_old (o := o') hb) (by rw [alloc_size]; omega) rfl rfl rfl hi

/-- A new object without a block: a nil row. -/
theorem Inv.nilRow (I : Inv w0 S0 ok0 X H w) (i : Nat) (t : Ty) :
    Ext X H w (X.set i none) ((i, H.ver i, .row t []) :: H) w ∧ Inv w0 S0 ok0 (X.set i none) ((i, H.ver i, .row t []) :: H) w := by
  have E : Ext X H w (X.set i none) ((i, H.ver i, .row t []) :: H) w :=
    Ext.upd (fun B hB => ⟨hB, rfl⟩) (fun j h => Cx.set_other X _ h) (by omega) (fun h => absurd h (by omega))
  refine ⟨E, I.upd E (fun j h => Cx.set_other X _ h) (fun _ _ _ _ _ _ _ _ _ => rfl) (.inl ⟨Cx.set_same .., rfl⟩) ?_ (fun B hB => .inl hB) (fun _ _ _ => rfl) (Nat.le_refl _) rfl rfl rfl⟩
  intro B c hd hB
  rw [Cx.set_same] at hB
  simp at hB

/-- An object that turns where it lies. -/
theorem Inv.turn (I : Inv w0 S0 ok0 X H w) {i r B c : Nat} {o o' : Obj} (h : H.obj i r = some o) (hd : o ≠ .dead) (hs : OSim o o') (hB : X.b i = some (B, c))
    (hw : ∀ b, b ≠ B → w'.heap[b]? = w.heap[b]?) (hsz : w'.heap.size = w.heap.size) (hos : w'.os = w.os) (htape : w'.tape = w.tape) (hout : w'.output = w.output)
    (hi : ∀ E : Ext X H w X ((i, r, o') :: H) w', ObjRel X ((i, r, o') :: H) w' i o') :
    Ext X H w X ((i, r, o') :: H) w' ∧ Inv w0 S0 ok0 X ((i, r, o') :: H) w' := by
  have hk := obj_lk h
  obtain ⟨h1, h2, h3⟩ := I.sep i r o B c hk hd hB
  have E : Ext X H w X ((i, r, o') :: H) w' :=
    Ext.upd (fun b hb => ⟨hb, hw b (by rintro rfl; exact h1 hb)⟩) (fun _ _ => rfl) (by rw [lk_ver hk]; omega) (fun _ _ => ⟨o, h, hs, rfl⟩)
  refine ⟨E, I.upd E (fun _ _ => rfl) (fun j s o2 b c' hj hk' hd' hb => hw b (by rintro rfl; exact hj (h3 j s o2 c' hk' hd' hb))) (hi E) ?_ (fun b hb => .inl hb) (fun b hb hn => hw b (by
    rintro rfl
    rcases h2 with h2 | h2
    · exact hn h2
    · omega)) (by omega) hos htape hout⟩
  intro b c' hd' hb
  rw [hB] at hb
  simp at hb
  obtain ⟨rfl, rfl⟩ := hb
  exact ⟨h1, h2, fun j s o2 c' hj hk' hd' hb => hj (h3 j s o2 c' hk' hd' hb)⟩

/-- An object that is ours no more: its block is of plain data. -/
theorem Inv.freeze (I : Inv w0 S0 ok0 X H w) {i r : Nat} {o : Obj} (h : H.obj i r = some o) (hd : o ≠ .dead) :
    Ext X H w { X with ok := fun b => X.ok b ∨ ∃ c, X.b i = some (b, c) } ((i, r + 1, .dead) :: H) w ∧ Inv w0 S0 ok0 { X with ok := fun b => X.ok b ∨ ∃ c, X.b i = some (b, c) } ((i, r + 1, .dead) :: H) w := by
  have hk := obj_lk h
  have E : Ext X H w { X with ok := fun b => X.ok b ∨ ∃ c, X.b i = some (b, c) } ((i, r + 1, .dead) :: H) w :=
    Ext.upd (fun b hb => ⟨.inl hb, rfl⟩) (fun _ _ => rfl) (by rw [lk_ver hk]; omega) (fun h' => absurd h' (by rw [lk_ver hk]; omega))
  refine ⟨E, I.upd E (fun _ _ => rfl) (fun _ _ _ _ _ _ _ _ _ => rfl) trivial (fun _ _ hd => absurd rfl hd) (fun b hb => ?_) (fun _ _ _ => rfl) (Nat.le_refl _) rfl rfl rfl⟩
  rcases hb with hb | ⟨c, hb⟩
  · exact .inl hb
  · obtain ⟨h1, h2, h3⟩ := I.sep i r o b c hk hd hb
    exact .inr ⟨I.lt hk hd hb, h2, fun j s o2 c' hj hk' hd' hb' => hj (h3 j s o2 c' hk' hd' hb')⟩
end
end Go.Ab

/- Fields and cells: lemmas. -/
set_option linter.unusedVariables false
set_option linter.unusedSimpArgs false
namespace Go.Ab
open Go

section
variable {X : Cx} {H : Heap} {w : World}
theorem Rep.one {ok : Nat → Prop} {t : Ty} {x : t.T} {cs : List Value} (h : Rep w ok t x cs) : ∀ v ∈ cs, v.oneCell' = true := by
  induction h with
  | pr a b x y cs ds _ _ i1 i2 => intro v hv; rcases List.mem_append.1 hv with h | h; exact i1 v h; exact i2 v h
  | arS n t x xs cs ds _ _ i1 i2 => intro v hv; rcases List.mem_append.1 hv with h | h; exact i1 v h; exact i2 v h
  | tree l x kids cs v _ _ i1 i2 => intro u hv; rcases List.mem_append.1 hv with h | h; exact i1 u h; exact i2 u h
  | _ => simp [Value.oneCell']
theorem CRel.one {c : C} {v : Value} (h : CRel X H w c v) (hc : c ≠ .any) : v.oneCell' = true := by
  cases c with
  | any => exact absurd rfl hc
  | int k n => rw [h.1]; rfl
  | bool b => rw [show v = _ from h]; rfl
  | kb b => rw [show v = _ from h]; rfl
  | str s => obtain ⟨b, rfl, _⟩ := h; rfl
  | nilp => rw [show v = _ from h]; rfl
  | nilf => rw [show v = _ from h]; rfl
  | nils => rw [show v = _ from h]; rfl
  | fn f l => obtain ⟨vs, rfl, _⟩ := h; rfl
  | ro t xs => exact Rep.one h v (by simp)
  | rox t xs => exact Rep.one h.1 v (by simp)
  | rop t x q => obtain ⟨B, off, cs, rfl, _⟩ := h; rfl
  | _ => exact h.1.2

theorem FRel.append : ∀ {fs gs : List Fld} {a b : List Value}, FRel X H w fs a → FRel X H w gs b → FRel X H w (fs ++ gs) (a ++ b)
  | [], gs, a, b, h, h' => by simp [FRel] at h; subst h; simpa using h'
  | .c x :: r, gs, _, b, ⟨v, us, rfl, h2, h3, h4⟩, h' => ⟨v, us ++ b, rfl, h2, h3, FRel.append h4 h'⟩
  | .a n t xs :: r, gs, _, b, ⟨as, us, rfl, h2, h3, h4⟩, h' => ⟨as, us ++ b, by simp, h2, h3, FRel.append h4 h'⟩
theorem FRel.split : ∀ {fs gs : List Fld} {vs : List Value}, FRel X H w (fs ++ gs) vs → ∃ a b, vs = a ++ b ∧ FRel X H w fs a ∧ FRel X H w gs b
  | [], gs, vs, h => ⟨[], vs, rfl, rfl, h⟩
  | .c x :: r, gs, _, ⟨v, us, rfl, h2, h3, h4⟩ => by
    obtain ⟨a, b, rfl, h5, h6⟩ := FRel.split h4
    exact ⟨v :: a, b, rfl, ⟨v, a, rfl, h2, h3, h5⟩, h6⟩
  | .a n t xs :: r, gs, _, ⟨as, us, rfl, h2, h3, h4⟩ => by
    obtain ⟨a, b, rfl, h5, h6⟩ := FRel.split h4
    exact ⟨as ++ a, b, by simp, ⟨as, a, rfl, h2, h3, h5⟩, h6⟩
theorem FRel.length : ∀ {fs : List Fld} {vs : List Value}, FRel X H w fs vs → vs.length = wsum fs
  | [], _, h => by simp [FRel] at h; subst h; rfl
  | .c x :: r, _, ⟨v, us, rfl, _, _, h4⟩ => by simp [wsum, Fld.width, FRel.length h4]; omega
  | .a n t xs :: r, _, ⟨as, us, rfl, h2, _, h4⟩ => by
    have := h2.length
    have := FRel.length h4
    simp [wsum, Fld.width, Ty.size] at *
    omega
theorem FRel.all_one : ∀ {fs : List Fld} {vs : List Value}, FRel X H w fs vs → ∀ v ∈ vs, v.oneCell' = true
  | [], _, h => by simp [FRel] at h; subst h; simp
  | .c x :: r, _, ⟨v, us, rfl, h2, _, h4⟩ => by
    intro u hu
    rcases List.mem_cons.1 hu with rfl | hu
    · exact h2
    · exact FRel.all_one h4 u hu
  | .a n t xs :: r, _, ⟨as, us, rfl, _, h3, h4⟩ => by
    intro u hu
    rcases List.mem_append.1 hu with hu | hu
    · exact h3 u hu
    · exact FRel.all_one h4 u hu
theorem FRel.one {c : C} {v : Value} (h1 : v.oneCell' = true) (h : CRel X H w c v) : FRel X H w [.c c] [v] := ⟨v, [], rfl, h1, h, rfl⟩
theorem FRel.one_inv {c : C} {vs : List Value} (h : FRel X H w [.c c] vs) : ∃ v, vs = [v] ∧ v.oneCell' = true ∧ CRel X H w c v := by
  obtain ⟨v, us, rfl, h1, h2, h3⟩ := h
  simp [FRel] at h3
  exact ⟨v, by simp [h3], h1, h2⟩

/-- Plain data, as fields. -/
theorem Rep.frel : ∀ {t : Ty} {x : t.T} {cs : List Value}, Rep w X.ok t x cs → FRel X H w (t.flds x) cs
  | .int k, n, cs, h => by obtain ⟨rfl, h2⟩ := h.int_inv; exact FRel.one rfl ⟨rfl, h2⟩
  | .bool, b, cs, h => by obtain rfl := h.bool_inv; exact FRel.one rfl rfl
  | .str, s, cs, h => by obtain ⟨b, rfl, h2, h3⟩ := h.str_inv; exact FRel.one rfl ⟨b, rfl, h2, h3⟩
  | .sl t, xs, cs, h => by
    obtain ⟨A, c, rfl, _⟩ := h.sl_inv
    exact FRel.one rfl h
  | .un, x, cs, h => h.un_inv
  | .pr a b, x, cs, h => by
    obtain ⟨c, d, rfl, h1, h2⟩ := h.pr_inv
    exact FRel.append h1.frel h2.frel
  | .ar n t, xs, cs, h => ⟨cs, [], by simp, h, h.one, rfl⟩
  | .tree l, x, cs, h => by
    obtain ⟨c, v, rfl, h1, h2⟩ := h.tree_inv
    exact FRel.append h1.frel (FRel.one (h2.one v (by simp)) h2)
theorem Rep.of_frel : ∀ {t : Ty} {x : t.T} {cs : List Value}, FRel X H w (t.flds x) cs → Rep w X.ok t x cs
  | .int k, n, cs, h => by obtain ⟨v, rfl, _, rfl, h2⟩ := h.one_inv; exact .int k n h2
  | .bool, b, cs, h => by obtain ⟨v, rfl, _, h2⟩ := h.one_inv; rw [show v = _ from h2]; exact .bool b
  | .str, s, cs, h => by obtain ⟨v, rfl, _, b, rfl, rfl, h2⟩ := h.one_inv; exact .str b h2
  | .sl t, xs, cs, h => by obtain ⟨v, rfl, _, h2⟩ := h.one_inv; exact h2
  | .un, x, cs, h => by simp only [Ty.flds, FRel] at h; subst h; exact .un
  | .pr a b, x, cs, h => by
    obtain ⟨c, d, rfl, h1, h2⟩ := FRel.split h
    exact .pr a b x.1 x.2 c d (Rep.of_frel h1) (Rep.of_frel h2)
  | .ar n t, xs, cs, h => by
    obtain ⟨as, us, rfl, h2, _, h4⟩ := h
    simp only [FRel] at h4
    subst h4
    simpa using h2
  | .tree l, .node x kids, cs, h => by
    obtain ⟨c, d, rfl, h1, h2⟩ := FRel.split h
    obtain ⟨v, rfl, _, h3⟩ := h2.one_inv
    exact .tree l x kids c v (Rep.of_frel h1) h3
theorem Ty.flds_sim : ∀ (t : Ty) (x y : t.T), FsSim (t.flds x) (t.flds y)
  | .int k, _, _ => ⟨trivial, trivial⟩
  | .bool, _, _ => ⟨trivial, trivial⟩
  | .str, _, _ => ⟨trivial, trivial⟩
  | .sl t, _, _ => ⟨trivial, trivial⟩
  | .un, _, _ => trivial
  | .pr a b, x, y => go (Ty.flds_sim a x.1 y.1) (Ty.flds_sim b x.2 y.2)
  | .ar n t, _, _ => ⟨⟨rfl, rfl⟩, trivial⟩
  | .tree l, x, y => go (Ty.flds_sim l x.val y.val) ⟨trivial, trivial⟩
where
  go : ∀ {a b c d : List Fld}, FsSim a b → FsSim c d → FsSim (a ++ c) (b ++ d)
    | [], [], _, _, _, h => h
    | f :: r, g :: s, _, _, h, h' => ⟨h.1, go h.2 h'⟩
theorem Ty.ws_take (t : Ty) (x : t.T) (q : Nat) : wsum ((t.flds x).take q) = (t.ws.take q).sum := by
  rw [FsSim.wsum_take q (Ty.flds_sim t x t.dflt)]
  simp [wsum, Ty.ws, List.map_take]

theorem castL_rep {t' t : Ty} (h : t' = t) {xs : List t'.T} {n : Nat} {cs : List Value} {ok : Nat → Prop} : Rep w ok (.ar n t') xs cs ↔ Rep w ok (.ar n t) (castL h xs) cs := by subst h; exact Iff.rfl
theorem castL_sl {t' t : Ty} (h : t' = t) {xs : List t'.T} {cs : List Value} {ok : Nat → Prop} : Rep w ok (.sl t') xs cs ↔ Rep w ok (.sl t) (castL h xs) cs := by subst h; exact Iff.rfl
theorem castL_length {t' t : Ty} (h : t' = t) (xs : List t'.T) : (castL h xs).length = xs.length := by subst h; rfl

theorem Fld.int?_sound {k : IntKind} {f : Fld} {n : Int} {vs : List Value} (h : f.int? k = some n) (hf : FRel X H w [f] vs) : Rep w X.ok (.int k) n vs := by
  cases f with
  | a => simp [Fld.int?] at h
  | c x => cases x with
    | int k' m =>
      by_cases e : k' = k
      · subst e
        simp [Fld.int?] at h
        subst h
        obtain ⟨v, rfl, _, rfl, h2⟩ := hf.one_inv
        exact .int _ _ h2
      · simp [Fld.int?, e] at h
    | _ => simp [Fld.int?] at h
theorem Fld.bool?_sound {f : Fld} {b : Bool} {vs : List Value} (h : f.bool? = some b) (hf : FRel X H w [f] vs) : Rep w X.ok .bool b vs := by
  cases f with
  | a => simp [Fld.bool?] at h
  | c x => cases x with
    | bool c => simp [Fld.bool?] at h; subst h; obtain ⟨v, rfl, _, h2⟩ := hf.one_inv; rw [show v = _ from h2]; exact .bool _
    | kb c => simp [Fld.bool?] at h; subst h; obtain ⟨v, rfl, _, h2⟩ := hf.one_inv; rw [show v = _ from h2]; exact .bool _
    | _ => simp [Fld.bool?] at h
theorem Fld.str?_sound {f : Fld} {s : List Int} {vs : List Value} (h : f.str? = some s) (hf : FRel X H w [f] vs) : Rep w X.ok .str s vs := by
  cases f with
  | a => simp [Fld.str?] at h
  | c x => cases x with
    | str c => simp [Fld.str?] at h; subst h; obtain ⟨v, rfl, _, b, rfl, rfl, h2⟩ := hf.one_inv; exact .str _ h2
    | _ => simp [Fld.str?] at h
theorem Fld.sl?_sound {t : Ty} {f : Fld} {xs : List t.T} {vs : List Value} (h : f.sl? t = some xs) (hf : FRel X H w [f] vs) : Rep w X.ok (.sl t) xs vs := by
  cases f with
  | a => simp [Fld.sl?] at h
  | c x => cases x with
    | ro t' ys =>
      by_cases e : t' = t
      · subst e
        simp [Fld.sl?, castL] at h
        subst h
        obtain ⟨v, rfl, _, h2⟩ := hf.one_inv
        exact h2
      · simp [Fld.sl?, e] at h
    | rox t' ys =>
      by_cases e : t' = t
      · subst e
        simp [Fld.sl?, castL] at h
        subst h
        obtain ⟨v, rfl, _, h2⟩ := hf.one_inv
        exact h2.1
      · simp [Fld.sl?, e] at h
    | nils =>
      simp [Fld.sl?] at h
      subst h
      obtain ⟨v, rfl, _, h2⟩ := hf.one_inv
      rw [show v = _ from h2]
      exact .sl0 _ _ _
    | _ => simp [Fld.sl?] at h
theorem Fld.ar?_sound {n : Nat} {t : Ty} {f : Fld} {xs : List t.T} {vs : List Value} (h : f.ar? n t = some xs) (hf : FRel X H w [f] vs) : Rep w X.ok (.ar n t) xs vs := by
  cases f with
  | c => simp [Fld.ar?] at h
  | a n' t' ys =>
    by_cases e : t' = t
    · subst e
      by_cases e2 : n' = n
      · subst e2
        simp [Fld.ar?, castL] at h
        subst h
        obtain ⟨as, us, rfl, h2, _, h4⟩ := hf
        simp only [FRel] at h4
        subst h4
        simpa using h2
      · simp [Fld.ar?, nbeq e2] at h
    · simp [Fld.ar?, e] at h
theorem hd1_some {α : Type} {g : Fld → Option α} {fs r : List Fld} {x : α} (h : hd1 g fs = some (x, r)) : ∃ f, fs = f :: r ∧ g f = some x := by
  cases fs with
  | nil => simp [hd1] at h
  | cons f s =>
    cases e : g f with
    | none => simp [hd1, e] at h
    | some y => simp [hd1, e] at h; obtain ⟨rfl, rfl⟩ := h; exact ⟨f, rfl, e⟩
theorem hd1_sound {α : Type} {g : Fld → Option α} {fs r : List Fld} {x : α} {vs : List Value} {Q : List Value → Prop} (h : hd1 g fs = some (x, r)) (hf : FRel X H w fs vs)
    (hg : ∀ f us, g f = some x → FRel X H w [f] us → Q us) : ∃ a b, vs = a ++ b ∧ Q a ∧ FRel X H w r b := by
  obtain ⟨f, rfl, h1⟩ := hd1_some h
  obtain ⟨a, b, rfl, h2, h3⟩ := FRel.split (fs := [f]) (gs := r) hf
  exact ⟨a, b, rfl, hg f a h1 h2, h3⟩
/-- Fields that read as plain data are plain data. -/
theorem Ty.of_sound : ∀ (t : Ty) {fs r : List Fld} {x : t.T} {vs : List Value}, t.of fs = some (x, r) → FRel X H w fs vs → ∃ a b, vs = a ++ b ∧ Rep w X.ok t x a ∧ FRel X H w r b
  | .int k, _, _, _, _, h, hf => hd1_sound h hf fun _ _ => Fld.int?_sound
  | .bool, _, _, _, _, h, hf => hd1_sound h hf fun _ _ => Fld.bool?_sound
  | .str, _, _, _, _, h, hf => hd1_sound h hf fun _ _ => Fld.str?_sound
  | .sl t, _, _, _, _, h, hf => hd1_sound h hf fun _ _ => Fld.sl?_sound
  | .ar n t, _, _, _, _, h, hf => hd1_sound h hf fun _ _ => Fld.ar?_sound
  | .un, fs, r, x, vs, h, hf => by simp [Ty.of] at h; subst h; exact ⟨[], vs, rfl, .un, hf⟩
  | .pr a b, fs, r, x, vs, h, hf => by
    simp only [Ty.of] at h
    cases e : a.of fs with
    | none => simp [e] at h
    | some p =>
      obtain ⟨y, s⟩ := p
      cases e2 : b.of s with
      | none => simp [e, e2] at h
      | some q =>
        obtain ⟨z, u⟩ := q
        simp [e, e2] at h
        obtain ⟨rfl, rfl⟩ := h
        obtain ⟨c, d, rfl, h1, h2⟩ := Ty.of_sound a e hf
        obtain ⟨c', d', rfl, h3, h4⟩ := Ty.of_sound b e2 h2
        exact ⟨c ++ c', d', by simp, .pr a b y z c c' h1 h3, h4⟩
  | .tree l, fs, r, x, vs, h, hf => by
    simp only [Ty.of] at h
    cases e : l.of fs with
    | none => simp [e] at h
    | some p =>
      obtain ⟨y, s⟩ := p
      cases e2 : hd1 (Fld.sl? (.tree l)) s with
      | none => simp [e, e2] at h
      | some q =>
        obtain ⟨z, u⟩ := q
        simp [e, e2] at h
        obtain ⟨rfl, rfl⟩ := h
        obtain ⟨c, d, rfl, h1, h2⟩ := Ty.of_sound l e hf
        obtain ⟨c', d', rfl, h3, h4⟩ := hd1_sound e2 h2 fun _ _ => Fld.sl?_sound
        obtain ⟨A, cp, rfl, _⟩ := h3.sl_inv
        exact ⟨c ++ _, d', by simp, .tree l y z c _ h1 h3, h4⟩
theorem Ty.exact_sound {t : Ty} {fs : List Fld} {x : t.T} {vs : List Value} (h : t.exact fs = some x) (hf : FRel X H w fs vs) : Rep w X.ok t x vs := by
  unfold Ty.exact at h
  split at h
  · rename_i y e
    simp at h
    subst h
    obtain ⟨a, b, rfl, h1, h2⟩ := Ty.of_sound t e hf
    simp only [FRel] at h2
    subst h2
    simpa using h1
  · simp at h

/-! ### Widths -/
theorem skipW_sound : ∀ {fs : List Fld} {n k : Nat}, skipW fs n = some k → wsum (fs.take k) = n ∧ k ≤ fs.length
  | fs, 0, k, h => by
    cases fs <;> simp [skipW] at h <;> subst h <;> simp [wsum]
  | [], n + 1, k, h => by simp [skipW] at h
  | f :: r, n + 1, k, h => by
    simp only [skipW] at h
    cases e : Nat.ble f.width (n + 1) with
    | false => simp [e] at h
    | true =>
      simp [e] at h
      obtain ⟨k', h1, rfl⟩ := h
      obtain ⟨h2, h3⟩ := skipW_sound h1
      have := Nat.le_of_ble_eq_true e
      simp [wsum] at h2 ⊢
      omega
theorem simB_sound : ∀ {a b : List Fld}, simB a b = true → FsSim a b
  | [], [], _ => trivial
  | .c _ :: r, .c _ :: s, h => ⟨trivial, simB_sound (by simpa [simB] using h)⟩
  | .a n t _ :: r, .a m u _ :: s, h => by
    simp [simB] at h
    exact ⟨⟨h.1, h.2.1⟩, simB_sound h.2.2⟩
  | [], _ :: _, h => by simp [simB] at h
  | .c _ :: _, [], h => by simp [simB] at h
  | .a .. :: _, [], h => by simp [simB] at h
  | .c _ :: _, .a .. :: _, h => by simp [simB] at h
  | .a .. :: _, .c _ :: _, h => by simp [simB] at h
theorem FsSim.append : ∀ {a b c d : List Fld}, FsSim a b → FsSim c d → FsSim (a ++ c) (b ++ d)
  | [], [], _, _, _, h => h
  | f :: r, g :: s, _, _, h, h' => ⟨h.1, FsSim.append h.2 h'⟩
theorem splice_sound {fs new fs' : List Fld} {p n : Nat} (h : splice fs p n new = some fs') :
    ∃ k, wsum ((fs.drop p).take k) = n ∧ FsSim ((fs.drop p).take k) new ∧ fs' = fs.take p ++ (new ++ fs.drop (p + k)) ∧ FsSim fs fs' := by
  unfold splice at h
  cases e : skipW (fs.drop p) n with
  | none => simp [e] at h
  | some k =>
    simp [e] at h
    cases e2 : simB ((fs.drop p).take k) new with
    | false => simp [e2] at h
    | true =>
      simp [e2] at h
      subst h
      obtain ⟨h1, h2⟩ := skipW_sound e
      refine ⟨k, h1, simB_sound e2, rfl, ?_⟩
      have e3 : fs = fs.take p ++ ((fs.drop p).take k ++ fs.drop (p + k)) := by
        rw [← List.drop_drop, List.take_append_drop, List.take_append_drop]
      conv => lhs; rw [e3]
      exact (FsSim.refl _).append ((simB_sound e2).append (FsSim.refl _))
/-- What fields stand for when some are put in the place of others. -/
theorem FRel.splice {fs new fs' : List Fld} {p n : Nat} {vs us : List Value} (h : Go.Ab.splice fs p n new = some fs') (hf : FRel X H w fs vs) (hn : FRel X H w new us) :
    us.length = n ∧ wsum (fs.take p) + n ≤ vs.length ∧ FRel X H w fs' (vs.take (wsum (fs.take p)) ++ (us ++ vs.drop (wsum (fs.take p) + n))) := by
  obtain ⟨k, h1, h2, rfl, _⟩ := splice_sound h
  have e3 : fs = fs.take p ++ ((fs.drop p).take k ++ fs.drop (p + k)) := by
    rw [← List.drop_drop, List.take_append_drop, List.take_append_drop]
  rw [e3] at hf
  obtain ⟨a, r, rfl, h3, h4⟩ := FRel.split hf
  obtain ⟨b, c, rfl, h5, h6⟩ := FRel.split h4
  have l1 := h3.length
  have l2 := h5.length
  have l3 := hn.length
  have l4 : wsum new = n := by
    rw [← h1]
    have := h2.wsum_take ((fs.drop p).take k).length
    rw [List.take_length] at this
    rw [this, h2.length, List.take_length]
  refine ⟨l3.trans l4, by simp; omega, ?_⟩
  have e1 : (a ++ (b ++ c)).take (wsum (fs.take p)) = a := by rw [← l1]; simp
  have e2 : (a ++ (b ++ c)).drop (wsum (fs.take p) + n) = c := by
    rw [← l1, ← h1, ← l2, ← List.append_assoc]
    rw [← List.length_append]
    simp
  rw [e1, e2]
  exact h3.append (hn.append h6)
/-- Some fields out of many. -/
theorem FRel.takeW {fs gs : List Fld} {p n : Nat} {vs : List Value} (h : Go.Ab.takeW (fs.drop p) n = some gs) (hf : FRel X H w fs vs) :
    ∃ a b c, vs = a ++ (b ++ c) ∧ a.length = wsum (fs.take p) ∧ b.length = n ∧ FRel X H w gs b := by
  unfold Go.Ab.takeW at h
  obtain ⟨k, h1, rfl⟩ := Option.map_eq_some_iff.1 h
  obtain ⟨h2, h3⟩ := skipW_sound h1
  have e3 : fs = fs.take p ++ ((fs.drop p).take k ++ fs.drop (p + k)) := by
    rw [← List.drop_drop, List.take_append_drop, List.take_append_drop]
  rw [e3] at hf
  obtain ⟨a, r, rfl, h4, h5⟩ := FRel.split hf
  obtain ⟨b, c, rfl, h6, h7⟩ := FRel.split h5
  exact ⟨a, b, c, rfl, h4.length, h6.length.trans h2, h6⟩

/-! ### Constants and what variables begin as -/
theorem inRb_sound {k : IntKind} {n : Int} (h : inRb k n = true) : inR k n := by simpa [inRb, inR] using h
theorem sameC_sound {c : C} {v : Value} (h : sameC c v = true) : v.oneCell' = true ∧ CRel X H w c v := by
  cases c with
  | int k n => cases v <;> simp [sameC] at h; obtain ⟨rfl, rfl, h⟩ := h; exact ⟨rfl, rfl, inRb_sound h⟩
  | bool b => cases v <;> simp [sameC] at h; subst h; exact ⟨rfl, rfl⟩
  | str s => cases v <;> simp [sameC] at h; obtain ⟨rfl, h⟩ := h; exact ⟨rfl, _, rfl, rfl, h⟩
  | nils =>
    cases v with
    | slice a l c =>
      cases a with
      | some _ => simp [sameC] at h
      | none =>
        cases l <;> cases c <;> simp [sameC] at h
        exact ⟨rfl, rfl⟩
    | _ => simp [sameC] at h
  | ro t xs =>
    cases xs with
    | cons x xs => cases v <;> simp [sameC] at h
    | nil =>
      cases v with
      | slice a l c =>
        cases a with
        | some _ => simp [sameC] at h
        | none =>
          cases l <;> cases c <;> simp [sameC] at h
          exact ⟨rfl, .sl0 _ _ _⟩
      | _ => simp [sameC] at h
  | nilp =>
    cases v with
    | pointer a => cases a <;> simp [sameC] at h; exact ⟨rfl, rfl⟩
    | _ => simp [sameC] at h
  | nilf => cases v <;> simp [sameC] at h; exact ⟨rfl, rfl⟩
  | _ => simp [sameC] at h
theorem FRel.flat {t : Ty} : ∀ {xs : List t.T} {vs : List Value}, FRel X H w (xs.flatMap t.flds) vs → Rep w X.ok (.ar xs.length t) xs vs
  | [], vs, h => by simp only [List.flatMap_nil, FRel] at h; subst h; exact .ar0 t
  | x :: xs, vs, h => by
    rw [List.flatMap_cons] at h
    obtain ⟨a, b, rfl, h1, h2⟩ := FRel.split h
    exact .arS _ t x xs a b (Rep.of_frel h1) (FRel.flat h2)
theorem sameF_sound : ∀ {k : Nat} {fs : List Fld} {vs : List Value}, sameF k fs vs = true → FRel X H w fs vs
  | k, [], [], _ => rfl
  | k + 1, .c x :: r, v :: vs, h => by
    simp [sameF] at h
    obtain ⟨h1, h2⟩ := sameC_sound h.1
    exact ⟨v, vs, rfl, h1, h2, sameF_sound h.2⟩
  | k + 1, .a n t xs :: r, vs, h => by
    simp [sameF] at h
    obtain ⟨rfl, h⟩ := h
    obtain ⟨a, b, rfl, h1, h2⟩ := FRel.split (sameF_sound h)
    exact ⟨a, b, rfl, FRel.flat h1, (FRel.flat h1).one, h2⟩
  | 0, [], _ :: _, h => by simp [sameF] at h
  | k + 1, [], _ :: _, h => by simp [sameF] at h
  | 0, .c x :: r, _, h => by simp [sameF] at h
  | 0, .a .. :: r, _, h => by simp [sameF] at h
  | k + 1, .c x :: r, [], h => by simp [sameF] at h
theorem zeroOf_sound {P : Program} {T : TypeId} {fs : List Fld} (h : zeroOf P T = some fs) : ∃ i z, P.info? T = some i ∧ i.zero = some z ∧ FRel X H w fs z.cells.toList := by
  unfold zeroOf at h
  split at h
  · rename_i fs' z h1 h2
    cases e : sameF 4000 fs' z.cells.toList with
    | false => simp [e] at h
    | true =>
      simp [e] at h
      subst h
      obtain ⟨i, hi, hz⟩ := Option.bind_eq_some_iff.1 h2
      exact ⟨i, z, hi, hz, sameF_sound e⟩
  · simp at h
theorem ofConst_sound {v : Value} {c : C} (h : ofConst v = some c) : CRel X H w c v := by
  unfold ofConst at h
  split at h
  · rename_i k n
    cases e : inRb k n <;> simp [e] at h
    subst h; exact ⟨rfl, inRb_sound e⟩
  · simp at h; subst h; rfl
  · rename_i s
    by_cases e : s.size ≤ maxStr <;> simp [e] at h
    subst h; exact ⟨_, rfl, rfl, e⟩
  · simp at h; subst h; rfl
  · simp at h; subst h; rfl
  · simp at h; subst h; rfl
  · simp at h
theorem rowOf_sound {P : Program} {e : TypeId} {t : Ty} {bytes : Nat} (h : rowOf P e = some (t, bytes)) :
    ∃ i z, P.info? e = some i ∧ i.zero = some z ∧ i.bytes = bytes ∧ i.size = t.size ∧ 0 < t.size ∧ 0 < bytes ∧ z.cells.size = t.size ∧ ∀ (w : World) (ok : Nat → Prop), Rep w ok t t.dflt z.cells.toList := by
  unfold rowOf at h
  split at h
  · rename_i t' i h1 h2
    split at h
    · rename_i z h3
      cases e1 : sameF 4000 (t'.flds t'.dflt) z.cells.toList with
      | false => simp [e1] at h
      | true =>
        cases e2 : Nat.beq i.size t'.size with
        | false => simp [e1, e2] at h
        | true =>
          cases e3 : Nat.blt 0 t'.size with
          | false => simp [e1, e2, e3] at h
          | true =>
            cases e4 : Nat.blt 0 i.bytes with
            | false => simp [e1, e2, e3, e4] at h
            | true =>
              simp [e1, e2, e3, e4] at h
              obtain ⟨rfl, rfl⟩ := h
              have hr : ∀ (w : World) (ok : Nat → Prop), Rep w ok t' t'.dflt z.cells.toList := fun w ok => Rep.of_frel (X := ⟨fun _ => none, ok⟩) (H := []) (sameF_sound e1)
              exact ⟨i, z, h2, h3, rfl, Nat.eq_of_beq_eq_true e2, by simpa [Nat.blt_eq] using e3, by simpa [Nat.blt_eq] using e4, by simpa using (hr default fun _ => True).length, hr⟩
    · simp at h
  · simp at h
end
end Go.Ab

/- The operations that touch no memory: what the interpreter says of them holds of the model's. -/
set_option linter.unusedVariables false
set_option linter.unusedSimpArgs false
namespace Go.Ab
open Go

section
variable {P : Program} {w0 : World} {S0 ok0 : Nat → Prop} {X : Cx} {H : Heap} {w : World} {ρ : Operand → Value} {o : Oper} {v : AV} {U : Heap} {cs : List Bool} {dst : Nat} {ev : Operand → Option AV}

def OpOut (P : Program) (w0 : World) (S0 ok0 : Nat → Prop) (X : Cx) (H : Heap) (w : World) (ρ : Operand → Value) (o : Oper) (v : AV) (U : Heap) : Prop :=
  ∃ val w' X', ((execOp ρ o).run P w = .ok (.value val) w' ∨ ((execOp ρ o).run P w = .ok .skip w' ∧ val = undef)) ∧ Ext X H w X' (U ++ H) w' ∧ Inv w0 S0 ok0 X' (U ++ H) w' ∧ AVRel X' (U ++ H) w' v val
def EvOk (X : Cx) (H : Heap) (w : World) (ev : Operand → Option AV) (ρ : Operand → Value) : Prop := ∀ x a, ev x = some a → AVRel X H w a (ρ x)

theorem OpOut.pure (I : Inv w0 S0 ok0 X H w) {val : Value} (hr : (execOp ρ o).run P w = .ok (.value val) w) (ha : AVRel X H w v val) : OpOut P w0 S0 ok0 X H w ρ o v [] :=
  ⟨val, w, X, .inl hr, Ext.refl X H w, I, ha⟩
theorem OpOut.same (I : Inv w0 S0 ok0 X H w) {s : Sem Value} {val : Value} (he : execOp ρ o = (s >>= fun x => (Pure.pure (Next.value x) : Sem Next))) (hr : s.run P w = .ok val w) (ha : AVRel X H w v val) : OpOut P w0 S0 ok0 X H w ρ o v [] :=
  OpOut.pure I (by rw [he]; simp [hr]) ha

theorem op_move (I : Inv w0 S0 ok0 X H w) (E : EvOk X H w ev ρ) {x : Operand} (hop : o.op = .move x ∨ o.op = .assign x) (h : opV P dst ev H o.op = some (cs, v, U)) : OpOut P w0 S0 ok0 X H w ρ o v U := by
  have hv : ev x = some v ∧ U = [] := by
    rcases hop with hop | hop <;> rw [hop] at h <;> simp only [opV] at h <;> cases e : ev x <;> simp [e] at h <;> simp [h]
  obtain ⟨h1, rfl⟩ := hv
  exact OpOut.pure I (val := ρ x) (by rcases hop with hop | hop <;> simp [execOp, hop]) (E x v h1)

theorem mergeC_left {g : Bool} (hg : g = true) {a b : C} {x : Value} (h : CRel X H w a x) : CRel X H w (mergeC g a b) x := by
  subst hg
  unfold mergeC
  split <;> first
    | exact h
    | (rename_i k n k' n'; by_cases e : k = k' <;> simp [e] <;> first | (subst e; exact h) | trivial)
theorem mergeC_right {g : Bool} (hg : g = false) {a b : C} {x : Value} (h : CRel X H w b x) : CRel X H w (mergeC g a b) x := by
  subst hg
  unfold mergeC
  split <;> first
    | exact h
    | (rename_i k n k' n'; by_cases e : k = k' <;> simp [e] <;> first | (subst e; exact h) | trivial)
theorem mergeAV_left {g : Bool} (hg : g = true) {a b : AV} {x : Value} (h : AVRel X H w a x) : AVRel X H w (mergeAV g a b) x := by
  unfold mergeAV
  split
  · exact mergeC_left hg h
  · subst hg; exact h
theorem mergeAV_right {g : Bool} (hg : g = false) {a b : AV} {x : Value} (h : AVRel X H w b x) : AVRel X H w (mergeAV g a b) x := by
  unfold mergeAV
  split
  · exact mergeC_right hg h
  · subst hg; exact h

theorem op_pick (I : Inv w0 S0 ok0 X H w) (E : EvOk X H w ev ρ) {c a b : Operand} (hop : o.op = .pick c a b) (h : opV P dst ev H o.op = some (cs, v, U)) : OpOut P w0 S0 ok0 X H w ρ o v U := by
  rw [hop] at h
  simp only [opV] at h
  split at h
  · rename_i g x y h1 h2 h3
    simp at h
    obtain ⟨_, rfl, rfl⟩ := h
    have hc : ρ c = .bool g := E c _ h1
    refine OpOut.pure I (val := if g then ρ a else ρ b) (by simp [execOp, hop, hc, asBool]) ?_
    cases g
    · exact mergeAV_right rfl (E b y h3)
    · exact mergeAV_left rfl (E a x h2)
  · rename_i g x y h1 h2 h3
    simp at h
    obtain ⟨_, rfl, rfl⟩ := h
    have hc : ρ c = .bool g := E c _ h1
    refine OpOut.pure I (val := if g then ρ a else ρ b) (by simp [execOp, hop, hc, asBool]) ?_
    cases g
    · exact E b y h3
    · exact E a x h2
  · simp at h

/-! ### Arithmetic -/
theorem min_le_max (k : IntKind) : k.min ≤ k.max := by cases k <;> decide
theorem wrap_inR (k : IntKind) (n : Int) : inR k (k.wrap n) := by
  unfold inR IntKind.wrap
  cases k <;> simp [IntKind.min, IntKind.max, IntKind.signed, IntKind.bits] <;> (try split) <;> omega
theorem tmod_inR {k : IntKind} {a b : Int} (ha : inR k a) (hb : inR k b) (h0 : b ≠ 0) : inR k (a.tmod b) := by
  unfold inR at *
  have h1 : (a.tmod b).natAbs ≤ a.natAbs := by
    rw [Int.natAbs_tmod]; exact Nat.mod_le _ _
  have h2 : 0 ≤ a → 0 ≤ a.tmod b := fun h => Int.tmod_nonneg b h
  have h3 : a ≤ 0 → a.tmod b ≤ 0 := fun h => by
    have := Int.tmod_nonneg (a := -a) b (by omega)
    rw [Int.neg_tmod] at this
    omega
  have hmin : k.min ≤ 0 := by cases k <;> decide
  have hmax : 0 ≤ k.max := by cases k <;> decide
  rcases Int.le_total 0 a with h | h
  · have := h2 h; omega
  · have := h3 h; omega
theorem fdiv_inR {k : IntKind} {a : Int} (n : Nat) (ha : inR k a) : inR k (a.fdiv (2 ^ n)) := by
  unfold inR at *
  have hp : (0 : Int) < 2 ^ n := Int.pow_pos (by decide)
  rw [Int.fdiv_eq_ediv_of_nonneg _ (Int.le_of_lt hp)]
  have hmin : k.min ≤ 0 := by cases k <;> decide
  have hmax : 0 ≤ k.max := by cases k <;> decide
  rcases Int.le_total 0 a with h | h
  · have h1 : 0 ≤ a / 2 ^ n := Int.ediv_nonneg h (Int.le_of_lt hp)
    have h2 : a / 2 ^ n ≤ a := Int.ediv_le_self _ h
    omega
  · have h1 : a / 2 ^ n ≤ 0 := by
      have := Int.ediv_le_ediv hp h
      simpa using this
    have h2 : a ≤ a / 2 ^ n := by
      rw [Int.le_ediv_iff_mul_le hp]
      have : a * 2 ^ n ≤ a * 1 := Int.mul_le_mul_of_nonpos_left h (by omega)
      omega
    omega

theorem cmpI_sound {op : BinOp} {a b : Int} {r : Bool} (h : cmpI op a b = some r) : (Op.intCmp op a b).run P w = .ok (.bool r) w := by
  cases op <;> simp only [cmpI, Option.some.injEq, reduceCtorEq] at h <;> subst h <;> simp only [Op.intCmp, Sem.run_pure]
  · by_cases e : a = b <;> simp [e]
  · by_cases e : a = b <;> simp [e]
theorem intOp_sound {t : TypeId} {op : BinOp} {k : IntKind} {a b : Int} {c : C} (ha : inR k a) (hb : inR k b) (hs : op ≠ .shl ∧ op ≠ .shr) (h : intOp op k a b = some (cs, c)) (hc : ∀ x ∈ cs, x = true) :
    ∃ val, (binOp op t (.int k a) (.int k b)).run P w = .ok val w ∧ CRel X H w c val := by
  cases op <;> simp only [intOp, Option.some.injEq, Prod.mk.injEq, Option.map_eq_some_iff] at h
  case add => obtain ⟨rfl, rfl⟩ := h; exact ⟨_, by simp [binOp, Op.intArith], rfl, wrap_inR _ _⟩
  case sub => obtain ⟨rfl, rfl⟩ := h; exact ⟨_, by simp [binOp, Op.intArith], rfl, wrap_inR _ _⟩
  case mul => obtain ⟨rfl, rfl⟩ := h; exact ⟨_, by simp [binOp, Op.intArith], rfl, wrap_inR _ _⟩
  case quo => obtain ⟨rfl, rfl⟩ := h; simp at hc; exact ⟨_, by simp [binOp, Op.intDiv, hc], rfl, wrap_inR _ _⟩
  case rem => obtain ⟨rfl, rfl⟩ := h; simp at hc; exact ⟨_, by simp [binOp, Op.intDiv, hc], rfl, tmod_inR ha hb hc⟩
  case and => obtain ⟨rfl, rfl⟩ := h; exact ⟨_, by simp [binOp, Op.intBits], rfl, wrap_inR _ _⟩
  case or => obtain ⟨rfl, rfl⟩ := h; exact ⟨_, by simp [binOp, Op.intBits], rfl, wrap_inR _ _⟩
  case xor => obtain ⟨rfl, rfl⟩ := h; exact ⟨_, by simp [binOp, Op.intBits], rfl, wrap_inR _ _⟩
  case andNot => obtain ⟨rfl, rfl⟩ := h; exact ⟨_, by simp [binOp, Op.intBits], rfl, wrap_inR _ _⟩
  all_goals (first | exact absurd rfl hs.1 | exact absurd rfl hs.2 | (obtain ⟨r, h1, rfl, rfl⟩ := h; exact ⟨_, by simp [binOp, cmpI_sound h1], rfl⟩))

theorem shiftOp_sound {t : TypeId} {op : BinOp} {k k' : IntKind} {a b : Int} {c : C} (ha : inR k a) (h : shiftOp op k a b = some (cs, c)) (hc : ∀ x ∈ cs, x = true) :
    ∃ val, (binOp op t (.int k a) (.int k' b)).run P w = .ok val w ∧ CRel X H w c val := by
  cases op <;> simp only [shiftOp, Option.some.injEq, Prod.mk.injEq, reduceCtorEq] at h
  case shl =>
    obtain ⟨rfl, rfl⟩ := h
    simp at hc
    exact ⟨_, by simp [binOp, Op.shift, Int.not_lt.2 hc], rfl, wrap_inR _ _⟩
  case shr =>
    obtain ⟨rfl, rfl⟩ := h
    simp at hc
    exact ⟨_, by simp [binOp, Op.shift, Int.not_lt.2 hc], rfl, fdiv_inR _ ha⟩
theorem strBytes_length (s : ByteArray) : (strBytes s).length = s.size := by
  unfold strBytes
  rw [List.length_map, Array.length_toList]
  rfl
theorem strBytes_inj {a b : ByteArray} (h : strBytes a = strBytes b) : a.data.toList = b.data.toList := by
  unfold strBytes at h
  apply List.ext_getElem?
  intro i
  have := congrArg (fun l => l[i]?) h
  simp only [List.getElem?_map] at this
  cases h1 : a.data.toList[i]? <;> cases h2 : b.data.toList[i]? <;> simp_all
  exact UInt8.toNat_inj.1 (by omega)
theorem strBytes_eq (a b : ByteArray) : (a.toList == b.toList) = decide (strBytes a = strBytes b) := by
  rw [ByteArray.toList_eq, ByteArray.toList_eq]
  by_cases h : strBytes a = strBytes b
  · have := strBytes_inj h
    simp [h, this]
  · have : ¬ a.data.toList = b.data.toList := fun e => h (by unfold strBytes; rw [e])
    simp only [h, decide_false]
    exact beq_eq_false_iff_ne.2 this
theorem strBytes_append (a b : ByteArray) : strBytes (a ++ b) = strBytes a ++ strBytes b := by
  simp [strBytes]
theorem strOp_sound {t : TypeId} {op : BinOp} {a b : ByteArray} {c : C} (hs : op ≠ .shl ∧ op ≠ .shr) (h : strOp op (strBytes a) (strBytes b) = some (cs, c)) (hc : ∀ x ∈ cs, x = true) :
    ∃ val, (binOp op t (.string a) (.string b)).run P w = .ok val w ∧ CRel X H w c val := by
  cases op <;> simp only [strOp, Option.some.injEq, Prod.mk.injEq, reduceCtorEq] at h
  case add =>
    obtain ⟨rfl, rfl⟩ := h
    simp [strBytes_length, maxStr] at hc
    refine ⟨.string (a ++ b), ?_, _, rfl, strBytes_append a b, by simp [maxStr]; exact hc⟩
    have : ¬ ((a.size + b.size : Nat) : Int) > IntKind.i64.max := by simp [IntKind.max, IntKind.signed, IntKind.bits]; omega
    simp only [binOp, Op.stringOp, this, if_false, Sem.run_pure]
  case eql =>
    obtain ⟨rfl, rfl⟩ := h
    exact ⟨.bool (a.toList == b.toList), by simp only [binOp, Op.stringOp, Sem.run_pure], by simp only [CRel]; rw [strBytes_eq]⟩
  case neq =>
    obtain ⟨rfl, rfl⟩ := h
    exact ⟨.bool (!(a.toList == b.toList)), by simp only [binOp, Op.stringOp, Sem.run_pure], by simp only [CRel]; rw [strBytes_eq]⟩
theorem binV_sound {t : TypeId} {op : BinOp} {a b c : C} {x y : Value} (ha : CRel X H w a x) (hb : CRel X H w b y) (h : binV op a b = some (cs, c)) (hc : ∀ x ∈ cs, x = true) :
    (∃ val, (binOp op t x y).run P w = .ok val w ∧ CRel X H w c val) ∧ x.oneCell' = true ∧ y.oneCell' = true ∧ x ≠ .nilIface := by
  unfold binV at h
  split at h
  · obtain ⟨rfl, h1⟩ := ha; obtain ⟨rfl, h2⟩ := hb
    exact ⟨shiftOp_sound h1 h hc, rfl, rfl, by simp⟩
  · obtain ⟨rfl, h1⟩ := ha; obtain ⟨rfl, h2⟩ := hb
    exact ⟨shiftOp_sound h1 h hc, rfl, rfl, by simp⟩
  · rename_i op k m k' n hn1 hn2
    obtain ⟨rfl, h1⟩ := ha; obtain ⟨rfl, h2⟩ := hb
    by_cases e : k = k'
    · subst e
      simp at h
      refine ⟨intOp_sound h1 h2 ⟨?_, ?_⟩ h hc, rfl, rfl, by simp⟩
      · rintro rfl; exact hn1 rfl
      · rintro rfl; exact hn2 rfl
    · simp [e] at h
  · rename_i op m n hn1
    obtain ⟨p, rfl, rfl, h1⟩ := ha; obtain ⟨q, rfl, rfl, h2⟩ := hb
    refine ⟨strOp_sound ⟨?_, ?_⟩ h hc, rfl, rfl, by simp⟩
    · rintro rfl; simp [strOp] at h
    · rintro rfl; simp [strOp] at h
  · simp at h
theorem eqGuard_pass {op : BinOp} {t : TypeId} {x y : Operand} {a b : Value} (h1 : a.oneCell' = true) (h2 : a ≠ .nilIface) : (eqGuard op t x y a b).run P w = .ok () w := by
  unfold eqGuard
  cases a <;> simp_all [Value.oneCell'] <;> (by_cases e : (op matches .eql | .neq) = true <;> simp_all)
theorem bit_sound {c : C} {b : Bool} {v : Value} (h : c.bit? = some b) (hv : CRel X H w c v) : v = .bool b := by
  cases c <;> simp [C.bit?] at h <;> subst h <;> exact hv
end
end Go.Ab

/- The operations that read memory: what the interpreter says of them holds of the model's. -/
set_option linter.unusedVariables false
set_option linter.unusedSimpArgs false
namespace Go.Ab
open Go

section
variable {P : Program} {w0 : World} {S0 ok0 : Nat → Prop} {X : Cx} {H : Heap} {w : World} {ρ : Operand → Value} {o : Oper} {v : AV} {U : Heap} {cs : List Bool} {dst : Nat} {ev : Operand → Option AV}

theorem At.part {B off : Nat} {a b c : List Value} (h : At w B off (a ++ (b ++ c))) : At w B (off + a.length) b := by
  intro j hj
  have := h (a.length + j) (by simp; omega)
  rw [← Nat.add_assoc] at this
  rw [this]
  simp [List.getElem_append_right, List.getElem_append_left, hj]
theorem At.tail {B off : Nat} {a b : List Value} (h : At w B off (a ++ b)) : At w B (off + a.length) b := by
  have := At.part (a := a) (b := b) (c := []) (by simpa using h)
  exact this
theorem At.head {B off : Nat} {a b : List Value} (h : At w B off (a ++ b)) : At w B off a := by
  have := At.part (w := w) (B := B) (off := off) (a := []) (b := a) (c := b) (by simpa using h)
  simpa using this
theorem FRel.drop {fs : List Fld} {vs : List Value} (p : Nat) (h : FRel X H w fs vs) : ∃ a b, vs = a ++ b ∧ a.length = wsum (fs.take p) ∧ FRel X H w (fs.drop p) b := by
  rw [← List.take_append_drop p fs] at h
  obtain ⟨a, b, rfl, h1, h2⟩ := FRel.split h
  exact ⟨a, b, rfl, h1.length, h2⟩
theorem FRel.arAt {n : Nat} {t : Ty} {xs : List t.T} : ∀ {fs : List Fld} {p : Nat} {vs : List Value}, fs[p]? = some (.a n t xs) → FRel X H w fs vs → ∃ a b c, vs = a ++ (b ++ c) ∧ a.length = wsum (fs.take p) ∧ Rep w X.ok (.ar n t) xs b ∧ FRel X H w (fs.take p) a ∧ FRel X H w (fs.drop (p + 1)) c := by
  intro fs p vs h hf
  obtain ⟨hp, he⟩ := List.getElem?_eq_some_iff.1 h
  have e : fs = fs.take p ++ (.a n t xs :: fs.drop (p + 1)) := by
    rw [← he, ← List.drop_eq_getElem_cons hp, List.take_append_drop]
  rw [e] at hf
  obtain ⟨a, r, rfl, h1, as, us, rfl, h2, _, h3⟩ := FRel.split hf
  exact ⟨a, as, us, rfl, h1.length, h2, h1, h3⟩

/-- Where a pointer leads. -/
theorem at_sound (I : Inv w0 S0 ok0 X H w) {c : C} {v : Value} {fs : List Fld} (h : H.at c = some fs) (hv : CRel X H w c v) :
    ∃ B off cs, v = .pointer (some ⟨B, off, none⟩) ∧ FRel X H w fs cs ∧ At w B off cs := by
  unfold Heap.at at h
  split at h
  · rename_i i r p
    split at h
    · rename_i gs ho
      simp at h; subst h
      obtain ⟨B, c, h1, rfl⟩ := hv.2 gs ho
      obtain ⟨B', c', cur, ty, fr, h2, h3, h4, h5⟩ := I.objs i r _ (obj_lk ho)
      rw [h1] at h2; simp at h2; obtain ⟨rfl, rfl⟩ := h2
      obtain ⟨a, b, e, h6, h7⟩ := h5.drop p
      exact ⟨B, _, b, rfl, h7, At.of_row h3 a [] (by simpa using e) h6⟩
    · simp at h
  · rename_i i r p e q
    split at h
    · rename_i gs ho
      split at h
      · rename_i m t xs hp
        simp at h; subst h
        obtain ⟨m', t', xs', B, c, hp', he, h1, rfl⟩ := hv.2 gs ho
        rw [hp] at hp'; simp at hp'; obtain ⟨rfl, rfl, hx⟩ := hp'
        simp at hx; subst hx
        obtain ⟨B', c', cur, ty, fr, h2, h3, h4, h5⟩ := I.objs i r _ (obj_lk ho)
        rw [h1] at h2; simp at h2; obtain ⟨rfl, rfl⟩ := h2
        obtain ⟨a, b, cc, e1, h6, h7, _⟩ := FRel.arAt hp h5
        obtain ⟨as, b', bs, rfl, h8, h9, _⟩ := h7.ar_get e he t.dflt
        obtain ⟨a2, b2, rfl, h10, h11⟩ := (Rep.frel (X := X) (H := H) h9).drop q
        refine ⟨B, _, b2, rfl, h11, At.of_row h3 (a ++ (as ++ a2)) (bs ++ cc) (by simpa using e1) ?_⟩
        rw [Ty.ws_take] at h10
        simp [h6, h8, h10]; omega
      · simp at h
    · simp at h
  · rename_i i r e q
    split at h
    · rename_i t xs ho
      simp at h; subst h
      obtain ⟨B, c, h1, he, rfl⟩ := hv.2 t xs ho
      rcases I.objs i r _ (obj_lk ho) with ⟨h2, _⟩ | ⟨B', cap, ds, h2, h3, h4, h4', h5, cur, ty, fr, h6, h7, h8, h9, h10⟩
      · rw [h1] at h2; simp at h2
      · rw [h1] at h2; simp at h2; obtain ⟨rfl, rfl⟩ := h2
        obtain ⟨as, b', bs, rfl, h11, h12, _⟩ := h5.ar_get e he t.dflt
        obtain ⟨a2, b2, rfl, h13, h14⟩ := (Rep.frel (X := X) (H := H) h12).drop q
        refine ⟨B, _, b2, rfl, h14, At.of_row h6 (as ++ a2) (bs ++ cur.toList.drop (as ++ (a2 ++ b2 ++ bs)).length) ?_ ?_⟩
        · conv => lhs; rw [← List.take_append_drop (as ++ (a2 ++ b2 ++ bs)).length cur.toList, h10]
          simp
        · rw [Ty.ws_take] at h13
          simp [h11, h13]
    · simp at h
  · rename_i t x q
    simp at h; subst h
    obtain ⟨B, off, ds, rfl, h1, h2, h3⟩ := hv
    obtain ⟨a2, b2, rfl, h13, h14⟩ := (Rep.frel (X := X) (H := H) h2).drop q
    rw [Ty.ws_take] at h13
    exact ⟨B, _, b2, rfl, h14, by rw [← h13]; exact h3.tail⟩
  · simp at h

theorem avOf_sound {T : TypeId} {fs : List Fld} {a : AV} (h : avOf P T fs = some a) : (aggT P T = some true ∧ a = .agg fs) ∨ (aggT P T = some false ∧ ∃ x, fs = [.c x] ∧ a = .one x) := by
  unfold avOf at h
  split at h
  · rename_i h1; simp at h; exact .inl ⟨h1, h.symm⟩
  · rename_i x h1; simp at h; exact .inr ⟨h1, x, rfl, h.symm⟩
  · simp at h

theorem op_load (I : Inv w0 S0 ok0 X H w) (E : EvOk X H w ev ρ) {T : TypeId} {a : Operand} (hop : o.op = .load T a) (h : opV P dst ev H o.op = some (cs, v, U)) : OpOut P w0 S0 ok0 X H w ρ o v U := by
  rw [hop] at h
  simp only [opV] at h
  split at h
  · rename_i c h1
    split at h
    · rename_i fs h2
      split at h
      · rename_i n h3
        split at h
        · rename_i gs h4
          split at h
          · rename_i u h5
            simp at h
            obtain ⟨_, rfl, rfl⟩ := h
            obtain ⟨B, off, ds, e, h6, h7⟩ := at_sound I h2 (E a _ h1)
            obtain ⟨a', b, c', rfl, h8, h9, h10⟩ := FRel.takeW (p := 0) (by simpa using h4) h6
            simp [wsum] at h8
            subst h8
            have h11 : At w B off b := (by simpa using h7 : At w B off (b ++ c')).head
            rcases avOf_sound h5 with ⟨h12, rfl⟩ | ⟨h12, x, rfl, rfl⟩
            · exact OpOut.same I (s := loadVar T ⟨B, off, none⟩) (val := .agg b.toArray) (by simp [execOp, hop, Instr.loadAt, Instr.sureAddr, e]) (run_loadVar_agg h12 (by rw [h9]; exact h3) h11) ⟨_, rfl, by simpa using h10⟩
            · obtain ⟨y, rfl, _, h13⟩ := h10.one_inv
              exact OpOut.same I (s := loadVar T ⟨B, off, none⟩) (val := y) (by simp [execOp, hop, Instr.loadAt, Instr.sureAddr, e]) (run_loadVar_one h12 h11) h13
          · simp at h
        · simp at h
      · simp at h
    · simp at h
  · simp at h

theorem wsum_take_add (fs : List Fld) (p n : Nat) : wsum (fs.take (p + n)) = wsum (fs.take p) + wsum ((fs.drop p).take n) := by
  rw [List.take_add]
  simp [wsum]
theorem moved_sound {c c' : C} {fs : List Fld} {n off : Nat} {B b : Nat} (h : H.at c = some fs) (hn : skipW fs off = some n) (hm : movedBy c n = some c') (hv : CRel X H w c (.pointer (some ⟨B, b, none⟩))) :
    CRel X H w c' (.pointer (some ⟨B, b + off, none⟩)) := by
  obtain ⟨hw, _⟩ := skipW_sound hn
  cases c <;> simp [movedBy] at hm <;> subst hm
  case pb i r p =>
    refine ⟨⟨hv.1.1, rfl⟩, fun gs hg => ?_⟩
    obtain ⟨B', c', h1, h2⟩ := hv.2 gs hg
    simp at h2
    obtain ⟨rfl, rfl⟩ := h2
    simp [Heap.at, hg] at h
    subst h
    exact ⟨B, c', h1, by rw [wsum_take_add, hw]⟩
  case pa i r p e q =>
    refine ⟨⟨hv.1.1, rfl⟩, fun gs hg => ?_⟩
    obtain ⟨m, t, xs, B', c', h0, h1, h2, h3⟩ := hv.2 gs hg
    simp at h3
    obtain ⟨rfl, rfl⟩ := h3
    simp [Heap.at, hg, h0] at h
    subst h
    refine ⟨m, t, xs, B, c', h0, h1, h2, ?_⟩
    have := wsum_take_add (t.flds ((xs[e]?).getD t.dflt)) q n
    rw [Ty.ws_take, Ty.ws_take, hw] at this
    rw [this]
    simp [Nat.add_assoc]
  case pe i r e q =>
    refine ⟨⟨hv.1.1, rfl⟩, fun t xs hg => ?_⟩
    obtain ⟨B', c', h1, h2, h3⟩ := hv.2 t xs hg
    simp at h3
    obtain ⟨rfl, rfl⟩ := h3
    simp [Heap.at, hg] at h
    subst h
    refine ⟨B, c', h1, h2, ?_⟩
    have := wsum_take_add (t.flds ((xs[e]?).getD t.dflt)) q n
    rw [Ty.ws_take, Ty.ws_take, hw] at this
    rw [this]
    simp [Nat.add_assoc]
  case rop t x q =>
    obtain ⟨B', o', cs, h1, h2, h3, h4⟩ := hv
    simp at h1
    obtain ⟨rfl, rfl⟩ := h1
    simp [Heap.at] at h
    subst h
    refine ⟨B, o', cs, ?_, h2, h3, h4⟩
    have := wsum_take_add (t.flds x) q n
    rw [Ty.ws_take, Ty.ws_take, hw] at this
    rw [this]
    simp [Nat.add_assoc]
theorem add_eq (B off n : Nat) : (⟨B, off, none⟩ : Addr).add n = ⟨B, off + n, none⟩ := by unfold Addr.add; split <;> simp_all
theorem fieldAt?_sound {S : TypeId} {f off n : Nat} (h : fieldAt? P S f = some (off, n)) : ∃ fs fd, P.underlying S = some (.struct fs) ∧ fs[f]? = some fd ∧ fd.offset = off ∧ szT P fd.type = some n := by
  unfold fieldAt? at h
  split at h
  · rename_i fs h1
    split at h
    · rename_i fd h2
      obtain ⟨m, h3, h4⟩ := Option.map_eq_some_iff.1 h
      simp at h4
      obtain ⟨rfl, rfl⟩ := h4
      exact ⟨fs, fd, h1, h2, rfl, h3⟩
    · simp at h
  · simp at h
theorem op_fieldAddr (I : Inv w0 S0 ok0 X H w) (E : EvOk X H w ev ρ) {S : TypeId} {a : Operand} {f : Nat} (hop : o.op = .fieldAddr S a f) (h : opV P dst ev H o.op = some (cs, v, U)) : OpOut P w0 S0 ok0 X H w ρ o v U := by
  rw [hop] at h
  simp only [opV] at h
  split at h
  · rename_i c off z h1 hf
    split at h
    · rename_i fs h2
      split at h
      · rename_i n h3
        split at h
        · rename_i c' h4
          simp [ok1] at h
          obtain ⟨_, rfl, rfl⟩ := h
          obtain ⟨B, b, ds, e, _, _⟩ := at_sound I h2 (E a _ h1)
          obtain ⟨gs, fd, h5, h6, rfl, h7⟩ := fieldAt?_sound hf
          have hc := E a _ h1
          simp only [AVRel] at hc
          rw [e] at hc
          refine OpOut.pure I (val := .pointer (some ⟨B, b + fd.offset, none⟩)) ?_ (moved_sound h2 h3 h4 hc)
          simp [execOp, hop, Instr.fieldAt, Instr.sureAddr, e, run_und h5, h6, fieldPlace, run_size h7, add_eq]
        · simp at h
      · simp at h
    · simp at h
  · simp at h
theorem op_nilCheck (I : Inv w0 S0 ok0 X H w) (E : EvOk X H w ev ρ) {x : Operand} (hop : o.op = .nilCheck x) (h : opV P dst ev H o.op = some (cs, v, U)) : OpOut P w0 S0 ok0 X H w ρ o v U := by
  rw [hop] at h
  simp only [opV] at h
  split at h
  · rename_i f l h1
    simp [ok1] at h
    obtain ⟨_, rfl, rfl⟩ := h
    obtain ⟨vs, e, h2⟩ := E x _ h1
    exact OpOut.pure I (val := ρ x) (by simp [execOp, hop, e]) (E x _ h1)
  · rename_i c _ h1
    split at h
    · rename_i fs h2
      simp [ok1] at h
      obtain ⟨_, rfl, rfl⟩ := h
      obtain ⟨B, b, ds, e, _, _⟩ := at_sound I h2 (E x _ h1)
      exact OpOut.pure I (val := ρ x) (by simp [execOp, hop, e]) (E x _ h1)
    · simp at h
  · simp at h
theorem nil?_sound (I : Inv w0 S0 ok0 X H w) {c : C} {b : Bool} {v : Value} (h : H.nil? c = some b) (hv : CRel X H w c v) : (b = true ∧ v = .pointer none) ∨ (b = false ∧ ∃ a, v = .pointer (some a)) := by
  unfold Heap.nil? at h
  split at h
  · simp at h; exact .inl ⟨h, hv⟩
  · split at h
    · rename_i fs h2
      simp at h
      obtain ⟨B, b, ds, e, _, _⟩ := at_sound I h2 hv
      exact .inr ⟨h, _, e⟩
    · simp at h
theorem eqB_run {op : BinOp} {T : TypeId} {x y : Value} {b r : Bool} (h : eqB op b = some r) (he : (Op.equal T x y).run P w = .ok b w) (hx : ∀ k n, x ≠ .int k n) (h1 : ∀ s, x ≠ .string s) (h2 : ∀ k n, x ≠ .float k n) (h3 : ∀ k n m, x ≠ .complex k n m) :
    (binOp op T x y).run P w = .ok (.bool r) w := by
  cases op <;> simp [eqB] at h <;> subst h
  · cases x <;> simp_all [binOp]
  · cases x <;> simp_all [binOp]
theorem equalIn_bool (d : Nat) {T : TypeId} (hu : P.underlying T = some .bool) (a b : Bool) : (Op.equalIn (d + 1) T (.bool a) (.bool b)).run P w = .ok (a == b) w := by
  simp [Op.equalIn, run_und hu]
theorem equalIn_nil (d : Nat) {T e : TypeId} (hu : P.underlying T = some (.pointer e)) (b : Option Addr) : (Op.equalIn (d + 1) T (.pointer none) (.pointer b)).run P w = .ok b.isNone w := by
  simp [Op.equalIn, run_und hu]
theorem equalIn_some (d : Nat) {T e : TypeId} (hu : P.underlying T = some (.pointer e)) (a : Addr) : (Op.equalIn (d + 1) T (.pointer (some a)) (.pointer none)).run P w = .ok false w := by
  simp [Op.equalIn, run_und hu]
theorem equalIn_nils (d : Nat) {T e : TypeId} (hu : P.underlying T = some (.slice e)) : (Op.equalIn (d + 1) T (.slice none 0 0) (.slice none 0 0)).run P w = .ok true w := by
  simp [Op.equalIn, run_und hu]
theorem eqV_sound (I : Inv w0 S0 ok0 X H w) {T : TypeId} {op : BinOp} {a b : C} {x y : Value} {r : Bool} (h : eqV P H T op a b = some r) (ha : CRel X H w a x) (hb : CRel X H w b y) :
    (binOp op T x y).run P w = .ok (.bool r) w ∧ x.oneCell' = true ∧ x ≠ .nilIface := by
  unfold eqV at h
  split at h
  · rename_i hu
    split at h
    · rename_i p q h1 h2
      obtain rfl := bit_sound h1 ha
      obtain rfl := bit_sound h2 hb
      exact ⟨eqB_run h (equalIn_bool 9999 hu p q) (by simp) (by simp) (by simp) (by simp), rfl, by simp⟩
    · simp at h
  · rename_i e hu
    split at h
    · rename_i q h1 h2
      rcases nil?_sound I h1 ha with ⟨_, rfl⟩ | ⟨h3, _⟩
      · refine ⟨eqB_run h ?_ (by simp) (by simp) (by simp) (by simp), rfl, by simp⟩
        rcases nil?_sound I h2 hb with ⟨rfl, rfl⟩ | ⟨rfl, z, rfl⟩
        · exact equalIn_nil 9999 hu none
        · exact equalIn_nil 9999 hu (some z)
      · simp at h3
    · rename_i h1 h2
      rcases nil?_sound I h1 ha with ⟨h3, _⟩ | ⟨_, z, rfl⟩
      · simp at h3
      · refine ⟨eqB_run h ?_ (by simp) (by simp) (by simp) (by simp), rfl, by simp⟩
        rcases nil?_sound I h2 hb with ⟨_, rfl⟩ | ⟨h3, _⟩
        · exact equalIn_some 9999 hu z
        · simp at h3
    · simp at h
  · rename_i e hu
    split at h
    · simp only [CRel] at ha hb
      subst ha; subst hb
      exact ⟨eqB_run h (equalIn_nils 9999 hu) (by simp) (by simp) (by simp) (by simp), rfl, by simp⟩
    · simp at h
  · simp at h
theorem op_binOp (I : Inv w0 S0 ok0 X H w) (E : EvOk X H w ev ρ) {op : BinOp} {T T2 : TypeId} {x y : Operand} (hop : o.op = .binOp op T x y T2) (h : opV P dst ev H o.op = some (cs, v, U)) (hc : ∀ c ∈ cs, c = true) : OpOut P w0 S0 ok0 X H w ρ o v U := by
  rw [hop] at h
  simp only [opV] at h
  split at h
  · rename_i a b h1 h2
    split at h
    · rename_i cs' c h3
      simp at h
      obtain ⟨rfl, rfl, rfl⟩ := h
      obtain ⟨⟨val, h4, h5⟩, h6, _, h7⟩ := binV_sound (P := P) (t := T) (E x _ h1) (E y _ h2) h3 hc
      exact OpOut.pure I (val := val) (by simp [execOp, hop, eqGuard_pass h6 h7, h4]) h5
    · split at h
      · rename_i r h3
        simp [ok1] at h
        obtain ⟨_, rfl, rfl⟩ := h
        obtain ⟨h4, h6, h7⟩ := eqV_sound I h3 (E x _ h1) (E y _ h2)
        exact OpOut.pure I (val := .bool r) (by simp [execOp, hop, eqGuard_pass h6 h7, h4]) rfl
      · simp at h
  · simp at h
theorem op_unOp (I : Inv w0 S0 ok0 X H w) (E : EvOk X H w ev ρ) {op : UnOp} {T : TypeId} {x : Operand} (hop : o.op = .unOp op T x) (h : opV P dst ev H o.op = some (cs, v, U)) : OpOut P w0 S0 ok0 X H w ρ o v U := by
  rw [hop] at h
  simp only [opV] at h
  split at h
  · rename_i a h1
    split at h
    · rename_i c h3
      simp [ok1] at h
      obtain ⟨_, rfl, rfl⟩ := h
      have ha := E x _ h1
      unfold unV at h3
      split at h3
      · rename_i q; simp at h3; subst h3
        have ha : ρ x = _ := ha
        exact OpOut.pure I (val := .bool (!q)) (by simp [execOp, hop, ha, Op.unary]) rfl
      · rename_i q; simp at h3; subst h3
        have ha : ρ x = _ := ha
        exact OpOut.pure I (val := .bool (!q)) (by simp [execOp, hop, ha, Op.unary]) rfl
      · rename_i k n; simp at h3; subst h3
        obtain ⟨ha, _⟩ := ha
        exact OpOut.pure I (val := .int k (k.wrap (0 - n))) (by simp [execOp, hop, ha, Op.unary, Op.intArith]) ⟨by simp, wrap_inR _ _⟩
      · rename_i k n; simp at h3; subst h3
        obtain ⟨ha, _⟩ := ha
        exact OpOut.pure I (val := .int k (k.wrap (BitVec.ofInt k.bits (if k.signed then -1 else k.max) ^^^ BitVec.ofInt k.bits n).toNat)) (by simp [execOp, hop, ha, Op.unary, Op.intBits]) ⟨by simp, wrap_inR _ _⟩
      · simp at h3
    · simp at h
  · simp at h
end
end Go.Ab

/- The operations on slices, arrays and texts that change no memory: what the interpreter says of them holds of the model's. -/
set_option linter.unusedVariables false
set_option linter.unusedSimpArgs false
namespace Go.Ab
open Go

section
variable {P : Program} {w0 : World} {S0 ok0 : Nat → Prop} {X : Cx} {H : Heap} {w : World} {ρ : Operand → Value} {o : Oper} {v : AV} {U : Heap} {cs : List Bool} {dst : Nat} {ev : Operand → Option AV}

theorem elemSz_slice {T e : TypeId} {z : Nat} (h : elemSz P T = some (none, e, z)) : P.underlying T = some (.slice e) ∧ szT P e = some z := by
  unfold elemSz at h
  split at h
  · rename_i e' h1
    obtain ⟨z', h2, h3⟩ := Option.map_eq_some_iff.1 h
    simp at h3; obtain ⟨rfl, rfl⟩ := h3
    exact ⟨h1, h2⟩
  · obtain ⟨z', h2, h3⟩ := Option.map_eq_some_iff.1 h
    simp at h3
  · simp at h
theorem elemSz_array {T e : TypeId} {m z : Nat} (h : elemSz P T = some (some m, e, z)) : P.underlying T = some (.array m e) ∧ szT P e = some z := by
  unfold elemSz at h
  split at h
  · obtain ⟨z', h2, h3⟩ := Option.map_eq_some_iff.1 h
    simp at h3
  · rename_i n e' h1
    obtain ⟨z', h2, h3⟩ := Option.map_eq_some_iff.1 h
    simp at h3; obtain ⟨rfl, rfl, rfl⟩ := h3
    exact ⟨h1, h2⟩
  · simp at h
theorem idx_conds {i : Int} {n : Nat} (hc : ∀ c ∈ idxCond i n, c = true) : 0 ≤ i ∧ i < (n : Int) := by simpa [idxCond] using hc
theorem run_indexAt_slice {T e : TypeId} {z B off len cap : Nat} {k : IntKind} {i : Int} (h : elemSz P T = some (none, e, z)) (hi : 0 ≤ i ∧ i < (len : Int)) :
    (Instr.indexAt T (.slice (some ⟨B, off, none⟩) len cap) (.int k i)).run P w = .ok (.pointer (some ⟨B, off + i.toNat * z, none⟩)) w := by
  obtain ⟨h1, h2⟩ := elemSz_slice h
  simp [Instr.indexAt, asIntOf, run_und h1, hi.1, hi.2, run_size h2, add_eq]
theorem run_indexAt_array {T e : TypeId} {m z B off : Nat} {k : IntKind} {i : Int} (h : elemSz P T = some (some m, e, z)) (hi : 0 ≤ i ∧ i < (m : Int)) :
    (Instr.indexAt T (.pointer (some ⟨B, off, none⟩)) (.int k i)).run P w = .ok (.pointer (some ⟨B, off + i.toNat * z, none⟩)) w := by
  obtain ⟨h1, h2⟩ := elemSz_array h
  simp [Instr.indexAt, asIntOf, run_und h1, hi.1, hi.2, run_size h2, add_eq, Instr.sureAddr]

theorem ro_index {T e : TypeId} {t : Ty} {xs : List t.T} {z : Nat} {k : IntKind} {i : Int} {u : Value} (he : elemSz P T = some (none, e, z)) (hz : z = t.size) (hi : 0 ≤ i ∧ i < (xs.length : Int)) (hv : Rep w X.ok (.sl t) xs [u]) :
    ∃ p, (Instr.indexAt T u (.int k i)).run P w = .ok p w ∧ CRel X H w (.rop t (xs.getD i.toNat t.dflt) 0) p := by
  subst hz
  obtain ⟨A, c, h1, _, h2⟩ := hv.sl_inv
  simp at h1; subst h1
  obtain ⟨B, off, ds, rfl, h3, h4, h5, _⟩ := h2 (by omega)
  obtain ⟨as, b, bs, rfl, h6, h7, _⟩ := h4.ar_get i.toNat (by omega) t.dflt
  refine ⟨_, run_indexAt_slice he hi, B, off + i.toNat * t.size, b, by simp, h3, h7, ?_⟩
  rw [← h6]
  exact h5.part
theorem indexAddrV_sound (I : Inv w0 S0 ok0 X H w) {T : TypeId} {c d : C} {k : IntKind} {i : Int} {u : Value} (h : indexAddrV P T H c i = some (cs, d)) (hc : ∀ c ∈ cs, c = true) (hv : CRel X H w c u) :
    ∃ p, (Instr.indexAt T u (.int k i)).run P w = .ok p w ∧ CRel X H w d p := by
  unfold indexAddrV at h
  split at h
  · rename_i e z he
    split at h
    · rename_i t xs
      cases hz : Nat.beq z t.size <;> simp [hz] at h
      obtain ⟨rfl, rfl⟩ := h
      have := ro_index (X := X) (H := H) (k := k) he (Nat.eq_of_beq_eq_true hz) (idx_conds hc) hv
      simpa using this
    · rename_i t xs
      cases hz : Nat.beq z t.size <;> simp [hz] at h
      obtain ⟨rfl, rfl⟩ := h
      have := ro_index (X := X) (H := H) (k := k) he (Nat.eq_of_beq_eq_true hz) (idx_conds hc) hv.1
      simpa using this
    · rename_i j r
      split at h
      · rename_i t xs ho
        cases hz : Nat.beq z t.size <;> simp [hz] at h
        obtain ⟨rfl, rfl⟩ := h
        have hi := idx_conds hc
        have hz := Nat.eq_of_beq_eq_true hz
        subst hz
        have h1 := hv.2 t xs ho
        cases hb : X.b j with
        | none => rw [hb] at h1; obtain ⟨_, h2, _⟩ := h1; omega
        | some pl =>
          obtain ⟨B, cap⟩ := pl
          rw [hb] at h1
          obtain ⟨A, rfl, h2, h3⟩ := h1
          rw [h3 (.inr rfl)]
          refine ⟨_, run_indexAt_slice he hi, ⟨hv.1.1, rfl⟩, fun t' xs' ho' => ?_⟩
          rw [ho] at ho'; simp at ho'; obtain ⟨rfl, ho'⟩ := ho'; simp at ho'; subst ho'
          exact ⟨B, cap, hb, by omega, by simp⟩
      · simp at h
    · rename_i j r lo n
      split at h
      · rename_i t xs ho
        cases hz : Nat.beq z t.size <;> simp [hz] at h
        obtain ⟨rfl, rfl⟩ := h
        have hi := idx_conds hc
        have hz := Nat.eq_of_beq_eq_true hz
        subst hz
        obtain ⟨h0, h1⟩ := hv.2 t xs ho
        cases hb : X.b j with
        | none => rw [hb] at h1; obtain ⟨_, h2, _⟩ := h1; omega
        | some pl =>
          obtain ⟨B, cap⟩ := pl
          rw [hb] at h1
          obtain ⟨A, rfl, h2, h3⟩ := h1
          rw [h3 (.inl (by omega))]
          refine ⟨_, run_indexAt_slice he hi, ⟨hv.1.1, rfl⟩, fun t' xs' ho' => ?_⟩
          rw [ho] at ho'; simp at ho'; obtain ⟨rfl, ho'⟩ := ho'; simp at ho'; subst ho'
          exact ⟨B, cap, hb, by omega, by simp [Nat.add_mul]⟩
      · simp at h
    · rename_i j r p lo n
      split at h
      · rename_i fs ho
        split at h
        · rename_i m t ys hp
          cases hz : Nat.beq z t.size <;> simp [hz] at h
          obtain ⟨rfl, rfl⟩ := h
          have hi := idx_conds hc
          have hz := Nat.eq_of_beq_eq_true hz
          subst hz
          obtain ⟨m', t', ys', B, c, A, cp, hp', h1, hb, rfl, h2⟩ := hv.2 fs ho
          rw [hp] at hp'; simp at hp'; obtain ⟨rfl, rfl, hp'⟩ := hp'; simp at hp'; subst hp'
          rw [h2 (by omega)]
          refine ⟨_, run_indexAt_slice he hi, ⟨hv.1.1, rfl⟩, fun fs' ho' => ?_⟩
          rw [ho] at ho'; simp at ho'; subst ho'
          exact ⟨m, t, ys, B, c, hp, by omega, hb, by simp [Nat.add_mul, Nat.add_assoc]⟩
        · simp at h
      · simp at h
    · simp at h
  · rename_i m e z he
    split at h
    · rename_i j r p
      split at h
      · rename_i fs ho
        split at h
        · rename_i n t ys hp
          cases hz : Nat.beq z t.size with
          | false => simp [hz] at h
          | true =>
            cases hm : Nat.beq m n with
            | false => simp [hz, hm] at h
            | true =>
              cases hl : Nat.blt 1 m with
              | false => simp [hz, hm, hl] at h
              | true =>
                simp [hz, hm, hl] at h
                obtain ⟨rfl, rfl⟩ := h
                have hi := idx_conds hc
                have hz := Nat.eq_of_beq_eq_true hz
                have hm := Nat.eq_of_beq_eq_true hm
                subst hz hm
                obtain ⟨B, c, hb, rfl⟩ := hv.2 fs ho
                refine ⟨_, run_indexAt_array he hi, ⟨hv.1.1, rfl⟩, fun fs' ho' => ?_⟩
                rw [ho] at ho'; simp at ho'; subst ho'
                exact ⟨m, t, ys, B, c, hp, by omega, hb, by simp⟩
        · simp at h
      · simp at h
    · simp at h
  · simp at h
theorem op_indexAddr (I : Inv w0 S0 ok0 X H w) (E : EvOk X H w ev ρ) {T : TypeId} {x i : Operand} (hop : o.op = .indexAddr T x i) (h : opV P dst ev H o.op = some (cs, v, U)) (hc : ∀ c ∈ cs, c = true) : OpOut P w0 S0 ok0 X H w ρ o v U := by
  rw [hop] at h
  simp only [opV] at h
  split at h
  · rename_i c k n h1 h2
    split at h
    · rename_i cs' d h3
      simp at h
      obtain ⟨rfl, rfl, rfl⟩ := h
      obtain ⟨hi, _⟩ := E i _ h2
      obtain ⟨p, h4, h5⟩ := indexAddrV_sound (k := k) I h3 hc (E x _ h1)
      exact OpOut.pure I (val := p) (by simp [execOp, hop, hi, h4]) h5
    · simp at h
  · simp at h

/-! ### Texts -/
theorem strBytes_get (s : ByteArray) (j : Nat) (h : j < s.size) : s[j]? = some (s[j]'h) ∧ (((s[j]'h).toNat : Int)) = (strBytes s).getD j 0 := by
  refine ⟨getElem?_pos s j h, ?_⟩
  have : s.data[j]? = some (s[j]'h) := by
    rw [Array.getElem?_eq_getElem (show j < s.data.size from h)]
    rfl
  simp [strBytes, List.getD_eq_getElem?_getD, this]
theorem strBytes_range (s : ByteArray) (j : Nat) : 0 ≤ (strBytes s).getD j 0 ∧ (strBytes s).getD j 0 ≤ 255 := by
  simp only [strBytes, List.getD_eq_getElem?_getD, List.getElem?_map]
  cases h : s.data.toList[j]? with
  | none => simp
  | some b => have := b.toNat_lt; simp; omega
theorem part_one {T : TypeId} {cs : Array Value} {off : Nat} {u : Value} (h : aggT P T = some false) (hc : cs[off]? = some u) : (part T cs off).run P w = .ok u w := by
  simp [part, run_isAgg h, hc]
theorem part_agg {T : TypeId} {cs : Array Value} {off n : Nat} (h : aggT P T = some true) (hs : szT P T = some n) : (part T cs off).run P w = .ok (.agg (cs.extract off (off + n))) w := by
  simp [part, run_isAgg h, run_size hs]
theorem op_index (I : Inv w0 S0 ok0 X H w) (E : EvOk X H w ev ρ) {T : TypeId} {x i : Operand} (hop : o.op = .index T x i) (h : opV P dst ev H o.op = some (cs, v, U)) (hc : ∀ c ∈ cs, c = true) : OpOut P w0 S0 ok0 X H w ρ o v U := by
  rw [hop] at h
  simp only [opV] at h
  split at h
  · rename_i s k n hu h1 h2
    simp at h
    obtain ⟨rfl, rfl, rfl⟩ := h
    obtain ⟨b, e1, rfl, h3⟩ := E x _ h1
    obtain ⟨e2, _⟩ := E i _ h2
    have hi := idx_conds hc
    rw [strBytes_length] at hi
    obtain ⟨h4, h5⟩ := strBytes_get b n.toNat (by omega)
    have hr := strBytes_range b n.toNat
    refine OpOut.pure I (val := .int .u8 ((b[n.toNat]'(by omega)).toNat : Int)) ?_ ⟨?_, ?_⟩
    · simp [execOp, hop, e1, e2, Instr.index, asIntOf, run_und hu, hi.1, h4]
    · rw [h5]; simp
    · simp only [List.getD_eq_getElem?_getD] at hr; exact ⟨hr.1, hr.2⟩
  · rename_i l e m t xs k n hu h1 h2
    split at h
    · rename_i z y ha hs hf
      cases hl : Nat.beq l m with
      | false => simp [hl] at h
      | true =>
        cases hz : Nat.beq z t.size with
        | false => simp [hl, hz] at h
        | true =>
          simp [hl, hz] at h
          obtain ⟨rfl, rfl, rfl⟩ := h
          have hi := idx_conds hc
          have hl := Nat.eq_of_beq_eq_true hl
          have hz := Nat.eq_of_beq_eq_true hz
          subst hl hz
          obtain ⟨vs, e1, h3⟩ := E x _ h1
          obtain ⟨e2, _⟩ := E i _ h2
          obtain ⟨as, us, e3, h4, _, h5⟩ := h3
          simp only [FRel] at h5
          subst h5
          obtain ⟨p, b, q, rfl, h6, h7, _⟩ := h4.ar_get n.toNat (by omega) t.dflt
          have h8 := Rep.frel (X := X) (H := H) h7
          rw [hf] at h8
          obtain ⟨u, rfl, _, h9⟩ := h8.one_inv
          refine OpOut.pure I (val := u) ?_ h9
          have hget : vs[n.toNat * t.size]? = some u := by
            rw [← Array.getElem?_toList, e3, ← h6]
            simp
          simp [execOp, hop, e1, e2, Instr.index, asIntOf, run_und hu, hi.1, hi.2, run_size hs, part_one ha hget]
    · simp at h
  · simp at h
theorem op_field (I : Inv w0 S0 ok0 X H w) (E : EvOk X H w ev ρ) {S : TypeId} {x : Operand} {f : Nat} (hop : o.op = .field S x f) (h : opV P dst ev H o.op = some (cs, v, U)) : OpOut P w0 S0 ok0 X H w ρ o v U := by
  rw [hop] at h
  simp only [opV] at h
  split at h
  · rename_i fs l h1 hu
    split at h
    · rename_i fd hfd
      split at h
      · rename_i p n h2 h3
        split at h
        · rename_i gs h4
          split at h
          · rename_i a h5
            simp at h
            obtain ⟨_, rfl, rfl⟩ := h
            obtain ⟨vs, e1, h6⟩ := E x _ h1
            obtain ⟨hw, _⟩ := skipW_sound h2
            obtain ⟨a', b, c', e2, h8, h9, h10⟩ := FRel.takeW h4 h6
            rcases avOf_sound h5 with ⟨h12, rfl⟩ | ⟨h12, y, rfl, rfl⟩
            · refine OpOut.pure I (val := .agg (vs.extract fd.offset (fd.offset + n))) ?_ ⟨_, rfl, ?_⟩
              · simp [execOp, hop, e1, Instr.field, run_und hu, hfd, asAgg, part_agg h12 h3]
              · have : (vs.extract fd.offset (fd.offset + n)).toList = b := by
                  rw [Array.toList_extract, e2, ← hw, ← h8, ← h9]
                  simp [List.extract_eq_take_drop]
                rw [this]; exact h10
            · obtain ⟨u, rfl, _, h13⟩ := h10.one_inv
              refine OpOut.pure I (val := u) ?_ h13
              have hget : vs[fd.offset]? = some u := by
                rw [← Array.getElem?_toList, e2, ← hw, ← h8]
                simp
              simp [execOp, hop, e1, Instr.field, run_und hu, hfd, asAgg, part_one h12 hget]
          · simp at h
        · simp at h
      · simp at h
    · simp at h
  · simp at h

/-! ### Slicing -/
theorem cutBounds_le {n : Nat} {lo hi : Option Int} (hc : ∀ c ∈ (cutBounds n lo hi).1, c = true) : (cutBounds n lo hi).2.1 ≤ (cutBounds n lo hi).2.2 ∧ (cutBounds n lo hi).2.2 ≤ n := by
  cases lo <;> cases hi <;> simp [cutBounds] at hc ⊢ <;> omega
theorem cutList_eq {α : Type} (xs : List α) (lo hi : Option Int) (hc : ∀ c ∈ (cutBounds xs.length lo hi).1, c = true) :
    cutList xs lo hi (cutBounds xs.length lo hi).2.1 (cutBounds xs.length lo hi).2.2 = (xs.take (cutBounds xs.length lo hi).2.2).drop (cutBounds xs.length lo hi).2.1 := by
  cases lo <;> cases hi <;> simp [cutBounds, cutList]
/-- The bounds' values, as the operation has them. -/
def BVal (b : Option Int) (v : Option Value) : Prop := (b = none ∧ v = none) ∨ ∃ k n, b = some n ∧ v = some (.int k n)
theorem run_bounds {isS : Bool} {n cap : Nat} {lo hi : Option Int} {l h : Option Value} (hl : BVal lo l) (hh : BVal hi h) (hn : n ≤ cap) (hc : ∀ c ∈ (cutBounds n lo hi).1, c = true) :
    (Instr.sliceBounds isS n cap l h none).run P w = .ok ((cutBounds n lo hi).2.1, (cutBounds n lo hi).2.2, cap) w := by
  rcases hl with ⟨rfl, rfl⟩ | ⟨k, a, rfl, rfl⟩ <;> rcases hh with ⟨rfl, rfl⟩ | ⟨k', b, rfl, rfl⟩ <;> simp [cutBounds] at hc
  · simp [Instr.sliceBounds, cutBounds]
  · have h1 : b ≤ (cap : Int) := by omega
    simp [Instr.sliceBounds, Instr.sliceBound, asIntOf, cutBounds, hc, h1]
  · simp [Instr.sliceBounds, Instr.sliceBound, asIntOf, cutBounds, hc]
  · have h1 : b ≤ (cap : Int) := by omega
    have h2 : 0 ≤ b := by omega
    have h3 : a ≤ ((b.toNat : Nat) : Int) := by omega
    simp [Instr.sliceBounds, Instr.sliceBound, asIntOf, cutBounds, hc, h1, h2]
    omega
theorem sliceAt_slice {T e : TypeId} {z : Nat} {x : Value} {l h m : Option Value} (he : elemSz P T = some (none, e, z)) : Instr.sliceAt T x l h m = (do
    match ← underlying T with
    | .array n elem => do
      let a ← Instr.sureAddr x
      let (l, h, m) ← Instr.sliceBounds false n n l h m
      let size ← sizeOf elem
      pure (.slice (some (if m = l then a else a.add (l * size))) (h - l) (m - l))
    | _ => Instr.slice T x l h m) := rfl
theorem run_sliceAt_slice {T e : TypeId} {z len cap : Nat} {A : Option Addr} {lo hi : Option Int} {l h : Option Value} (he : elemSz P T = some (none, e, z)) (hl : BVal lo l) (hh : BVal hi h) (hn : len ≤ cap)
    (hc : ∀ c ∈ (cutBounds len lo hi).1, c = true) : (Instr.sliceAt T (.slice A len cap) l h none).run P w =
      .ok (.slice (if cap = (cutBounds len lo hi).2.1 then A else A.map (·.add ((cutBounds len lo hi).2.1 * z))) ((cutBounds len lo hi).2.2 - (cutBounds len lo hi).2.1) (cap - (cutBounds len lo hi).2.1)) w := by
  obtain ⟨h1, h2⟩ := elemSz_slice he
  simp [Instr.sliceAt, run_und h1, Instr.slice, run_bounds hl hh hn hc, run_size h2]
theorem run_sliceAt_array {T e : TypeId} {z m B off : Nat} {lo hi : Option Int} {l h : Option Value} (he : elemSz P T = some (some m, e, z)) (hl : BVal lo l) (hh : BVal hi h)
    (hc : ∀ c ∈ (cutBounds m lo hi).1, c = true) : (Instr.sliceAt T (.pointer (some ⟨B, off, none⟩)) l h none).run P w =
      .ok (.slice (some (if m = (cutBounds m lo hi).2.1 then ⟨B, off, none⟩ else ⟨B, off + (cutBounds m lo hi).2.1 * z, none⟩)) ((cutBounds m lo hi).2.2 - (cutBounds m lo hi).2.1) (m - (cutBounds m lo hi).2.1)) w := by
  obtain ⟨h1, h2⟩ := elemSz_array he
  simp [Instr.sliceAt, run_und h1, Instr.sureAddr, run_bounds hl hh (Nat.le_refl _) hc, run_size h2, add_eq]
theorem Rep.sl_cut {t : Ty} {xs : List t.T} {A : Option Addr} {n c l h : Nat} {ok : Nat → Prop} (hr : Rep w ok (.sl t) xs [.slice A n c]) (h1 : l ≤ h) (h2 : h ≤ n) (hn : n ≤ c) :
    Rep w ok (.sl t) ((xs.take h).drop l : List t.T) [.slice (if c = l then A else A.map (·.add (l * t.size))) (h - l) (c - l)] := by
  obtain ⟨A', c', e, hm, h3⟩ := hr.sl_inv
  simp at e
  obtain ⟨rfl, rfl, rfl⟩ := e
  by_cases e0 : h - l = 0
  · have : (xs.take h).drop l = [] := List.drop_eq_nil_of_le (by simp; omega)
    rw [this, e0]
    exact .sl0 _ _ _
  · obtain ⟨B, off, ds, rfl, h4, h5, h6, h7⟩ := h3 (by omega)
    have e1 : xs.length = l + ((h - l) + (xs.length - h)) := by omega
    have h5' := h5
    rw [e1] at h5'
    obtain ⟨a, r, rfl, ha, hb⟩ := h5'.ar_split
    obtain ⟨b, d, rfl, hb, hd⟩ := hb.ar_split
    have e2 : ((xs.drop l).take (h - l)) = (xs.take h).drop l := by rw [List.drop_take]
    rw [e2] at hb
    have hl : ((xs.take h).drop l).length = h - l := by simp; omega
    have hal : a.length = l * t.size := by simpa [Ty.size] using ha.length
    rw [if_neg (by omega)]
    simp only [Option.map_some, add_eq]
    have := Rep.sl (w := w) (ok := ok) t ((xs.take h).drop l) B (off + l * t.size) (c - l) b (by rw [hl]; exact hb) (by rw [← hal]; exact h6.part) h4 (by omega) (by omega)
    rwa [hl] at this
theorem sl_cap {t : Ty} {xs : List t.T} {u : Value} {ok : Nat → Prop} (hr : Rep w ok (.sl t) xs [u]) : ∃ A c, u = .slice A xs.length c ∧ xs.length ≤ c := by
  obtain ⟨A, c, e, hm, h3⟩ := hr.sl_inv
  simp at e; subst e
  by_cases h0 : 0 < xs.length
  · obtain ⟨B, off, ds, rfl, h4, h5, h6, h7⟩ := h3 h0
    exact ⟨_, _, rfl, h7⟩
  · exact ⟨A, c, rfl, by omega⟩
theorem strBytes_cut (s : ByteArray) (l h : Nat) : strBytes (s.extract l h) = ((strBytes s).take h).drop l := by
  simp [strBytes, List.map_drop, List.map_take, Array.toList_extract, List.extract_eq_take_drop, List.drop_take]
theorem extract_size_le (s : ByteArray) (l h : Nat) : (s.extract l h).size ≤ s.size := by
  simp; omega
theorem sliceV_sound (I : Inv w0 S0 ok0 X H w) {T : TypeId} {c d : C} {lo hi : Option Int} {l h : Option Value} {u : Value} (he : sliceV P T H c lo hi = some (cs, d)) (hl : BVal lo l) (hh : BVal hi h) (hc : ∀ c ∈ cs, c = true) (hv : CRel X H w c u) :
    ∃ p, (Instr.sliceAt T u l h none).run P w = .ok p w ∧ CRel X H w d p := by
  unfold sliceV at he
  split at he
  · rename_i s
    split at he
    · rename_i hu
      simp at he
      obtain ⟨rfl, rfl⟩ := he
      obtain ⟨b, rfl, rfl, hb⟩ := hv
      have hc' := hc
      rw [strBytes_length] at hc'
      refine ⟨.string (b.extract (cutBounds b.size lo hi).2.1 (cutBounds b.size lo hi).2.2), ?_, _, rfl, ?_, Nat.le_trans (extract_size_le _ _ _) hb⟩
      · simp [Instr.sliceAt, run_und hu, Instr.slice, run_bounds hl hh (Nat.le_refl _) hc']
      · rw [strBytes_cut, cutList_eq _ _ _ hc, strBytes_length]
    · simp at he
  · split at he
    · rename_i e z he'
      split at he
      · rename_i t xs _
        cases hz : Nat.beq z t.size <;> simp [hz] at he
        obtain ⟨rfl, rfl⟩ := he
        have hz := Nat.eq_of_beq_eq_true hz
        subst hz
        obtain ⟨A, cap, rfl, hcap⟩ := sl_cap hv
        obtain ⟨h1, h2⟩ := cutBounds_le hc
        refine ⟨_, run_sliceAt_slice he' hl hh hcap hc, ?_⟩
        rw [cutList_eq _ _ _ hc]
        exact Rep.sl_cut hv h1 h2 hcap
      · rename_i t xs _
        cases hz : Nat.beq z t.size <;> simp [hz] at he
        obtain ⟨rfl, rfl⟩ := he
        have hz := Nat.eq_of_beq_eq_true hz
        subst hz
        obtain ⟨A, cap, rfl, hcap⟩ := sl_cap hv.1
        obtain ⟨h1, h2⟩ := cutBounds_le hc
        refine ⟨_, run_sliceAt_slice he' hl hh hcap hc, ?_⟩
        rw [cutList_eq _ _ _ hc]
        exact Rep.sl_cut hv.1 h1 h2 hcap
      · rename_i j r _
        split at he
        · rename_i t xs ho
          cases hz : Nat.beq z t.size <;> simp [hz] at he
          obtain ⟨rfl, rfl⟩ := he
          have hz := Nat.eq_of_beq_eq_true hz
          subst hz
          obtain ⟨h1, h2⟩ := cutBounds_le hc
          have h3 := hv.2 t xs ho
          cases hb : X.b j with
          | none =>
            rw [hb] at h3; obtain ⟨rfl, h4, _⟩ := h3
            have hc0 := hc
            rw [h4] at hc0
            refine ⟨_, run_sliceAt_slice he' hl hh (Nat.le_refl 0) hc0, ⟨hv.1.1, rfl⟩, fun t' xs' ho' => ?_⟩
            rw [ho] at ho'; simp at ho'; obtain ⟨rfl, ho'⟩ := ho'; simp at ho'; subst ho'
            rw [hb]
            rw [h4] at h1 h2 ⊢
            refine ⟨by omega, ?_, by omega, by omega⟩
            simp [show (cutBounds 0 lo hi).2.1 = 0 by omega, show (cutBounds 0 lo hi).2.2 = 0 by omega]
          | some pl =>
            obtain ⟨B, cap⟩ := pl
            rw [hb] at h3
            obtain ⟨A, rfl, h4, h5⟩ := h3
            rw [h5 (.inr rfl)]
            refine ⟨_, run_sliceAt_slice he' hl hh (by omega) hc, ⟨hv.1.1, rfl⟩, fun t' xs' ho' => ?_⟩
            rw [ho] at ho'; simp at ho'; obtain ⟨rfl, ho'⟩ := ho'; simp at ho'; subst ho'
            rw [hb]
            refine ⟨by omega, _, rfl, by omega, fun h6 => ?_⟩
            by_cases e : cap - 0 = (cutBounds xs.length lo hi).2.1
            · rw [if_pos e]
              rcases h6 with h6 | h6
              · omega
              · rw [h6]; try simp
            · rw [if_neg e]; simp [add_eq]
        · simp at he
      · rename_i j r o n _
        split at he
        · rename_i t xs ho
          cases hz : Nat.beq z t.size <;> simp [hz] at he
          obtain ⟨rfl, rfl⟩ := he
          have hz := Nat.eq_of_beq_eq_true hz
          subst hz
          obtain ⟨h1, h2⟩ := cutBounds_le hc
          obtain ⟨h0, h3⟩ := hv.2 t xs ho
          cases hb : X.b j with
          | none =>
            rw [hb] at h3; obtain ⟨rfl, h4, h4'⟩ := h3
            have hc0 := hc
            rw [h4] at hc0
            refine ⟨_, run_sliceAt_slice he' hl hh (Nat.le_refl 0) hc0, ⟨hv.1.1, rfl⟩, fun t' xs' ho' => ?_⟩
            rw [ho] at ho'; simp at ho'; obtain ⟨rfl, ho'⟩ := ho'; simp at ho'; subst ho'
            rw [hb]
            rw [h4] at h1 h2 ⊢
            refine ⟨by omega, ?_, by omega, by omega⟩
            simp [show (cutBounds 0 lo hi).2.1 = 0 by omega, show (cutBounds 0 lo hi).2.2 = 0 by omega]
          | some pl =>
            obtain ⟨B, cap⟩ := pl
            rw [hb] at h3
            obtain ⟨A, rfl, h4, h5⟩ := h3
            refine ⟨_, run_sliceAt_slice he' hl hh (by omega) hc, ⟨hv.1.1, rfl⟩, fun t' xs' ho' => ?_⟩
            rw [ho] at ho'; simp at ho'; obtain ⟨rfl, ho'⟩ := ho'; simp at ho'; subst ho'
            rw [hb]
            refine ⟨by omega, _, by rw [Nat.sub_sub], by omega, fun h6 => ?_⟩
            by_cases e : cap - o = (cutBounds n lo hi).2.1
            · rw [if_pos e]
              rcases h6 with h6 | h6
              · omega
              · have h7 : o = 0 ∧ (cutBounds n lo hi).2.1 = 0 := by omega
                rw [h5 (.inr h7.1), h7.1, h7.2]
            · rw [if_neg e]
              have : A = some ⟨B, o * t.size, none⟩ := h5 (by omega)
              rw [this]
              simp [add_eq, Nat.add_mul]
        · simp at he
      · simp at he
    · rename_i m e z he'
      split at he
      · rename_i j r p _
        split at he
        · rename_i fs ho
          split at he
          · rename_i n t ys hp
            cases hz : Nat.beq z t.size with
            | false => simp [hz] at he
            | true =>
              cases hm : Nat.beq m n with
              | false => simp [hz, hm] at he
              | true =>
                simp [hz, hm] at he
                obtain ⟨rfl, rfl⟩ := he
                have hz := Nat.eq_of_beq_eq_true hz
                have hm := Nat.eq_of_beq_eq_true hm
                subst hz hm
                obtain ⟨h1, h2⟩ := cutBounds_le hc
                obtain ⟨B, c, hb, rfl⟩ := hv.2 fs ho
                refine ⟨_, run_sliceAt_array he' hl hh hc, ⟨hv.1.1, rfl⟩, fun fs' ho' => ?_⟩
                rw [ho] at ho'; simp at ho'; subst ho'
                refine ⟨m, t, ys, B, c, _, _, hp, by omega, hb, rfl, fun h6 => ?_⟩
                rw [if_neg (by omega)]
          · simp at he
        · simp at he
      · simp at he
    · simp at he
theorem optInt_sound (E : EvOk X H w ev ρ) {b : Option Operand} {n : Option Int} (h : optInt ev b = some n) : BVal n (b.map ρ) := by
  cases b with
  | none => simp [optInt] at h; subst h; exact .inl ⟨rfl, rfl⟩
  | some o =>
    simp only [optInt] at h
    split at h
    · rename_i k m h1
      simp at h; subst h
      obtain ⟨e, _⟩ := E o _ h1
      exact .inr ⟨k, m, rfl, by simp [e]⟩
    · simp at h
theorem op_slice (I : Inv w0 S0 ok0 X H w) (E : EvOk X H w ev ρ) {T : TypeId} {x : Operand} {lo hi : Option Operand} (hop : o.op = .slice T x lo hi none) (h : opV P dst ev H o.op = some (cs, v, U)) (hc : ∀ c ∈ cs, c = true) : OpOut P w0 S0 ok0 X H w ρ o v U := by
  rw [hop] at h
  simp only [opV] at h
  split at h
  · rename_i c l hh h1 h2 h3
    split at h
    · rename_i cs' d h4
      simp at h
      obtain ⟨rfl, rfl, rfl⟩ := h
      obtain ⟨p, h5, h6⟩ := sliceV_sound I h4 (optInt_sound E h2) (optInt_sound E h3) hc (E x _ h1)
      exact OpOut.pure I (val := p) (by simp [execOp, hop, h5]) h6
    · simp at h
  · simp at h
end
end Go.Ab

/- Conversions, lengths, function values, and the operations that make memory: what the interpreter says of them holds of the model's. -/
set_option linter.unusedVariables false
set_option linter.unusedSimpArgs false
namespace Go.Ab
open Go

section
variable {P : Program} {w0 : World} {S0 ok0 : Nat → Prop} {X : Cx} {H : Heap} {w : World} {ρ : Operand → Value} {o : Oper} {v : AV} {U : Heap} {cs : List Bool} {dst : Nat} {ev : Operand → Option AV}

theorem caps_sound (E : EvOk X H w ev ρ) : ∀ {l : List Operand} {r : List (Nat × Nat)}, opV.capsOf ev l = some r → (l.map ρ).length = r.length ∧ ∀ (j i s : Nat), r[j]? = some (i, s) → (s < H.ver i ∧ ∃ u, (l.map ρ)[j]? = some u ∧ u.oneCell' = true) ∧ ∀ fs, H.obj i s = some (.box fs) → ∃ B c, X.b i = some (B, c) ∧ (l.map ρ)[j]? = some (Value.pointer (some ⟨B, 0, none⟩))
  | [], r, h => by simp [opV.capsOf] at h; subst h; exact ⟨rfl, by simp⟩
  | o :: l, r, h => by
    simp only [opV.capsOf] at h
    split at h
    · rename_i i s r' h1 h2
      simp at h; subst h
      obtain ⟨h3, h4⟩ := caps_sound E h2
      have h5 := E o _ h1
      refine ⟨by simpa using h3, fun j i' s' hj => ?_⟩
      cases j with
      | zero =>
        simp at hj; obtain ⟨rfl, rfl⟩ := hj
        refine ⟨⟨h5.1.1, ρ o, by simp, h5.1.2⟩, fun fs hf => ?_⟩
        obtain ⟨B, c, h6, h7⟩ := h5.2 fs hf
        exact ⟨B, c, h6, by simp [h7, wsum]⟩
      | succ j =>
        simp at hj
        simpa using h4 j i' s' hj
    · simp at h
theorem op_makeFunc (I : Inv w0 S0 ok0 X H w) (E : EvOk X H w ev ρ) {f : FuncId} {first caps : Array Operand} (hop : o.op = .makeFunc (.func f) first caps) (h : opV P dst ev H o.op = some (cs, v, U)) : OpOut P w0 S0 ok0 X H w ρ o v U := by
  rw [hop] at h
  simp only [opV] at h
  split at h
  · rename_i l h1 h2
    simp [ok1] at h
    obtain ⟨_, rfl, rfl⟩ := h
    obtain ⟨h3, h4⟩ := caps_sound E h2
    have hf : first = #[] := by simpa using h1
    refine OpOut.pure I (val := .func (.func f) #[] (caps.map ρ)) (by simp [execOp, hop, Instr.makeFunc, hf]) ⟨_, rfl, by simpa using h3, fun j i r hj => ?_⟩
    obtain ⟨h5, h6⟩ := h4 j i r hj
    obtain ⟨h5, u, h9, h10⟩ := h5
    refine ⟨⟨h5, u, by rw [← Array.getElem?_toList]; simpa using h9, h10⟩, fun fs hf => ?_⟩
    obtain ⟨B, c, h7, h8⟩ := h6 fs hf
    exact ⟨B, c, h7, by rw [← Array.getElem?_toList]; simpa using h8⟩
  · simp at h

/-! ### Lengths -/
theorem row_len (I : Inv w0 S0 ok0 X H w) {i r : Nat} {t : Ty} {xs : List t.T} (h : H.obj i r = some (.row t xs)) : xs.length ≤ maxBytes := by
  rcases I.objs i r _ (obj_lk h) with ⟨_, rfl⟩ | ⟨_, _, _, _, _, h1, _⟩
  · simp
  · exact h1
theorem len_inR {n : Nat} (h : n ≤ maxBytes) : inR .i64 (n : Int) := by
  simp [inR, IntKind.min, IntKind.max, IntKind.signed, IntKind.bits, maxBytes] at *
  omega
theorem lenV_sound (I : Inv w0 S0 ok0 X H w) {T : TypeId} {a : AV} {n : Int} {u : Value} {ty : TypeId} (h : lenV P T H a = some n) (hv : AVRel X H w a u) :
    (Builtin.len_ #[T] ty #[u]).run P w = .ok (.int .i64 n) w ∧ inR .i64 n := by
  unfold lenV at h
  split at h
  · rename_i hu
    split at h
    · rename_i s
      simp at h; subst h
      obtain ⟨b, rfl, rfl, hb⟩ := hv
      rw [strBytes_length]
      exact ⟨by simp [Builtin.len_, run_und hu, goInt], len_inR (Nat.le_trans hb (by decide))⟩
    · simp at h
  · rename_i m e hu
    cases hm : Nat.ble m maxBytes <;> simp [hm] at h
    subst h
    exact ⟨by simp [Builtin.len_, run_und hu, goInt], len_inR (Nat.le_of_ble_eq_true hm)⟩
  · rename_i e hu
    have key : ∀ (A : Option Addr) (m c : Nat), (Builtin.len_ #[T] ty #[.slice A m c]).run P w = .ok (.int .i64 (m : Int)) w := fun A m c => by
      simp [Builtin.len_, run_und hu, goInt]
    split at h
    · rename_i t xs
      simp at h; subst h
      obtain ⟨A, c, e, hm, _⟩ := Rep.sl_inv hv
      simp at e; subst e
      exact ⟨key _ _ _, len_inR hm⟩
    · rename_i t xs
      simp at h; subst h
      obtain ⟨A, c, e, hm, _⟩ := Rep.sl_inv hv.1
      simp at e; subst e
      exact ⟨key _ _ _, len_inR hm⟩
    · simp at h; subst h
      rw [show u = _ from hv]
      exact ⟨key _ _ _, len_inR (Nat.zero_le _)⟩
    · rename_i i r
      split at h
      · rename_i t xs ho
        simp at h; subst h
        have h1 := hv.2 t xs ho
        have h2 := len_inR (row_len I ho)
        cases hb : X.b i with
        | none =>
          rw [hb] at h1; obtain ⟨rfl, h3, _⟩ := h1
          rw [h3]; exact ⟨key _ _ _, len_inR (Nat.zero_le _)⟩
        | some pl => rw [hb] at h1; obtain ⟨A, rfl, _⟩ := h1; exact ⟨key _ _ _, h2⟩
      · simp at h
    · rename_i i r lo m
      split at h
      · rename_i t xs ho
        simp at h; subst h
        obtain ⟨h0, h1⟩ := hv.2 t xs ho
        have h2 := row_len I ho
        cases hb : X.b i with
        | none =>
          rw [hb] at h1; obtain ⟨rfl, h3, _⟩ := h1
          rw [h3]; exact ⟨key _ _ _, len_inR (Nat.zero_le _)⟩
        | some pl => rw [hb] at h1; obtain ⟨A, rfl, _⟩ := h1; exact ⟨key _ _ _, len_inR (by omega)⟩
      · simp at h
    · rename_i i r p lo m
      split at h
      · rename_i fs ho
        split at h
        · rename_i k t xs hp
          cases hm : Nat.ble k maxBytes <;> simp [hm] at h
          subst h
          obtain ⟨m', t', xs', B, c, A, cp, hp', h1, _, rfl, _⟩ := hv.2 fs ho
          rw [hp] at hp'; simp at hp'
          exact ⟨key _ _ _, len_inR (Nat.le_trans (by omega) (Nat.le_of_ble_eq_true hm))⟩
        · simp at h
      · simp at h
    · simp at h
  · simp at h
theorem op_len (I : Inv w0 S0 ok0 X H w) (E : EvOk X H w ev ρ) {args : Array Operand} {argTypes : Array TypeId} (hop : o.op = .call { callee := .builtin .len, args, argTypes }) (h : opV P dst ev H o.op = some (cs, v, U)) : OpOut P w0 S0 ok0 X H w ρ o v U := by
  rw [hop] at h
  simp only [opV] at h
  split at h
  · rename_i x T h1 h2
    have ha : args = #[x] := Array.toList_inj.1 h1
    have ht : argTypes = #[T] := Array.toList_inj.1 h2
    subst ha ht
    split at h
    · rename_i a h3
      split at h
      · rename_i n h4
        simp [ok1] at h
        obtain ⟨_, rfl, rfl⟩ := h
        obtain ⟨h5, h6⟩ := lenV_sound (ty := o.type) I h4 (E x _ h3)
        exact OpOut.pure I (val := .int .i64 n) (by simp [execOp, hop, resolve, invoke, builtin, h5]) ⟨rfl, h6⟩
      · simp at h
    · simp at h
  · simp at h

/-! ### Conversions -/
theorem strBytes_of_nums {xs : List Int} (h : ∀ x ∈ xs, 0 ≤ x ∧ x ≤ 255) : strBytes (strOfNums xs) = xs := by
  unfold strBytes
  rw [strOfNums_data, List.map_map]
  conv => rhs; rw [← List.map_id xs]
  apply List.map_congr_left
  intro x hx
  obtain ⟨h1, h2⟩ := h x hx
  simp [UInt8.toNat_ofNat']
  omega
theorem u8_list {ok : Nat → Prop} : ∀ {n : Nat} {xs : List Int} {ds : List Value}, Rep w ok (.ar n (.int .u8)) xs ds → ds = xs.map (Value.int .u8) ∧ ∀ x ∈ xs, 0 ≤ x ∧ x ≤ 255
  | 0, xs, ds, h => by cases h; exact ⟨rfl, by simp⟩
  | n + 1, xs, ds, h => by
    cases h with
    | arS _ _ x xs as bs h1 h2 =>
      obtain ⟨rfl, h3⟩ := h1.int_inv
      obtain ⟨rfl, h4⟩ := u8_list h2
      refine ⟨by simp, fun y hy => ?_⟩
      rcases List.mem_cons.1 hy with rfl | hy
      · simp [inR, IntKind.min, IntKind.max, IntKind.signed, IntKind.bits] at h3
        exact h3
      · exact h4 y hy
theorem pref_eq {cur : Array Value} {ds : List Value} (h : cur.toList.take ds.length = ds) : cur.toList = ds ++ cur.toList.drop ds.length := by
  conv => lhs; rw [← List.take_append_drop ds.length cur.toList, h]
theorem data_sound (I : Inv w0 S0 ok0 X H w) {c : C} {t : Ty} {xs : List t.T} {u : Value} (h : H.data c = some ⟨t, xs⟩) (hv : CRel X H w c u) :
    ∃ A cp, u = .slice A xs.length cp ∧ xs.length ≤ maxBytes ∧ (0 < xs.length → ∃ B off ds, A = some ⟨B, off, none⟩ ∧ Rep w X.ok (.ar xs.length t) xs ds ∧ At w B off ds) := by
  unfold Heap.data at h
  split at h
  · simp at h; obtain ⟨rfl, h⟩ := h; simp at h; subst h
    obtain ⟨A, c, e, hm, h1⟩ := Rep.sl_inv hv
    simp at e; subst e
    refine ⟨A, c, rfl, hm, fun h0 => ?_⟩
    obtain ⟨B, off, ds, h2, _, h3, h4, _⟩ := h1 h0
    exact ⟨B, off, ds, h2, h3, h4⟩
  · simp at h; obtain ⟨rfl, h⟩ := h; simp at h; subst h
    obtain ⟨A, c, e, hm, h1⟩ := Rep.sl_inv hv.1
    simp at e; subst e
    refine ⟨A, c, rfl, hm, fun h0 => ?_⟩
    obtain ⟨B, off, ds, h2, _, h3, h4, _⟩ := h1 h0
    exact ⟨B, off, ds, h2, h3, h4⟩
  · rename_i i r
    split at h
    · rename_i t' xs' ho
      simp at h; obtain ⟨rfl, h⟩ := h; simp at h; subst h
      have h1 := hv.2 t' xs' ho
      have h2 := row_len I ho
      rcases I.objs i r _ (obj_lk ho) with ⟨hb, rfl⟩ | ⟨B, cap, ds, hb, h3, _, _, h4, cur, ty, fr, h5, h6, h7, h8, h9⟩
      · rw [hb] at h1; obtain ⟨rfl, _⟩ := h1
        exact ⟨none, 0, rfl, h2, fun h0 => absurd h0 (by simp)⟩
      · rw [hb] at h1; obtain ⟨A, rfl, h10, h11⟩ := h1
        refine ⟨A, _, rfl, h2, fun h0 => ⟨B, 0, ds, by simpa using h11 (.inr rfl), h4, ?_⟩⟩
        exact At.of_row h5 [] (cur.toList.drop ds.length) (by simpa using pref_eq h9) rfl
    · simp at h
  · rename_i i r lo n
    split at h
    · rename_i t' xs' ho
      simp at h; obtain ⟨rfl, h⟩ := h; simp at h; subst h
      obtain ⟨h0, h1⟩ := hv.2 t' xs' ho
      have h2 := row_len I ho
      have hl : ((xs'.drop lo).take n).length = n := by simp; omega
      rw [hl]
      rcases I.objs i r _ (obj_lk ho) with ⟨hb, rfl⟩ | ⟨B, cap, ds, hb, h3, _, _, h4, cur, ty, fr, h5, h6, h7, h8, h9⟩
      · rw [hb] at h1; obtain ⟨rfl, rfl, _⟩ := h1
        exact ⟨none, 0, rfl, Nat.zero_le _, fun h0 => absurd h0 (by simp)⟩
      · rw [hb] at h1; obtain ⟨A, rfl, h10, h11⟩ := h1
        refine ⟨A, _, rfl, by omega, fun h0' => ?_⟩
        have e1 : xs'.length = lo + (n + (xs'.length - lo - n)) := by omega
        rw [e1] at h4
        obtain ⟨a, b', rfl, ha, hb'⟩ := h4.ar_split
        obtain ⟨b, d, rfl, hb2, hd⟩ := hb'.ar_split
        have hal : a.length = lo * t'.size := by simpa [Ty.size] using ha.length
        refine ⟨B, lo * t'.size, b, h11 (.inl h0'), hb2, ?_⟩
        exact At.of_row h5 a (d ++ cur.toList.drop (a ++ (b ++ d)).length) (by have := pref_eq h9; rw [this]; simp) hal
    · simp at h
  · rename_i i r p lo n
    split at h
    · rename_i fs ho
      split at h
      · rename_i m t' xs' hp
        cases hm : Nat.ble m maxBytes with
        | false => simp [hm] at h
        | true =>
          simp [hm] at h; obtain ⟨rfl, h⟩ := h; simp at h; subst h
          obtain ⟨m', t2, xs2, B, c, A, cp, hp', h1, hb, rfl, h2⟩ := hv.2 fs ho
          rw [hp] at hp'; simp at hp'; obtain ⟨rfl, rfl, hx⟩ := hp'; simp at hx; subst hx
          obtain ⟨B', c', cur, ty, fr, h3, h4, h5, h6⟩ := I.objs i r _ (obj_lk ho)
          rw [hb] at h3; simp at h3; obtain ⟨rfl, rfl⟩ := h3
          obtain ⟨a, bb, cc, e1, h7, h8, _⟩ := FRel.arAt hp h6
          have hxl := h8.ar_len
          have hl : ((xs'.drop lo).take n).length = n := by simp; omega
          rw [hl]
          have hmb := Nat.le_of_ble_eq_true hm
          refine ⟨A, _, rfl, by omega, fun h0' => ?_⟩
          have e2 : m = lo + (n + (m - lo - n)) := by omega
          rw [e2] at h8
          obtain ⟨a2, b', rfl, ha, hb'⟩ := h8.ar_split
          obtain ⟨b, d, rfl, hb2, hd⟩ := hb'.ar_split
          have hal : a2.length = lo * t'.size := by simpa [Ty.size] using ha.length
          exact ⟨B, _, b, h2 h0', hb2, At.of_row h4 (a ++ a2) (d ++ cc) (by rw [e1]; simp) (by simp [h7, hal])⟩
      · simp at h
    · simp at h
  · simp at h
theorem wrap_u8 (n : Nat) (h : n ≤ 255) : inR .u8 (n : Int) := by
  simp [inR, IntKind.min, IntKind.max, IntKind.signed, IntKind.bits]; omega
/-- What is appended or turned into a text: a slice's elements, or a text's bytes. -/
theorem srcData_slice (I : Inv w0 S0 ok0 X H w) {c : C} {t : Ty} {xs : List t.T} {u : Value} (h : srcData H t c = some xs) (hv : CRel X H w c u) :
    (∃ A cp, u = .slice A xs.length cp ∧ xs.length ≤ maxBytes ∧ (0 < xs.length → ∃ B off ds, A = some ⟨B, off, none⟩ ∧ Rep w X.ok (.ar xs.length t) xs ds ∧ At w B off ds)) ∨
    ∃ (b : ByteArray) (e : t = .int .u8), u = .string b ∧ xs = castS e (strBytes b) ∧ b.size ≤ maxStr := by
  unfold srcData at h
  split at h
  · simp at h; subst h
    rw [show u = _ from hv]
    exact .inl ⟨none, 0, rfl, Nat.zero_le _, fun h => absurd h (by simp)⟩
  · rename_i s
    split at h
    · rename_i e
      simp at h; subst h
      obtain ⟨b, rfl, rfl, hb⟩ := hv
      exact .inr ⟨b, e, rfl, rfl, hb⟩
    · simp at h
  · split at h
    · rename_i t' ys h1
      split at h
      · rename_i e
        subst e
        simp [castL] at h; subst h
        exact .inl (data_sound I h1 hv)
      · simp at h
    · simp at h
/-- A new row: what it holds, where it lies. -/
theorem OpOut.newRow (I : Inv w0 S0 ok0 X H w) {t : Ty} {xs : List t.T} {w' : World} {cap : Nat} {ds : List Value} {val : Value} (hr : (execOp ρ o).run P w = .ok (.value val) w') (hval : val = .slice (some ⟨w.heap.size, 0, none⟩) xs.length cap)
    (hold : ∀ b, b < w.heap.size → w'.heap[b]? = w.heap[b]?) (hsz : w.heap.size ≤ w'.heap.size) (hos : w'.os = w.os) (htape : w'.tape = w.tape) (hout : w'.output = w.output)
    (hc : xs.length ≤ cap) (hm : xs.length ≤ maxBytes) (hcm : cap ≤ maxLen) (hrep : Rep w X.ok (.ar xs.length t) xs ds) (hat : RowAt w' w.heap.size cap t.size ds) :
    OpOut P w0 S0 ok0 X H w ρ o (.one (.ow dst (H.ver dst))) [(dst, H.ver dst, .row t xs)] := by
  have hO : ∀ E : Ext X H w (X.set dst (some (w.heap.size, cap))) ((dst, H.ver dst, .row t xs) :: H) w', ObjRel (X.set dst (some (w.heap.size, cap))) ((dst, H.ver dst, .row t xs) :: H) w' dst (.row t xs) := fun E =>
    .inr ⟨w.heap.size, cap, ds, Cx.set_same .., hc, hm, hcm, Rep.mono E.ok hrep, hat⟩
  obtain ⟨E, I'⟩ := I.newW dst cap (.row t xs) hold hsz hos htape hout hO
  refine ⟨val, w', _, .inl hr, E, I', ⟨⟨?_, by rw [hval]; rfl⟩, fun t' xs' ho => ?_⟩⟩
  · show _ < Heap.ver ((dst, H.ver dst, .row t xs) :: H) dst
    rw [ver_cons]; simp
  · have ho : Heap.obj ((dst, H.ver dst, .row t xs) :: H) dst (H.ver dst) = some (.row t' xs') := ho
    rw [obj_cons] at ho
    simp at ho
    obtain ⟨rfl, ho⟩ := ho
    simp at ho
    subst ho
    rw [Cx.set_same]
    exact ⟨some ⟨w.heap.size, 0, none⟩, by rw [hval]; simp, by omega, fun _ => by simp⟩
theorem u8_rep {ok : Nat → Prop} : ∀ {xs : List Int}, (∀ x ∈ xs, 0 ≤ x ∧ x ≤ 255) → Rep w ok (.ar xs.length (.int .u8)) xs (xs.map (Value.int .u8))
  | [], _ => .ar0 _
  | x :: xs, h => by
    have h1 := h x (by simp)
    exact .arS _ (.int .u8) x xs [.int .u8 x] _ (.int _ _ (by simp [inR, IntKind.min, IntKind.max, IntKind.signed, IntKind.bits]; omega)) (u8_rep fun y hy => h y (by simp [hy]))
theorem strBytes_mem {s : ByteArray} {x : Int} (h : x ∈ strBytes s) : 0 ≤ x ∧ x ≤ 255 := by
  unfold strBytes at h
  obtain ⟨b, _, rfl⟩ := List.mem_map.1 h
  have := b.toNat_lt
  omega
theorem grown_le (w : World) (n old : Nat) (e : TypeId) (h : n ≤ maxBytes) : n ≤ grownCap w n old e ∧ grownCap w n old e ≤ maxLen := by
  have hn : n < 2 ^ 63 := by simp [maxBytes] at h; omega
  have h3 : w.tape w.drawn (Question.appendCap n old e) % (2 ^ 63 - n) < 2 ^ 63 - n := Nat.mod_lt _ (by omega)
  have h4 : grownCap w n old e = n + w.tape w.drawn (Question.appendCap n old e) % (2 ^ 63 - n) := rfl
  rw [h4]
  unfold maxLen
  omega
theorem encode_size (n : Int) : (Utf8.encode n).size ≤ maxStr := by
  unfold Utf8.encode
  simp only
  repeat' split
  all_goals (simp [ByteArray.size, maxStr])
theorem op_convert (I : Inv w0 S0 ok0 X H w) (E : EvOk X H w ev ρ) {S T : TypeId} {x : Operand} (hop : o.op = .convert S T x) (h : opV P dst ev H o.op = some (cs, v, U)) (hc : ∀ c ∈ cs, c = true) : OpOut P w0 S0 ok0 X H w ρ o v U := by
  rw [hop] at h
  simp only [opV] at h
  split at h
  · rename_i su k k' n hu1 hu2 h1
    simp [ok1] at h
    obtain ⟨_, rfl, rfl⟩ := h
    obtain ⟨e, _⟩ := E x _ h1
    exact OpOut.pure I (val := .int k (k.wrap n)) (by simp [execOp, hop, e, convert, run_und hu1, run_und hu2, Conv.intToInt]) ⟨rfl, wrap_inR _ _⟩
  · rename_i su s hu1 hu2 h1
    simp [ok1] at h
    obtain ⟨_, rfl, rfl⟩ := h
    obtain ⟨b, e, h2⟩ := E x _ h1
    exact OpOut.pure I (val := .string b) (by simp [execOp, hop, e, convert, run_und hu1, run_und hu2]) ⟨b, rfl, h2⟩
  · rename_i su k n hu1 hu2 h1
    simp [ok1] at h
    obtain ⟨_, rfl, rfl⟩ := h
    obtain ⟨e, _⟩ := E x _ h1
    exact OpOut.pure I (val := .string (Utf8.encode n)) (by simp [execOp, hop, e, convert, run_und hu1, run_und hu2, Conv.intToString]) ⟨_, rfl, rfl, encode_size n⟩
  · rename_i se e i r hu1 hu2 h1
    split at h
    · rename_i t xs ho
      split at h
      · rename_i hu3
        cases hq : (Nat.beq S T && Nat.beq t.size 1) with
        | false => simp [hq] at h
        | true =>
          simp only [hq, cond_true, Option.some.injEq, Prod.mk.injEq] at h
          obtain ⟨rfl, rfl, rfl⟩ := h
          simp only [Bool.and_eq_true] at hq
          have hST := Nat.eq_of_beq_eq_true hq.1
          have hsz := Nat.eq_of_beq_eq_true hq.2
          subst hST
          rw [hu1] at hu2
          simp only [Option.some.injEq, TypeDesc.slice.injEq] at hu2
          subst hu2
          have hpos : 0 < xs.length := by simpa using hc
          have hv := E x _ h1
          have hrow := hv.2 t xs ho
          rcases I.objs i r _ (obj_lk ho) with ⟨_, h0⟩ | ⟨B, cap, ds, hB, h2, h3, h4, h5, cur, ty, fr, hh, h6, h7, h8, h9⟩
          · rw [h0] at hpos; simp at hpos
          · rw [hB] at hrow
            obtain ⟨A, hA, h10, h11⟩ := hrow
            have hA' := h11 (.inl hpos)
            subst hA'
            have hlt : B < w.heap.size := (Array.getElem?_eq_some_iff.1 hh).1
            have hget : (w.freeze ⟨B, cur.size, none⟩ 1).heap[B]? = some (.cells cur ty (if fr.1 == fr.2 then (cur.size, cur.size + 1) else (min fr.1 cur.size, max fr.2 (cur.size + 1)))) := by
              simp only [World.freeze]
              rw [if_neg (by decide)]
              simp only [Array.getElem?_modify, if_pos, hh, Option.map_some]
            have hrun : (execOp ρ o).run P w = .ok (.value (ρ x)) (w.freeze ⟨B, cur.size, none⟩ 1) := by
              simp [execOp, hop, hA, convert, run_und hu1, run_und hu3, markStringish, World.shape?, hh]
            obtain ⟨E', I'⟩ := I.turn (w' := w.freeze ⟨B, cur.size, none⟩ 1) (o' := .row t xs) ho (by simp) ⟨rfl, rfl⟩ hB (fun b hb => by
                simp only [World.freeze]
                rw [if_neg (by decide)]
                simp only [Array.getElem?_modify, if_neg (Ne.symm hb)]) (by simp [World.freeze]) (by simp [World.freeze]) (by simp [World.freeze]) (by simp [World.freeze]) fun E' => by
              refine .inr ⟨B, cap, ds, hB, h2, h3, h4, h5.mono E'.ok, cur, ty, _, hget, h6, ?_, h8, h9⟩
              obtain ⟨hle, h7⟩ := h7
              refine ⟨by cases hf : (fr.1 == fr.2) <;> simp <;> omega, fun off ho1 ho2 => ?_⟩
              cases hf : (fr.1 == fr.2) with
              | true => rw [hf] at ho2; simp at ho2; omega
              | false =>
                rw [hf] at ho2
                simp at ho2 hf
                have h12 := h7 off ho1
                have h13 : ¬ fr.1 < cur.size ∨ ¬ fr.1 < fr.2 := by
                  by_cases h14 : fr.1 < cur.size
                  · right; intro h15
                    exact h7 fr.1 h14 ⟨Nat.le_refl _, h15⟩
                  · exact .inl h14
                omega
            exact ⟨ρ x, _, X, .inl hrun, E', I', AVRel.ext E' hv⟩
      · simp at h
    · simp at h
  · rename_i e c _ _ hu1 hu2 h1
    split at h
    · rename_i xs hu3 h2
      simp at h
      obtain ⟨rfl, rfl, rfl⟩ := h
      simp at hc
      rcases srcData_slice I h2 (E x _ h1) with ⟨A, cp, e1, hm, h3⟩ | ⟨b, e2, e1, rfl, hb⟩
      · by_cases h0 : 0 < xs.length
        · obtain ⟨B, off, ds, rfl, h4, h5⟩ := h3 h0
          obtain ⟨rfl, h6⟩ := u8_list h4
          have h7 := run_convert_bytes_arg (P := P) w S e hu1 hu3 B off xs.length cp xs rfl (fun i hi => by
            have := h5 i (by simpa using hi)
            rw [this]
            simp [List.getD_eq_getElem?_getD, hi]) T hu2
          exact OpOut.pure I (val := .string (strOfNums xs)) (by simp [execOp, hop, e1, h7]) ⟨_, rfl, strBytes_of_nums h6, by rw [strOfNums_size]; exact hc⟩
        · have hx : xs = [] := List.eq_nil_of_length_eq_zero (by omega)
          subst hx
          refine OpOut.pure I (val := .string ByteArray.empty) ?_ ⟨_, rfl, rfl, Nat.zero_le _⟩
          cases A with
          | none => simp [execOp, hop, e1, convert, run_und hu1, run_und hu2, run_und hu3, Conv.bytesToString]
          | some a => simp [execOp, hop, e1, convert, run_und hu1, run_und hu2, run_und hu3, Conv.bytesToString, loadCells, loadCellsFrom]
      · refine OpOut.pure I (val := .string b) (by simp [execOp, hop, e1, convert, run_und hu1, run_und hu2]) ⟨_, rfl, rfl, hb⟩
    · simp at h
  · rename_i su e s hu1 hu2 h1
    split at h
    · rename_i hu3
      simp at h
      obtain ⟨_, rfl, rfl⟩ := h
      obtain ⟨b, e1, rfl, hb⟩ := E x _ h1
      have h2 := Lib.run_convert_string_bytes (P := P) w S T e b hu1 hu2 hu3
      have hbm : b.size ≤ maxBytes := Nat.le_trans hb (by decide)
      obtain ⟨hg1, hg2⟩ := grown_le w b.size 0 e hbm
      have hl := strBytes_length b
      refine OpOut.newRow I (xs := (strBytes b : List Int)) (t := .int .u8) (cap := grownCap w b.size 0 e) (ds := (strBytes b).map (Value.int .u8)) (by simp [execOp, hop, e1, h2]; rfl) (by rw [hl]) (fun B hB => Lib.bytesWorld_at_old w e b B hB)
        (by rw [Lib.bytesWorld_size]; omega) ?_ ?_ ?_ (by rw [hl]; exact hg1) (by rw [hl]; exact hbm) hg2 (u8_rep fun x hx => strBytes_mem hx) ?_
      · simp [Lib.bytesWorld, World.freeze, World.alloc, World.drew, -World.alloc_eq, -World.drew_eq]
      · simp [Lib.bytesWorld, World.freeze, World.alloc, World.drew, -World.alloc_eq, -World.drew_eq]
      · simp [Lib.bytesWorld, World.freeze, World.alloc, World.drew, -World.alloc_eq, -World.drew_eq]
      · have hsz : (Lib.bytesCells w e b).size = grownCap w b.size 0 e := by
          simp only [Lib.bytesCells, Array.size_append, Array.size_map, Array.size_replicate]
          have : b.data.size = b.size := rfl
          omega
        refine ⟨Lib.bytesCells w e b, e, _, Lib.bytesWorld_at_new w e b, by simp [hsz, Ty.size], ⟨by simp, fun off ho hh => by omega⟩, by simp [hl, hsz]; omega, ?_⟩
        simp only [Lib.bytesCells, Array.toList_append, List.length_map, hl]
        rw [List.take_append_of_le_length (by simp)]
        rw [List.take_of_length_le (by simp)]
        simp [strBytes, List.map_map, Function.comp_def]
    · simp at h
  · simp at h
end
end Go.Ab

/- The operations that make and turn memory: what the interpreter says of them holds of the model's. -/
set_option linter.unusedVariables false
set_option linter.unusedSimpArgs false
namespace Go.Ab
open Go

section
variable {P : Program} {w0 : World} {S0 ok0 : Nat → Prop} {X : Cx} {H : Heap} {w : World} {ρ : Operand → Value} {o : Oper} {v : AV} {U : Heap} {cs : List Bool} {dst : Nat} {ev : Operand → Option AV}

theorem run_zero {T : TypeId} {i : TypeInfo} {z : Value} (hi : P.info? T = some i) (hz : i.zero = some z) : (zeroValue T).run P w = .ok z w := by
  simp [zeroValue, typeInfo, program, hi, hz, Sem.run]
theorem NoFr.zero (n : Nat) : NoFr (0, 0) n := ⟨Nat.le_refl _, fun off _ h => by omega⟩
/-- A new box: what it holds. -/
theorem OpOut.newBox (I : Inv w0 S0 ok0 X H w) {fs : List Fld} {cur : Array Value} {T : TypeId} (hr : (execOp ρ o).run P w = .ok (.value (.pointer (some ⟨w.heap.size, 0, none⟩))) (w.alloc (.cells cur T)))
    (hf : ∀ (X' : Cx) (H' : Heap) (w' : World), Ext X H w X' H' w' → FRel X' H' w' fs cur.toList) : OpOut P w0 S0 ok0 X H w ρ o (.one (.pb dst (H.ver dst) 0)) [(dst, H.ver dst, .box fs)] := by
  obtain ⟨E, I'⟩ := I.new dst 0 (.box fs) (.cells cur T) fun E => ⟨w.heap.size, 0, cur, T, (0, 0), Cx.set_same .., alloc_at _, NoFr.zero _, hf _ _ _ E⟩
  refine ⟨_, _, _, .inl hr, E, I', ⟨⟨?_, rfl⟩, fun gs ho => ?_⟩⟩
  · show _ < Heap.ver ((dst, H.ver dst, .box fs) :: H) dst
    rw [ver_cons]; simp
  · have ho : Heap.obj ((dst, H.ver dst, .box fs) :: H) dst (H.ver dst) = some (.box gs) := ho
    exact ⟨w.heap.size, 0, Cx.set_same .., by simp [wsum]⟩
theorem op_alloc (I : Inv w0 S0 ok0 X H w) {T : TypeId} (hop : o.op = .alloc T) (h : opV P dst ev H o.op = some (cs, v, U)) : OpOut P w0 S0 ok0 X H w ρ o v U := by
  rw [hop] at h
  simp only [opV] at h
  split at h
  · rename_i fs h1
    simp at h
    obtain ⟨_, rfl, rfl⟩ := h
    obtain ⟨i, z, hi, hz, _⟩ := zeroOf_sound (X := X) (H := H) (w := w) h1
    refine OpOut.newBox I (cur := z.cells) (T := T) ?_ fun X' H' w' _ => ?_
    · simp [execOp, hop, Instr.alloc, run_zero hi hz, newVar, newRow, newObj, Sem.run, World.alloc, -World.alloc_eq]
    · obtain ⟨i', z', hi', hz', hf⟩ := zeroOf_sound (X := X') (H := H') (w := w') h1
      rw [hi] at hi'; simp at hi'; subst hi'
      rw [hz] at hz'; simp at hz'; subst hz'
      exact hf
  · simp at h
theorem AVRel.frel {a : AV} {u : Value} (hk : a.known = true) (h : AVRel X H w a u) : FRel X H w a.flds u.cells.toList := by
  cases a with
  | one c =>
    have hc : c ≠ .any := by rintro rfl; simp [AV.known] at hk
    have h1 := CRel.one h hc
    have : u.cells = #[u] := by cases u <;> simp_all [Value.cells, Value.oneCell']
    rw [this]
    exact FRel.one h1 h
  | agg fs => obtain ⟨cs, rfl, h1⟩ := h; exact h1
theorem op_box (I : Inv w0 S0 ok0 X H w) (E : EvOk X H w ev ρ) {T : TypeId} {x : Operand} (hop : o.op = .box T x) (h : opV P dst ev H o.op = some (cs, v, U)) : OpOut P w0 S0 ok0 X H w ρ o v U := by
  rw [hop] at h
  simp only [opV] at h
  split at h
  · rename_i a h1
    cases hk : a.known with
    | false => simp [hk] at h
    | true =>
      simp [hk] at h
      obtain ⟨_, rfl, rfl⟩ := h
      refine OpOut.newBox I (cur := (ρ x).cells) (T := T) ?_ fun X' H' w' E' => ((E x _ h1).frel hk).ext E'
      simp [execOp, hop, Instr.box, newVar, newRow, newObj, Sem.run, World.alloc, -World.alloc_eq]
  · simp at h
theorem op_range (I : Inv w0 S0 ok0 X H w) (E : EvOk X H w ev ρ) {T : TypeId} {x : Operand} (hop : o.op = .range T x) (h : opV P dst ev H o.op = some (cs, v, U)) : OpOut P w0 S0 ok0 X H w ρ o v U := by
  rw [hop] at h
  simp only [opV] at h
  split at h
  · rename_i s h1 hu
    simp at h
    obtain ⟨_, rfl, rfl⟩ := h
    obtain ⟨b, e, rfl, hb⟩ := E x _ h1
    obtain ⟨E', I'⟩ := I.new dst 0 (.it (strBytes b) 0) (.stringIter b 0) fun E => ⟨w.heap.size, 0, b, Cx.set_same .., alloc_at _, rfl, hb⟩
    refine ⟨.pointer (some ⟨w.heap.size, 0, none⟩), _, _, .inl ?_, E', I', ⟨⟨?_, rfl⟩, fun gs p ho => ?_⟩⟩
    · simp [execOp, hop, e, Instr.range, run_und hu, newObj, Sem.run, World.alloc, -World.alloc_eq]
    · show _ < Heap.ver ((dst, H.ver dst, .it (strBytes b) 0) :: H) dst
      rw [ver_cons]; simp
    · exact ⟨w.heap.size, 0, Cx.set_same .., rfl⟩
  · simp at h

/-! ### Stores -/
theorem plain_sound (I : Inv w0 S0 ok0 X H w) {c c' : C} {u : Value} (h : H.plain c = some (c', U)) (hv : CRel X H w c u) :
    ∃ X', Ext X H w X' (U ++ H) w ∧ Inv w0 S0 ok0 X' (U ++ H) w ∧ CRel X' (U ++ H) w c' u ∧ X'.b = X.b := by
  unfold Heap.plain at h
  split at h
  · rename_i i r
    split at h
    · rename_i t xs ho
      simp at h; obtain ⟨rfl, rfl⟩ := h
      obtain ⟨E, I'⟩ := I.freeze ho (by simp)
      refine ⟨_, E, I', ?_, rfl⟩
      have h1 := hv.2 t xs ho
      rcases I'.objs i (r + 1) .dead (by rw [lk_cons]; simp) with _
      rcases I.objs i r _ (obj_lk ho) with ⟨hb, rfl⟩ | ⟨B, cap, ds, hb, h3, h3', _, h4, cur, ty, fr, h5, h6, h7, h8, h9⟩
      · rw [hb] at h1; obtain ⟨rfl, _⟩ := h1
        exact .sl0 _ _ _
      · rw [hb] at h1; obtain ⟨A, rfl, h10, h11⟩ := h1
        rw [h11 (.inr rfl)]
        exact .sl t xs B _ _ ds (Rep.mono E.ok h4) (At.of_row h5 [] (cur.toList.drop ds.length) (by simpa using pref_eq h9) (by simp)) (.inr ⟨cap, hb⟩) (by omega) h3'
    · simp at h
  · rename_i i r lo n
    split at h
    · rename_i t xs ho
      simp at h; obtain ⟨rfl, rfl⟩ := h
      obtain ⟨E, I'⟩ := I.freeze ho (by simp)
      refine ⟨_, E, I', ?_, rfl⟩
      have hd : H.data (.os i r lo n) = some ⟨t, (xs.drop lo).take n⟩ := by simp [Heap.data, ho]
      obtain ⟨h0, h1⟩ := hv.2 t xs ho
      have hl : ((xs.drop lo).take n).length = n := by simp; omega
      rcases I.objs i r _ (obj_lk ho) with ⟨hb, rfl⟩ | ⟨B, cap, ds, hb, h3, h3', _, h4, cur, ty, fr, h5, h6, h7, h8, h9⟩
      · rw [hb] at h1; obtain ⟨rfl, rfl, _⟩ := h1
        simp
        exact .sl0 _ _ _
      · rw [hb] at h1; obtain ⟨A, rfl, h10, h11⟩ := h1
        by_cases hn : 0 < n
        · obtain ⟨A', cp, e, _, h12⟩ := data_sound I hd hv
          simp [hl] at e
          obtain ⟨rfl, rfl⟩ := e
          obtain ⟨B', off, ds', e2, h13, h14⟩ := h12 (by omega)
          rw [h11 (.inl hn)] at e2 ⊢
          simp at e2
          obtain ⟨rfl, rfl⟩ := e2
          have := Rep.sl (w := w) (ok := fun b => X.ok b ∨ ∃ c, X.b i = some (b, c)) t ((xs.drop lo).take n) B (lo * t.size) (cap - lo) ds' (Rep.mono E.ok h13) h14 (.inr ⟨cap, hb⟩) (by omega) (by omega)
          rwa [hl] at this
        · have : n = 0 := by omega
          subst this
          simp
          exact .sl0 _ _ _
    · simp at h
  · simp at h; obtain ⟨rfl, rfl⟩ := h
    exact ⟨X, Ext.refl .., I, hv, rfl⟩
theorem plainF_sound : ∀ {fs gs : List Fld} {U H : Heap} {X : Cx} {us : List Value}, Inv w0 S0 ok0 X H w → H.plainF fs = some (gs, U) → FRel X H w fs us →
    ∃ X', Ext X H w X' (U ++ H) w ∧ Inv w0 S0 ok0 X' (U ++ H) w ∧ FRel X' (U ++ H) w gs us ∧ X'.b = X.b
  | [], gs, U, H, X, us, I, h, hf => by
    simp [Heap.plainF] at h; obtain ⟨rfl, rfl⟩ := h
    exact ⟨X, Ext.refl .., I, hf, rfl⟩
  | .c x :: r, gs, U, H, X, _, I, h, ⟨v, us', rfl, h1, h2, h3⟩ => by
    simp only [Heap.plainF] at h
    cases e1 : H.plain x with
    | none => simp [e1] at h
    | some xU =>
      obtain ⟨x', U1⟩ := xU
      cases e2 : Heap.plainF (U1 ++ H) r with
      | none => simp [e1, e2] at h
      | some rV =>
        obtain ⟨r', V⟩ := rV
        simp [e1, e2] at h
        obtain ⟨rfl, rfl⟩ := h
        obtain ⟨X1, E1, I1, h4, hb1⟩ := plain_sound I e1 h2
        obtain ⟨X2, E2, I2, h5, hb2⟩ := plainF_sound I1 e2 (h3.ext E1)
        rw [← List.append_assoc] at E2 I2 h5
        exact ⟨X2, E1.trans E2, I2, ⟨v, us', rfl, h1, by have := h4.ext E2; exact this, h5⟩, hb2.trans hb1⟩
  | .a n t xs :: r, gs, U, H, X, _, I, h, ⟨as, us', rfl, h1, h2, h3⟩ => by
    simp only [Heap.plainF] at h
    cases e2 : H.plainF r with
    | none => simp [e2] at h
    | some rV =>
      obtain ⟨r', V⟩ := rV
      simp [e2] at h
      obtain ⟨rfl, rfl⟩ := h
      obtain ⟨X2, E2, I2, h5, hb2⟩ := plainF_sound I e2 h3
      exact ⟨X2, E2, I2, ⟨as, us', rfl, h1.mono E2.ok, h2, h5⟩, hb2⟩

/-- A box whose cells turn from one place on. -/
theorem box_turn (I : Inv w0 S0 ok0 X H w) {i r B c off : Nat} {fs fs' : List Fld} {us : List Value} {cur : Array Value} {ty : TypeId} {fr : Nat × Nat} (ho : H.obj i r = some (.box fs)) (hs : FsSim fs fs') (hB : X.b i = some (B, c))
    (hh : w.heap[B]? = some (.cells cur ty fr)) (hl : off + us.length ≤ cur.size) (hfr : NoFr fr cur.size)
    (hf : FRel X H w fs' (cur.toList.take off ++ (us ++ cur.toList.drop (off + us.length)))) :
    Ext X H w X ((i, r, .box fs') :: H) (w.setCells B off us) ∧ Inv w0 S0 ok0 X ((i, r, .box fs') :: H) (w.setCells B off us) := by
  obtain ⟨cur', h1, h2⟩ := setCells_heap us off w cur hh hl
  have hsz : cur'.size = cur.size := by
    rw [← Array.length_toList, h2]
    simp; omega
  obtain ⟨h3, h4, h5⟩ := setCells_rest (B := B) us off w
  refine I.turn ho (by simp) (by simpa [OSim] using hs) hB (fun b hb => setCells_other hb us off w) (setCells_size us off w) h3 h4 h5 fun E => ?_
  exact ⟨B, c, cur', ty, fr, hB, h1, by rw [hsz]; exact hfr, by rw [h2]; exact hf.ext E⟩
theorem FsSim.set : ∀ {fs : List Fld} {p : Nat} {f g : Fld}, fs[p]? = some f → FSim f g → FsSim fs (fs.set p g)
  | f :: r, 0, _, g, h, hs => by simp at h; subst h; exact ⟨hs, FsSim.refl _⟩
  | f :: r, p + 1, _, g, h, hs => by simp at h; exact ⟨FSim.refl f, FsSim.set h hs⟩
  | [], p, _, g, h, hs => by simp at h
theorem store_sound (I : Inv w0 S0 ok0 X H w) {c : C} {new : List Fld} {T : TypeId} {n : Nat} {a val : Value} (hn : szT P T = some n) (h : H.store c n new = some U) (hv : CRel X H w c a) (hf : FRel X H w new val.cells.toList) :
    ∃ w' X', (Instr.storeAt T a val).run P w = .ok () w' ∧ Ext X H w X' (U ++ H) w' ∧ Inv w0 S0 ok0 X' (U ++ H) w' := by
  have h1 := hf.all_one
  unfold Heap.store at h
  split at h
  · rename_i i r p
    split at h
    · rename_i fs ho
      obtain ⟨fs', h2, rfl⟩ := Option.map_eq_some_iff.1 h
      obtain ⟨B, cp, hB, rfl⟩ := hv.2 fs ho
      obtain ⟨B', c', cur, ty, fr, h3, h4, h5, h6⟩ := I.objs i r _ (obj_lk ho)
      rw [hB] at h3; simp at h3; obtain ⟨rfl, rfl⟩ := h3
      obtain ⟨h7, h8, h9⟩ := h6.splice h2 hf
      obtain ⟨_, _, _, _, hs⟩ := splice_sound h2
      have h7' : val.cells.size = n := by simpa using h7
      obtain ⟨E, I'⟩ := box_turn (us := val.cells.toList) (off := wsum (fs.take p)) I ho hs hB h4 (by simp at h8 ⊢; omega) h5 (by simpa [h7'] using h9)
      refine ⟨_, X, ?_, E, I'⟩
      simp only [Instr.storeAt, Instr.sureAddr, Sem.run_bind, Sem.run_pure, Result.andThen_ok]
      exact run_storeVar_at (by rw [h7']; exact hn) h4 (by simp at h8 ⊢; omega) h5 h1
    · simp at h
  · rename_i i r p e q
    split at h
    · rename_i fs ho
      split at h
      · rename_i m t xs hp
        split at h
        · rename_i el h2
          split at h
          · rename_i y h3
            simp at h; subst h
            obtain ⟨m', t', xs', B, cp, hp', he, hB, rfl⟩ := hv.2 fs ho
            rw [hp] at hp'; simp at hp'; obtain ⟨rfl, rfl, hx⟩ := hp'; simp at hx; subst hx
            obtain ⟨B', c', cur, ty, fr, h4, h5, h6, h7⟩ := I.objs i r _ (obj_lk ho)
            rw [hB] at h4; simp at h4; obtain ⟨rfl, rfl⟩ := h4
            obtain ⟨a1, b1, c1, e1, h8, h9, h10, h11⟩ := FRel.arAt hp h7
            obtain ⟨as, b', bs, rfl, h12, h13, h14, h15⟩ := h9.ar_get e he t.dflt
            obtain ⟨h16, h17, h18⟩ := (Rep.frel (X := X) (H := H) h13).splice h2 hf
            have hy := Ty.exact_sound h3 h18
            have hset := Rep.ar_set he h14 hy h15 h9.ar_len
            have h7' : val.cells.size = n := by simpa using h16
            have hbl := h13.length
            have hws : wsum ((t.flds (xs.getD e t.dflt)).take q) = (t.ws.take q).sum := Ty.ws_take ..
            have hcur : cur.size = (a1 ++ (as ++ (b' ++ bs) ++ c1)).length := by rw [← e1]; simp
            rw [hws] at h17 h18 hset hy
            have hlen : wsum (fs.take p) + e * t.size + (t.ws.take q).sum + val.cells.toList.length ≤ cur.size := by
              rw [hcur]; simp [h7'] at *; omega
            have hsim : FsSim fs (fs.set p (.a m t (xs.set e y))) := FsSim.set hp ⟨rfl, rfl⟩
            have hfs : fs.set p (.a m t (xs.set e y)) = fs.take p ++ (.a m t (xs.set e y) :: fs.drop (p + 1)) := by
              have := (List.getElem?_eq_some_iff.1 hp).1
              rw [List.set_eq_take_append_cons_drop, if_pos this]
            have hnew : FRel X H w (fs.set p (.a m t (xs.set e y))) (a1 ++ ((as ++ (b'.take (t.ws.take q).sum ++ (val.cells.toList ++ b'.drop ((t.ws.take q).sum + n)) ++ bs)) ++ c1)) := by
              rw [hfs]
              exact h10.append ⟨_, c1, rfl, by simpa using hset, by simpa using hset.one, h11⟩
            obtain ⟨E, I'⟩ := box_turn (us := val.cells.toList) (off := wsum (fs.take p) + e * t.size + (t.ws.take q).sum) I ho hsim hB h5 hlen h6 (by
              rw [e1]
              have e2 : (a1 ++ (as ++ (b' ++ bs) ++ c1)).take (wsum (fs.take p) + e * t.size + (t.ws.take q).sum) = a1 ++ (as ++ b'.take (t.ws.take q).sum) := by
                rw [List.take_append, List.take_of_length_le (by omega), h8, show wsum (fs.take p) + e * t.size + (t.ws.take q).sum - wsum (fs.take p) = e * t.size + (t.ws.take q).sum by omega]
                rw [List.append_assoc, List.take_append, List.take_of_length_le (by omega), h12, show e * t.size + (t.ws.take q).sum - e * t.size = (t.ws.take q).sum by omega]
                rw [List.append_assoc, List.take_append_of_le_length (by omega)]
              have e3 : (a1 ++ (as ++ (b' ++ bs) ++ c1)).drop (wsum (fs.take p) + e * t.size + (t.ws.take q).sum + val.cells.toList.length) = b'.drop ((t.ws.take q).sum + n) ++ (bs ++ c1) := by
                rw [List.drop_append, List.drop_eq_nil_of_le (by omega), h8, show wsum (fs.take p) + e * t.size + (t.ws.take q).sum + val.cells.toList.length - wsum (fs.take p) = e * t.size + ((t.ws.take q).sum + n) by simp [h7']; omega]
                rw [List.append_assoc, List.drop_append, List.drop_eq_nil_of_le (by omega), h12, show e * t.size + ((t.ws.take q).sum + n) - e * t.size = (t.ws.take q).sum + n by omega]
                rw [List.append_assoc, List.drop_append_of_le_length (by omega)]
                simp
              rw [e2, e3]
              simpa using hnew)
            refine ⟨_, X, ?_, E, I'⟩
            simp only [Instr.storeAt, Instr.sureAddr, Sem.run_bind, Sem.run_pure, Result.andThen_ok]
            exact run_storeVar_at (by rw [h7']; exact hn) h5 (by simpa using hlen) h6 h1
          · simp at h
        · simp at h
      · simp at h
    · simp at h
  · rename_i i r e q
    cases e0 : H.plainF new with
    | none => simp [e0] at h
    | some nV =>
      obtain ⟨new', V⟩ := nV
      simp only [e0] at h
      obtain ⟨X1, E1, I1, hf1, hb1⟩ := plainF_sound I e0 hf
      split at h
      · rename_i t xs ho
        split at h
        · rename_i el h2
          split at h
          · rename_i y h3
            simp at h; subst h
            have hv1 := CRel.ext E1 hv
            obtain ⟨B, cp, hB, he, rfl⟩ := hv1.2 t xs ho
            rcases I1.objs i r _ (obj_lk ho) with ⟨hb, _⟩ | ⟨B', cap, ds, hb, h4, h5, h5', h6, cur, ty, fr, h7, h8, h9, h10, h11⟩
            · rw [hB] at hb; simp at hb
            · rw [hB] at hb; simp at hb; obtain ⟨rfl, rfl⟩ := hb
              obtain ⟨as, b', bs, rfl, h12, h13, h14, h15⟩ := h6.ar_get e he t.dflt
              obtain ⟨h16, h17, h18⟩ := (Rep.frel (X := X1) (H := V ++ H) h13).splice h2 hf1
              have hy := Ty.exact_sound h3 h18
              have hset := Rep.ar_set he h14 hy h15 rfl
              have h7' : val.cells.size = n := by simpa using h16
              have hbl := h13.length
              have hws : wsum ((t.flds (xs.getD e t.dflt)).take q) = (t.ws.take q).sum := Ty.ws_take ..
              rw [hws] at h17 h18 hset hy
              have hcur := pref_eq h11
              have hlen : e * t.size + (t.ws.take q).sum + val.cells.toList.length ≤ cur.size := by
                simp [h7'] at *; omega
              obtain ⟨cur', hh1, hh2⟩ := setCells_heap val.cells.toList (e * t.size + (t.ws.take q).sum) w cur h7 hlen
              have hsz : cur'.size = cur.size := by
                rw [← Array.length_toList, hh2]
                simp at hlen ⊢; omega
              have e2 : cur.toList.take (e * t.size + (t.ws.take q).sum) = as ++ b'.take (t.ws.take q).sum := by
                rw [hcur, List.append_assoc, List.take_append, List.take_of_length_le (by omega), h12, show e * t.size + (t.ws.take q).sum - e * t.size = (t.ws.take q).sum by omega]
                rw [List.append_assoc, List.take_append_of_le_length (by omega)]
              have e3 : cur.toList.drop (e * t.size + (t.ws.take q).sum + val.cells.toList.length) = b'.drop ((t.ws.take q).sum + n) ++ (bs ++ cur.toList.drop (as ++ (b' ++ bs)).length) := by
                conv => lhs; rw [hcur]
                rw [List.append_assoc, List.drop_append, List.drop_eq_nil_of_le (by omega), h12, show e * t.size + (t.ws.take q).sum + val.cells.toList.length - e * t.size = (t.ws.take q).sum + n by simp [h7']; omega]
                rw [List.append_assoc, List.drop_append_of_le_length (by omega)]
                simp
              rw [e2, e3] at hh2
              obtain ⟨hr1, hr2, hr3⟩ := setCells_rest (B := B) val.cells.toList (e * t.size + (t.ws.take q).sum) w
              obtain ⟨E, I'⟩ := I1.turn (o' := .row t (xs.set e y)) ho (by simp) (by simp [OSim]) hB (fun b hb => setCells_other hb val.cells.toList (e * t.size + (t.ws.take q).sum) w) (setCells_size _ _ _) hr1 hr2 hr3 fun E => by
                refine .inr ⟨B, cp, as ++ ((b'.take (t.ws.take q).sum ++ (val.cells.toList ++ b'.drop ((t.ws.take q).sum + n))) ++ bs), hB, by simpa using h4, by simpa using h5, h5', ?_, cur', ty, fr, hh1, by rw [hsz]; exact h8, by rw [hsz]; exact h9, ?_, ?_⟩
                · have := Rep.mono E.ok hset
                  rw [List.length_set]
                  simpa using this
                · rw [hsz]; simp [h7'] at h10 ⊢; omega
                · rw [hh2]
                  have e5 : as ++ b'.take (t.ws.take q).sum ++ (val.cells.toList ++ (b'.drop ((t.ws.take q).sum + n) ++ (bs ++ cur.toList.drop (as ++ (b' ++ bs)).length))) =
                      (as ++ ((b'.take (t.ws.take q).sum ++ (val.cells.toList ++ b'.drop ((t.ws.take q).sum + n))) ++ bs)) ++ cur.toList.drop (as ++ (b' ++ bs)).length := by simp
                  rw [e5]
                  exact List.take_left
              refine ⟨_, X1, ?_, E1.trans E, I'⟩
              simp only [Instr.storeAt, Instr.sureAddr, Sem.run_bind, Sem.run_pure, Result.andThen_ok]
              exact run_storeVar_at (by rw [h7']; exact hn) h7 (by simpa using hlen) h9 h1
          · simp at h
        · simp at h
      · simp at h
  · simp at h
theorem op_store (I : Inv w0 S0 ok0 X H w) (E : EvOk X H w ev ρ) {T : TypeId} {a x : Operand} (hop : o.op = .store T a x) (h : opV P dst ev H o.op = some (cs, v, U)) : OpOut P w0 S0 ok0 X H w ρ o v U := by
  rw [hop] at h
  simp only [opV] at h
  split at h
  · rename_i c b h1 h2
    cases hk : b.known with
    | false => simp [hk] at h
    | true =>
      simp [hk] at h
      split at h
      · rename_i n h3
        split at h
        · rename_i V h4
          simp at h
          obtain ⟨_, rfl, rfl⟩ := h
          obtain ⟨w', X', hr, E', I'⟩ := store_sound I h3 h4 (E a _ h1) ((E x _ h2).frel hk)
          exact ⟨undef, w', X', .inr ⟨by simp [execOp, hop, hr], rfl⟩, E', I', trivial⟩
        · simp at h
      · simp at h
  · simp at h

/-! ### Literals -/
/-- The parts as values: each with what it stands for. -/
inductive Parts (X : Cx) (H : Heap) (w : World) : List (Nat × AV) → List (Nat × Value) → Prop
  | nil : Parts X H w [] []
  | cons (i : Nat) (a : AV) (u : Value) (r : List (Nat × AV)) (s : List (Nat × Value)) : FRel X H w a.flds u.cells.toList → Parts X H w r s → Parts X H w ((i, a) :: r) ((i, u) :: s)
theorem evalParts_parts (E : EvOk X H w ev ρ) : ∀ {l : List (Nat × Operand)} {ps : List (Nat × AV)}, evalParts ev l = some ps → Parts X H w ps (l.map fun p => (p.1, ρ p.2))
  | [], ps, h => by simp [evalParts] at h; subst h; exact .nil
  | (i, x) :: l, ps, h => by
    simp only [evalParts] at h
    split at h
    · rename_i a r h1 h2
      cases hk : a.known with
      | false => simp [hk] at h
      | true =>
        simp [hk] at h; subst h
        exact .cons i a (ρ x) r _ ((E x _ h1).frel hk) (evalParts_parts E h2)
    · simp at h
theorem fold_set : ∀ (us : List Value) (k off : Nat) (cells : Array Value), off + k + us.length ≤ cells.size →
    ((us.zipIdx k).foldl (fun (cs : Array Value) (x : Value × Nat) => cs.setIfInBounds (off + x.2) x.1) cells).toList = cells.toList.take (off + k) ++ (us ++ cells.toList.drop (off + k + us.length))
  | [], k, off, cells, h => by simp
  | u :: r, k, off, cells, h => by
    simp at h
    simp only [List.zipIdx_cons, List.foldl_cons]
    rw [fold_set r (k + 1) off (cells.setIfInBounds (off + k) u) (by simp; omega)]
    have hlt : off + k < cells.toList.length := by simp; omega
    rw [Array.toList_setIfInBounds, List.set_eq_take_append_cons_drop, if_pos hlt]
    have hn : (cells.toList.take (off + k)).length = off + k := by rw [List.length_take]; omega
    have e1 : (cells.toList.take (off + k) ++ u :: cells.toList.drop (off + k + 1)).take (off + (k + 1)) = cells.toList.take (off + k) ++ [u] := by
      rw [List.take_append, hn, List.take_of_length_le (by rw [hn]; omega), show off + (k + 1) - (off + k) = 1 by omega]
      simp
    have e2 : (cells.toList.take (off + k) ++ u :: cells.toList.drop (off + k + 1)).drop (off + (k + 1) + r.length) = cells.toList.drop (off + k + (r.length + 1)) := by
      rw [List.drop_append, List.drop_eq_nil_of_le (by rw [hn]; omega), hn, show off + (k + 1) + r.length - (off + k) = r.length + 1 by omega]
      simp [List.drop_drop]; congr 1; omega
    rw [e1, e2]
    simp
theorem fold_arr (us : Array Value) (off : Nat) (cells : Array Value) (h : off + us.size ≤ cells.size) :
    (us.zipIdx.foldl (fun (cs : Array Value) (x : Value × Nat) => cs.setIfInBounds (off + x.2) x.1) cells).toList = cells.toList.take off ++ (us.toList ++ cells.toList.drop (off + us.size)) := by
  have := fold_set us.toList 0 off cells (by simpa using h)
  rw [← Array.foldl_toList, Array.toList_zipIdx]
  simpa using this
theorem fill_struct {T : TypeId} {place : Nat → Option (Nat × Nat)} (hp : ∀ f off n, fieldAt? P T f = some (off, n) → place f = some (off, n)) :
    ∀ {ps : List (Nat × AV)} {us : List (Nat × Value)} {base out : List Fld} {cells : Array Value}, Parts X H w ps us → partsAt P T base ps = some out → FRel X H w base cells.toList → ∃ cells', Instr.fill place cells us = some cells' ∧ FRel X H w out cells'.toList
  | [], [], base, out, cells, _, h, hf => by simp [partsAt] at h; subst h; exact ⟨cells, rfl, hf⟩
  | (i, a) :: r, (_, u) :: s, base, out, cells, .cons _ _ _ _ _ h1 h2, h, hf => by
    simp only [partsAt] at h
    split at h
    · rename_i off n h3
      split at h
      · rename_i p h4
        split at h
        · rename_i b h5
          obtain ⟨hw, _⟩ := skipW_sound h4
          obtain ⟨h6, h7, h8⟩ := hf.splice h5 h1
          rw [hw] at h7 h8
          have h6' : u.cells.size = n := by simpa using h6
          have hl : off + u.cells.size ≤ cells.size := by simp at h7; omega
          have hfold := fold_arr u.cells off cells hl
          obtain ⟨c', h9, h10⟩ := fill_struct hp (cells := u.cells.zipIdx.foldl (fun (cs : Array Value) (x : Value × Nat) => cs.setIfInBounds (off + x.2) x.1) cells) h2 h (by rw [hfold, h6']; exact h8)
          refine ⟨c', ?_, h10⟩
          simp only [Instr.fill, hp i off n h3]
          rw [if_neg (by simp [h6']; omega)]
          exact h9
        · simp at h
      · simp at h
    · simp at h
end
end Go.Ab

/- Literals, make, append: what the interpreter says of them holds of the model's. -/
set_option linter.unusedVariables false
set_option linter.unusedSimpArgs false
namespace Go.Ab
open Go

section
variable {P : Program} {w0 : World} {S0 ok0 : Nat → Prop} {X : Cx} {H : Heap} {w : World} {ρ : Operand → Value} {o : Oper} {v : AV} {U : Heap} {cs : List Bool} {dst : Nat} {ev : Operand → Option AV}

theorem places_ok : ∀ {fs : List Field}, (fs.all fun f => (szT P f.type).isSome) = true → ∃ places, fs.mapM (fun f => (P.info? f.type).map fun i => (f.offset, i.size)) = some places ∧
    ∀ (j : Nat) fd n, fs[j]? = some fd → szT P fd.type = some n → places[j]? = some (fd.offset, n)
  | [], _ => ⟨[], rfl, by simp⟩
  | f :: r, h => by
    simp only [List.all_cons, Bool.and_eq_true] at h
    obtain ⟨places, h1, h2⟩ := places_ok h.2
    cases hi : P.info? f.type with
    | none => simp [szT, hi] at h
    | some i =>
      refine ⟨(f.offset, i.size) :: places, by simp [List.mapM_cons, hi, h1], fun j fd n hj hn => ?_⟩
      cases j with
      | zero =>
        simp at hj; subst hj
        simp [szT, hi] at hn; subst hn
        simp
      | succ j => simp at hj; simpa using h2 j fd n hj hn
theorem op_build (I : Inv w0 S0 ok0 X H w) (E : EvOk X H w ev ρ) {T : TypeId} {parts : Array (Nat × Operand)} (hop : o.op = .build T parts) (h : opV P dst ev H o.op = some (cs, v, U)) : OpOut P w0 S0 ok0 X H w ρ o v U := by
  rw [hop] at h
  simp only [opV] at h
  split at h
  · rename_i z ps h1 h2
    cases hf : fieldsOk P T with
    | false => simp [hf] at h
    | true =>
      simp [hf] at h
      split at h
      · rename_i fs h3
        simp at h
        obtain ⟨_, rfl, rfl⟩ := h
        obtain ⟨i, zv, hi, hz, h4⟩ := zeroOf_sound (X := X) (H := H) (w := w) h1
        unfold fieldsOk at hf
        split at hf
        · rename_i fl hu
          obtain ⟨places, h5, h6⟩ := places_ok hf
          have hpl : ∀ f off n, fieldAt? P T f = some (off, n) → places.toArray[f]? = some (off, n) := by
            intro f off n hfa
            obtain ⟨fs', fd, e1, e2, e3, e4⟩ := fieldAt?_sound hfa
            rw [hu] at e1; simp at e1; subst e1
            have := h6 f fd n (by simpa using e2) e4
            simp [this, e3]
          obtain ⟨cells', h7, h8⟩ := fill_struct (P := P) (T := T) hpl (evalParts_parts E h2) h3 h4
          have hb : P.built T (parts.map fun (i, x) => (i, ρ x)).toList = some cells' := by
            unfold Program.built
            simp only [hi, hu, hz, h5]
            rw [Array.toList_map]
            exact h7
          refine OpOut.pure I (val := .agg cells') ?_ ⟨cells', rfl, h8⟩
          have := run_build w T _ _ hb
          simp [execOp, hop, this]
        · simp at hf
      · simp at h
  · simp at h

theorem range_mod (L : List Value) (hL : 0 < L.length) : ∀ n, ((List.range (n * L.length)).map fun j => L[j % L.length]!) = (List.replicate n L).flatten
  | 0 => by simp
  | n + 1 => by
    rw [show (n + 1) * L.length = L.length + n * L.length by rw [Nat.add_mul]; omega, List.range_add, List.map_append, List.map_map, List.replicate_succ, List.flatten_cons, ← range_mod L hL n]
    congr 1
    · apply List.ext_getElem
      · simp
      · intro i h1 h2
        simp at h1
        simp [Nat.mod_eq_of_lt h1, h1]
    · apply List.map_congr_left
      intro j _
      simp
theorem Rep.replicate {ok : Nat → Prop} {t : Ty} {x : t.T} {L : List Value} (h : Rep w ok t x L) : ∀ n, Rep w ok (.ar n t) (List.replicate n x : List t.T) (List.replicate n L).flatten
  | 0 => .ar0 t
  | n + 1 => by
    rw [List.replicate_succ, List.replicate_succ, List.flatten_cons]
    exact .arS n t x _ L _ h (Rep.replicate h n)
theorem madeCells_list (z : Array Value) (h : 0 < z.size) (n : Nat) : ((Array.range (n * z.size)).map (z[· % z.size]!)).toList = (List.replicate n z.toList).flatten := by
  have := range_mod z.toList (by simpa using h) n
  rw [← this]
  simp only [Array.toList_map, Array.toList_range, Array.length_toList]
  apply List.map_congr_left
  intro j _
  have hlt : j % z.size < z.size := Nat.mod_lt _ h
  simp [hlt]
theorem fill_elems {t : Ty} {n : Nat} : ∀ {ps : List (Nat × AV)} {us : List (Nat × Value)} {xs ys : List t.T} {cells : Array Value}, Parts X H w ps us → elemsAt t n xs ps = some ys → Rep w X.ok (.ar n t) xs cells.toList →
    ∃ cells', Instr.fill (fun i => some (i * t.size, t.size)) cells us = some cells' ∧ Rep w X.ok (.ar n t) ys cells'.toList
  | [], [], xs, ys, cells, _, h, hr => by simp [elemsAt] at h; subst h; exact ⟨cells, rfl, hr⟩
  | (i, a) :: r, (_, u) :: s, xs, ys, cells, .cons _ _ _ _ _ h1 h2, h, hr => by
    simp only [elemsAt] at h
    cases hi : Nat.blt i n with
    | false => simp [hi] at h
    | true =>
      have hin : i < n := by simpa [Nat.blt_eq] using hi
      simp [hi] at h
      split at h
      · rename_i y h3
        have hy := Ty.exact_sound h3 h1
        have hyl : u.cells.size = t.size := by simpa using hy.length
        obtain ⟨as, b, bs, e1, h4, h5, h6, h7⟩ := hr.ar_get i hin t.dflt
        have hbl := h5.length
        have hcs : cells.size = as.length + (b.length + bs.length) := by
          rw [← Array.length_toList, e1]; simp
        have hl : i * t.size + u.cells.size ≤ cells.size := by omega
        have hfold := fold_arr u.cells (i * t.size) cells hl
        have e2 : (u.cells.zipIdx.foldl (fun (cs : Array Value) (x : Value × Nat) => cs.setIfInBounds (i * t.size + x.2) x.1) cells).toList = as ++ (u.cells.toList ++ bs) := by
          rw [hfold, e1, List.take_append_of_le_length (by omega), List.take_of_length_le (by omega)]
          rw [List.drop_append, List.drop_eq_nil_of_le (by omega), h4, show i * t.size + u.cells.size - i * t.size = t.size by omega]
          rw [List.drop_append, List.drop_eq_nil_of_le (by omega), hbl]
          simp
        obtain ⟨c', h9, h10⟩ := fill_elems (cells := u.cells.zipIdx.foldl (fun (cs : Array Value) (x : Value × Nat) => cs.setIfInBounds (i * t.size + x.2) x.1) cells) h2 h (by
          rw [e2]
          exact Rep.ar_set hin h6 hy h7 hr.ar_len)
        refine ⟨c', ?_, h10⟩
        simp only [Instr.fill]
        rw [if_neg (by simp [hyl]; omega)]
        exact h9
      · simp at h
theorem elemT_sound {T e : TypeId} (h : elemT P T = some e) : P.underlying T = some (.slice e) := by
  unfold elemT at h
  split at h
  · simp at h; subst h; assumption
  · simp at h
theorem RowAt.new {w' : World} {B cap sz : Nat} {cs : List Value} {cur : Array Value} {ty : TypeId} (h : w'.heap[B]? = some (.cells cur ty)) (hs : cur.size = cap * sz) (hl : cs.length ≤ cur.size) (ht : cur.toList.take cs.length = cs) : RowAt w' B cap sz cs :=
  ⟨cur, ty, _, h, hs, NoFr.zero _, hl, ht⟩
theorem op_buildSlice (I : Inv w0 S0 ok0 X H w) (E : EvOk X H w ev ρ) {T : TypeId} {n : Nat} {parts : Array (Nat × Operand)} (hop : o.op = .buildSlice T n parts) (h : opV P dst ev H o.op = some (cs, v, U)) : OpOut P w0 S0 ok0 X H w ρ o v U := by
  rw [hop] at h
  simp only [opV] at h
  split at h
  · rename_i e he
    split at h
    · rename_i t bytes ps h1 h2
      cases hs : (Nat.ble (n * t.size) 16777216 && (Nat.blt 0 n || parts.toList.isEmpty)) with
      | false => simp only [hs, cond_false] at h; cases h
      | true =>
        simp only [hs, cond_true] at h
        split at h
        · rename_i xs h3
          simp at h
          obtain ⟨_, rfl, rfl⟩ := h
          simp only [Bool.and_eq_true] at hs
          have hs1 := Nat.le_of_ble_eq_true hs.1
          by_cases hn0 : n = 0
          · subst hn0
            have hpe : parts = #[] := by
              have := hs.2
              simp at this
              cases parts; simp_all
            subst hpe
            obtain ⟨i, z, hi, hz, _, hsz, hp, _, hzs, hr⟩ := rowOf_sound h1
            have hu := elemT_sound he
            have hps : ps = [] := by simp [evalParts] at h2; exact h2
            subst hps
            simp [elemsAt] at h3
            subst h3
            have hrun : (Instr.buildSlice T 0 #[]).run P w = .ok (.slice (some ⟨w.heap.size, 0, none⟩) 0 0) (w.alloc (.cells #[] e)) := by
              simp [Instr.buildSlice, run_underlying hu, sizeOf, typeInfo, hi, newRow, Instr.fill]
              rw [show Array.range 0 = #[] from Array.eq_empty_of_size_eq_zero (by simp)]
              simp
            exact OpOut.newRow I (xs := ([] : List t.T)) (t := t) (cap := 0) (ds := []) (val := .slice (some ⟨w.heap.size, 0, none⟩) 0 0) (w' := w.alloc (.cells #[] e)) (by simp [execOp, hop, hrun]) rfl (fun b hb => alloc_old (o := .row t []) hb)
              (by rw [alloc_size]; omega) rfl rfl rfl (by simp) (by simp) (by simp [maxLen]) (.ar0 t) (RowAt.new (alloc_at _) (by simp) (by simp) rfl)
          have hs2 : 0 < n := by omega
          obtain ⟨i, z, hi, hz, _, hsz, hp, _, hzs, hr⟩ := rowOf_sound h1
          have hu := elemT_sound he
          have hm := madeCells_list z.cells (by omega) n
          have hrep := Rep.replicate (hr w X.ok) n
          rw [← hm] at hrep
          obtain ⟨cells', h4, h5⟩ := fill_elems (evalParts_parts E h2) h3 hrep
          have hpos : 0 < n * t.size := Nat.mul_pos hs2 hp
          have hrun := run_buildSlice w T e n (parts.map fun (i, x) => (i, ρ x)) cells' i z hu hi hz (by rw [hsz]; omega) (by rw [hsz]; omega) (by
            rw [hsz, Array.toList_map, ← h4, hzs])
          have hxl := h5.ar_len
          have hcl : cells'.size = n * t.size := by simpa [Ty.size] using h5.length
          refine OpOut.newRow I (cap := n) (ds := cells'.toList) (val := .slice (some ⟨w.heap.size, 0, none⟩) n n) (w' := w.alloc (.cells cells' e)) (by simp [execOp, hop, hrun]) (by rw [hxl]) (fun b hb => alloc_old (o := .row t xs) hb)
            (by rw [alloc_size]; omega) rfl rfl rfl (by omega) ?_ ?_ (by rw [hxl]; exact h5) (RowAt.new (alloc_at _) hcl (by simp) List.take_length)
          · rw [hxl]
            have : n ≤ n * t.size := Nat.le_mul_of_pos_right _ hp
            simp [maxBytes]; omega
          · have : n ≤ n * t.size := Nat.le_mul_of_pos_right _ hp
            simp [maxLen]; omega
        · simp at h
    · simp at h
  · simp at h
theorem op_makeSlice (I : Inv w0 S0 ok0 X H w) (E : EvOk X H w ev ρ) {T : TypeId} {l c : Operand} (hop : o.op = .makeSlice T l c) (h : opV P dst ev H o.op = some (cs, v, U)) (hc : ∀ c ∈ cs, c = true) : OpOut P w0 S0 ok0 X H w ρ o v U := by
  rw [hop] at h
  simp only [opV] at h
  split at h
  · rename_i e n m he h1 h2
    split at h
    · rename_i t bytes h3
      simp at h
      obtain ⟨rfl, rfl, rfl⟩ := h
      simp at hc
      obtain ⟨hc1, hc2, hc3⟩ := hc
      obtain ⟨i, z, hi, hz, hb, hsz, hp, hbp, hzs, hr⟩ := rowOf_sound h3
      have hu := elemT_sound he
      obtain ⟨e1, _⟩ := E l _ h1
      obtain ⟨e2, hm⟩ := E c _ h2
      have hm0 : 0 ≤ m := by omega
      have hbm : m ≤ m * (bytes : Int) := by
        have : (1 : Int) ≤ bytes := by omega
        calc m = m * 1 := by omega
          _ ≤ m * bytes := Int.mul_le_mul_of_nonneg_left this hm0
      have hmb : m ≤ 140737488355328 := by simp [maxBytes] at hc3; omega
      have hrun := run_make (P := P) w T e i z hu hi hz .i64 .i64 n m hc1 hc2 (by rw [hb, Int.mul_comm]; simp [maxBytes] at hc3; omega) (by omega)
      have hml : (madeCells z.cells (m.toNat * i.size)).toList = (List.replicate m.toNat z.cells.toList).flatten := by
        unfold madeCells
        rw [hsz, ← hzs]
        exact madeCells_list z.cells (by omega) m.toNat
      have hsplit : m.toNat = n.toNat + (m.toNat - n.toNat) := by omega
      have hzl : z.cells.toList.length = t.size := by simpa using hzs
      have hlen : ((List.replicate n.toNat z.cells.toList).flatten).length = n.toNat * t.size := by simp [hzl]
      have hsize : (madeCells z.cells (m.toNat * i.size)).size = m.toNat * t.size := by rw [size_madeCells, hsz]
      refine OpOut.newRow I (cap := m.toNat) (ds := (List.replicate n.toNat z.cells.toList).flatten) (val := .slice (some ⟨w.heap.size, 0, none⟩) n.toNat m.toNat) (w' := w.alloc (.cells (madeCells z.cells (m.toNat * i.size)) e)) (by simp [execOp, hop, e1, e2, hrun]) (by simp)
        (fun b hb => alloc_old (o := .row t []) hb) (by rw [alloc_size]; omega) rfl rfl rfl (by simp; omega) ?_ ?_ ?_ (RowAt.new (alloc_at _) hsize ?_ ?_)
      · simp [maxBytes]; omega
      · simp [maxLen]; omega
      · rw [List.length_replicate]; exact Rep.replicate (hr w X.ok) n.toNat
      · rw [hlen, hsize]; exact Nat.mul_le_mul_right _ (by omega)
      · rw [hml, hsplit, ← List.replicate_append_replicate, List.flatten_append]
        exact List.take_left
    · simp at h
  · simp at h

/-! ### append -/
/-- What stands behind: its length, its cells. -/
def Src (P : Program) (w : World) (size : Nat) (x : Value) (n : Nat) (news : List Value) : Prop :=
  (∀ w' : World, (Builtin.lenOf x).run P w' = .ok n w') ∧ ∀ w' : World, (∀ B : Nat, w'.heap[B]? = w.heap[B]?) → (Builtin.firstCells size n x).run P w' = .ok news.toArray w'
theorem Src.of (I : Inv w0 S0 ok0 X H w) {t : Ty} {c : C} {ys : List t.T} {x : Value} (h : srcData H t c = some ys) (hv : CRel X H w c x) :
    ∃ news, Src P w t.size x ys.length news ∧ Rep w X.ok (.ar ys.length t) ys news ∧ ys.length ≤ maxBytes := by
  rcases srcData_slice I h hv with ⟨A, cp, rfl, hm, h1⟩ | ⟨b, e, rfl, rfl, hb⟩
  · by_cases h0 : 0 < ys.length
    · obtain ⟨B, off, ds, rfl, h2, h3⟩ := h1 h0
      refine ⟨ds, ⟨fun w' => by simp [Builtin.lenOf], fun w' hw => ?_⟩, h2, hm⟩
      exact run_firstCells_some w' t.size ys.length ⟨B, off, none⟩ _ _ ds (by simpa [Ty.size] using h2.length) (cell_at (h3.mono (hw B)))
    · have hy : ys = [] := List.eq_nil_of_length_eq_zero (by omega)
      subst hy
      refine ⟨[], ⟨fun w' => by simp [Builtin.lenOf], fun w' hw => ?_⟩, .ar0 t, by simp⟩
      cases A with
      | none => simp [Builtin.firstCells]
      | some a => simp [Builtin.firstCells, loadCells, loadCellsFrom]
  · subst e
    have hl := strBytes_length b
    have hbm : b.size ≤ maxBytes := Nat.le_trans hb (by decide)
    refine ⟨(strBytes b).map (Value.int .u8), ⟨fun w' => ?_, fun w' _ => ?_⟩, u8_rep fun x hx => strBytes_mem hx, by simp [castS, hl]; exact hbm⟩
    · simp [Builtin.lenOf, castS, hl]
    · simp only [castS, hl, Builtin.firstCells, Sem.run_pure]
      congr 1
      have : b.extract 0 b.size = b := by simp
      rw [this]
      apply Array.ext'
      simp [strBytes, List.map_map, Function.comp_def]
theorem slOrStr_cases {V : TypeId} (h : slOrStr P V = true) : (∃ e, P.underlying V = some (.slice e)) ∨ P.underlying V = some .string := by
  unfold slOrStr at h
  split at h
  · rename_i hu; exact .inl ⟨_, hu⟩
  · rename_i hu; exact .inr hu
  · simp at h
set_option maxHeartbeats 1000000 in
theorem run_append_keep {T V ty e : TypeId} {i : TypeInfo} {sLen sCap n : Nat} {base : Option Addr} {x : Value} {news : List Value} (hu : P.underlying T = some (.slice e)) (hi : P.info? e = some i) (hV : slOrStr P V = true)
    (hx : Src P w i.size x n news) (hroom : sLen + n ≤ sCap) : (Builtin.append_ #[T, V] ty #[.slice base sLen sCap, x]).run P w =
      ((match base with | some a => (storeCells (a.add (sLen * i.size)) news : Sem Unit) | none => pure ()) >>= fun _ => (pure (Value.slice base (sLen + n) sCap) : Sem Value)).run P w := by
  have h1 := hx.1 w
  have h2 := hx.2 w fun _ => rfl
  rcases slOrStr_cases hV with ⟨e', hd⟩ | hd
  · cases base <;> simp [Builtin.append_, run_underlying hu, run_underlying hd, sizeOf, typeInfo, hi, h1, h2, hroom]
  · cases base <;> simp [Builtin.append_, run_underlying hu, run_underlying hd, sizeOf, typeInfo, hi, h1, h2, hroom]
set_option maxHeartbeats 1000000 in
theorem run_append_new {T V ty e : TypeId} {i : TypeInfo} {z : Value} {sLen sCap n : Nat} {base : Option Addr} {x : Value} {news olds : List Value} (hu : P.underlying T = some (.slice e)) (hi : P.info? e = some i) (hzv : i.zero = some z) (hV : slOrStr P V = true)
    (hx : Src P w i.size x n news) (ho : (Builtin.firstCells i.size sLen (.slice base sLen sCap)).run P w.drew = .ok olds.toArray w.drew) (hroom : ¬ sLen + n ≤ sCap) (hb0 : 0 < i.bytes) (hfit : Builtin.nextslicecap (sLen + n) sCap * i.bytes ≤ 281474976710656) :
    (Builtin.append_ #[T, V] ty #[.slice base sLen sCap, x]).run P w =
      .ok (.slice (some ⟨w.heap.size, 0, none⟩) (sLen + n) (grownCap w (sLen + n) sCap e))
        (w.drew.alloc (.cells (olds.toArray ++ news.toArray ++ Builtin.zeroCells z.cells (grownCap w (sLen + n) sCap e - (sLen + n))) e)) := by
  have h1 := hx.1 w
  have h2 := hx.2 w.drew fun _ => rfl
  have h48' : ¬ (281474976710656 < Builtin.nextslicecap (sLen + n) sCap * i.bytes) := by omega
  have hb : ¬ i.bytes = 0 := by omega
  rcases slOrStr_cases hV with ⟨e', hd⟩ | hd
  · simp [Builtin.append_, run_underlying hu, run_underlying hd, sizeOf, typeInfo, zeroValue, hi, hzv, h1, h2, ho, hroom, hb, h48', Question.forced, newRow, grownCap, -World.alloc_eq]
    congr 2
    apply Array.ext'
    simp [List.append_assoc]
  · simp [Builtin.append_, run_underlying hu, run_underlying hd, sizeOf, typeInfo, zeroValue, hi, hzv, h1, h2, ho, hroom, hb, h48', Question.forced, newRow, grownCap, -World.alloc_eq]
    congr 2
    apply Array.ext'
    simp [List.append_assoc]

/-- A row that grows where it lies. -/
theorem Inv.again {w' : World} (I : Inv w0 S0 ok0 X H w) {i r B c : Nat} {o' o : Obj} (h : H.obj i r = some o) (hd : o ≠ .dead) (hB : X.b i = some (B, c))
    (hw : ∀ b, b ≠ B → w'.heap[b]? = w.heap[b]?) (hsz : w'.heap.size = w.heap.size) (hos : w'.os = w.os) (htape : w'.tape = w.tape) (hout : w'.output = w.output)
    (hi : ∀ E : Ext X H w X ((i, r + 1, o') :: H) w', ObjRel X ((i, r + 1, o') :: H) w' i o') :
    Ext X H w X ((i, r + 1, o') :: H) w' ∧ Inv w0 S0 ok0 X ((i, r + 1, o') :: H) w' := by
  have hk := obj_lk h
  obtain ⟨h1, h2, h3⟩ := I.sep i r o B c hk hd hB
  have E : Ext X H w X ((i, r + 1, o') :: H) w' :=
    Ext.upd (fun b hb => ⟨hb, hw b (by rintro rfl; exact h1 hb)⟩) (fun _ _ => rfl) (by rw [lk_ver hk]; omega) (fun h' => absurd h' (by rw [lk_ver hk]; omega))
  refine ⟨E, I.upd E (fun _ _ => rfl) (fun j s o2 b c' hj hk' hd' hb => hw b (by rintro rfl; exact hj (h3 j s o2 c' hk' hd' hb))) (hi E) ?_ (fun b hb => .inl hb) (fun b hb hn => hw b (by
    rintro rfl
    rcases h2 with h2 | h2
    · exact hn h2
    · omega)) (by omega) hos htape hout⟩
  intro b c' hd' hb
  rw [hB] at hb
  simp at hb
  obtain ⟨rfl, rfl⟩ := hb
  exact ⟨h1, h2, fun j s o2 c' hj hk' hd' hb => hj (h3 j s o2 c' hk' hd' hb)⟩
theorem append_grow (I : Inv w0 S0 ok0 X H w) {T V ty e : TypeId} {i : TypeInfo} {z : Value} {name sLen sCap : Nat} {base : Option Addr} {x : Value} {t : Ty} {xs ys : List t.T} {news olds : List Value}
    (hu : P.underlying T = some (.slice e)) (hi : P.info? e = some i) (hzv : i.zero = some z) (hsz : i.size = t.size) (hzs : z.cells.size = t.size) (hb0 : 0 < i.bytes) (hV : slOrStr P V = true)
    (hx : Src P w t.size x ys.length news) (hn : Rep w X.ok (.ar ys.length t) ys news) (hol : Rep w X.ok (.ar xs.length t) xs olds) (hl : sLen = xs.length)
    (ho : (Builtin.firstCells i.size sLen (.slice base sLen sCap)).run P w.drew = .ok olds.toArray w.drew) (hroom : ¬ sLen + ys.length ≤ sCap) (hfit : (xs.length + ys.length) * i.bytes ≤ maxBytes)
    (hop : execOp ρ o = (do pure (.value (← Builtin.append_ #[T, V] ty #[.slice base sLen sCap, x])))) :
    OpOut P w0 S0 ok0 X H w ρ o (.one (.ow name (H.ver name))) [(name, H.ver name, .row t (xs ++ ys))] := by
  subst hl
  have hr := run_append_new (w := w) (ty := ty) hu hi hzv hV (by rw [hsz]; exact hx) ho hroom hb0 (growslice_fits (by omega) hfit)
  have hm : xs.length + ys.length ≤ maxBytes := Nat.le_trans (Nat.le_mul_of_pos_right _ hb0) hfit
  obtain ⟨hg1, hg2⟩ := grown_le w (xs.length + ys.length) sCap e hm
  have hol' : olds.length = xs.length * t.size := by simpa [Ty.size] using hol.length
  have hn' : news.length = ys.length * t.size := by simpa [Ty.size] using hn.length
  refine OpOut.newRow I (xs := (xs ++ ys : List t.T)) (ds := olds ++ news) (cap := grownCap w (xs.length + ys.length) sCap e)
    (val := .slice (some ⟨w.heap.size, 0, none⟩) (xs.length + ys.length) (grownCap w (xs.length + ys.length) sCap e))
    (w' := w.drew.alloc (.cells (olds.toArray ++ news.toArray ++ Builtin.zeroCells z.cells (grownCap w (xs.length + ys.length) sCap e - (xs.length + ys.length))) e))
    (by rw [hop, Sem.run_bind, hr]; rfl) (by simp) (fun b hb => ?_) ?_ rfl rfl rfl
    (by simpa using hg1) (by simpa using hm) hg2 (by rw [List.length_append]; exact hol.ar_append hn) (RowAt.new (alloc_at (w := w.drew) _) ?_ ?_ ?_)
  · exact alloc_old (w := w.drew) (o := .dead) hb
  · rw [alloc_size (w := w.drew)]; exact Nat.le_succ _
  · simp only [Array.size_append, List.size_toArray, size_zeroCells, hzs, hol', hn', ← Nat.add_mul]
    congr 1
    omega
  · simp
  · simp only [Array.toList_append, List.append_assoc]
    rw [← List.append_assoc]
    exact List.take_left
theorem append_keep0 (I : Inv w0 S0 ok0 X H w) {T V ty e : TypeId} {i : TypeInfo} {name : Nat} {x : Value} {t : Ty} {ys : List t.T} {news : List Value}
    (hu : P.underlying T = some (.slice e)) (hi : P.info? e = some i) (hsz : i.size = t.size) (hV : slOrStr P V = true)
    (hx : Src P w t.size x ys.length news) (h0 : ys = []) (hop : execOp ρ o = (do pure (.value (← Builtin.append_ #[T, V] ty #[.slice none 0 0, x])))) :
    OpOut P w0 S0 ok0 X H w ρ o (.one (.ow name (H.ver name))) [(name, H.ver name, .row t ys)] := by
  subst h0
  obtain ⟨E', I'⟩ := I.nilRow name t
  have hrun := run_append_keep (w := w) (ty := ty) (base := none) (sLen := 0) (sCap := 0) hu hi hV (by rw [hsz]; exact hx) (by simp)
  refine ⟨.slice none 0 0, w, _, .inl (by rw [hop]; simp [hrun]), E', I', ⟨⟨?_, rfl⟩, fun t' xs' ho => ?_⟩⟩
  · show _ < Heap.ver ((name, H.ver name, .row t []) :: H) name
    rw [ver_cons]; simp
  · have ho : Heap.obj ((name, H.ver name, .row t []) :: H) name (H.ver name) = some (.row t' xs') := ho
    rw [obj_cons] at ho
    simp at ho
    obtain ⟨rfl, ho⟩ := ho
    simp at ho
    subst ho
    rw [Cx.set_same]
    exact ⟨rfl, rfl, rfl⟩
theorem op_append (I : Inv w0 S0 ok0 X H w) (E : EvOk X H w ev ρ) {args : Array Operand} {argTypes : Array TypeId} (hop : o.op = .call { callee := .builtin .append, args, argTypes }) (h : opV P dst ev H o.op = some (cs, v, U)) (hc : ∀ c ∈ cs, c = true) : OpOut P w0 S0 ok0 X H w ρ o v U := by
  rw [hop] at h
  simp only [opV] at h
  split at h
  · rename_i s x T V ha ht
    have ha : args = #[s, x] := by rw [← Array.toArray_toList (xs := args), ha]
    have ht : argTypes = #[T, V] := by rw [← Array.toArray_toList (xs := argTypes), ht]
    subst ha ht
    have hex : execOp ρ o = (do pure (.value (← Builtin.append_ #[T, V] o.type #[ρ s, ρ x]))) := by
      simp [execOp, hop, resolve, invoke, builtin]
    split at h
    · rename_i c d e h1 h2 he hV
      split at h
      · rename_i t bytes h3
        split at h
        · rename_i ys h4
          obtain ⟨i, z, hi, hz, hb, hsz, hp, hbp, hzs, hr⟩ := rowOf_sound h3
          subst hb
          have hu := elemT_sound he
          obtain ⟨news, hx, hn, hym⟩ := Src.of (P := P) I h4 (E x _ h2)
          have hs := E s _ h1
          unfold appendV at h
          split at h
          · simp at h
            obtain ⟨rfl, rfl, rfl⟩ := h
            simp at hc
            rw [show ρ s = _ from hs] at hex
            by_cases h0 : ys.length = 0
            · exact append_keep0 I hu hi hsz hV hx (List.eq_nil_of_length_eq_zero h0) hex
            · exact append_grow I (xs := ([] : List t.T)) (ys := ys) (olds := []) (sLen := 0) (sCap := 0) (base := none) (name := dst) hu hi hz hsz hzs hbp hV hx hn (.ar0 t) rfl (by simp [Builtin.firstCells]) (by omega) (by simpa using hc) hex
          · rename_i j r
            split at h
            · rename_i t' xs ho
              split at h
              · rename_i e1
                subst e1
                simp [castL] at h
                obtain ⟨rfl, rfl, rfl⟩ := h
                simp at hc
                have hver := obj_ver ho
                have h5 := hs.2 t' xs ho
                rcases I.objs j r _ (obj_lk ho) with ⟨hb, rfl⟩ | ⟨B, cap, ds, hb, h6, h7, h8, h9, cur, ty, fr, h10, h11, h12, h13, h14⟩
                · rw [hb] at h5; obtain ⟨e2, _⟩ := h5
                  rw [e2] at hex
                  rw [← hver]
                  by_cases h0 : ys.length = 0
                  · exact append_keep0 I hu hi hsz hV hx (List.eq_nil_of_length_eq_zero h0) hex
                  · exact append_grow I (xs := ([] : List t'.T)) (ys := ys) (olds := []) (sLen := 0) (sCap := 0) (base := none) (name := j) hu hi hz hsz hzs hbp hV hx hn (.ar0 t') rfl (by simp [Builtin.firstCells]) (by omega) (by simpa using hc) hex
                · rw [hb] at h5; obtain ⟨A, e2, _, h15⟩ := h5
                  have h15 := h15 (.inr rfl)
                  subst h15
                  simp at e2
                  rw [e2] at hex
                  have hdl : ds.length = xs.length * t'.size := by simpa [Ty.size] using h9.length
                  have hnl : news.length = ys.length * t'.size := by simpa [Ty.size] using hn.length
                  by_cases hroom : xs.length + ys.length ≤ cap
                  · have hrun := run_append_keep (w := w) (ty := o.type) (base := some ⟨B, 0, none⟩) (sLen := xs.length) (sCap := cap) hu hi hV (by rw [hsz]; exact hx) hroom
                    have hfit : ds.length + news.length ≤ cur.size := by rw [hdl, hnl, h11, ← Nat.add_mul]; exact Nat.mul_le_mul_right _ hroom
                    have hst := run_storeCells_cells (P := P) B ds.length news 0 w (fun k hk => by
                        simp only [World.cell?, h10, Option.isSome_none, Bool.false_eq_true, if_false, Nat.add_zero]
                        rw [Array.getElem?_eq_getElem (by omega)]; rfl) (fun k hk => by
                        simp only [World.frozen?, h10, Nat.add_zero]
                        have := h12.2 (ds.length + k) (by omega)
                        simp at this ⊢
                        exact this) hn.one
                    obtain ⟨cur', hh1, hh2⟩ := setCells_heap news ds.length w cur h10 hfit
                    have hsz' : cur'.size = cur.size := by
                      rw [← Array.length_toList, hh2]
                      simp; omega
                    obtain ⟨hr1, hr2, hr3⟩ := setCells_rest (B := B) news ds.length w
                    have hm : xs.length + ys.length ≤ maxBytes := Nat.le_trans (Nat.le_mul_of_pos_right _ hbp) hc
                    have e3 : (xs ++ ys : List t'.T).length = xs.length + ys.length := List.length_append
                    obtain ⟨E', I'⟩ := I.again (o' := .row t' (xs ++ ys)) (w' := w.setCells B ds.length news) ho (by simp) hb (fun b hb' => setCells_other hb' news ds.length w) (setCells_size _ _ _) hr1 hr2 hr3 fun E' => by
                      refine .inr ⟨B, cap, ds ++ news, hb, by rw [e3]; exact hroom, by rw [e3]; exact hm, h8, ?_, cur', ty, fr, hh1, by rw [hsz']; exact h11, by rw [hsz']; exact h12, by rw [hsz']; simpa using hfit, ?_⟩
                      · rw [e3]; exact Rep.mono E'.ok (h9.ar_append hn)
                      · rw [hh2, h14, ← List.append_assoc]
                        exact List.take_left
                    refine ⟨.slice (some ⟨B, 0, none⟩) (xs.length + ys.length) cap, _, X, .inl ?_, E', I', ⟨⟨?_, rfl⟩, fun t2 xs' ho => ?_⟩⟩
                    · rw [hex]
                      rw [hsz, ← hdl] at hrun
                      simp only [add_eq, Nat.zero_add, Sem.run_bind, hst, Sem.run_pure, Result.andThen_ok, Nat.add_zero] at hrun
                      simp [hrun]
                    · show _ < Heap.ver ((j, r + 1, .row t' (xs ++ ys)) :: H) j
                      rw [ver_cons]; simp
                    · have ho : Heap.obj ((j, r + 1, .row t' (xs ++ ys)) :: H) j (r + 1) = some (.row t2 xs') := ho
                      rw [obj_cons] at ho
                      simp at ho
                      obtain ⟨rfl, ho⟩ := ho
                      simp at ho
                      subst ho
                      rw [hb]
                      exact ⟨some ⟨B, 0, none⟩, by simp, by simpa using hroom, fun _ => by simp⟩
                  · rw [← hver]
                    have hat : At w B 0 ds := At.of_row h10 [] (cur.toList.drop ds.length) (by simpa using pref_eq h14) rfl
                    exact append_grow I (xs := xs) (ys := ys) (olds := ds) (sLen := xs.length) (sCap := cap) (base := some ⟨B, 0, none⟩) (name := j) hu hi hz hsz hzs hbp hV hx hn h9 rfl
                      (run_firstCells_some w.drew i.size xs.length ⟨B, 0, none⟩ _ _ ds (by rw [hsz]; exact hdl) (cell_at hat)) hroom hc hex
              · simp at h
            · simp at h
          · simp at h
        · simp at h
      · simp at h
    · simp at h
  · simp at h
end
end Go.Ab

/- Every operation that is no call: what the interpreter says of it holds of the model's. -/
set_option linter.unusedVariables false
set_option linter.unusedSimpArgs false
namespace Go.Ab
open Go

section
variable {P : Program} {w0 : World} {S0 ok0 : Nat → Prop} {X : Cx} {H : Heap} {w : World} {ρ : Operand → Value} {o : Oper} {v : AV} {U : Heap} {cs : List Bool} {dst : Nat} {ev : Operand → Option AV}

theorem op_min (I : Inv w0 S0 ok0 X H w) (E : EvOk X H w ev ρ) {args : Array Operand} {argTypes : Array TypeId} (hop : o.op = .call { callee := .builtin .min, args, argTypes }) (h : opV P dst ev H o.op = some (cs, v, U)) : OpOut P w0 S0 ok0 X H w ρ o v U := by
  rw [hop] at h
  simp only [opV] at h
  split at h
  · rename_i x y ha
    have ha : args = #[x, y] := by rw [← Array.toArray_toList (xs := args), ha]
    subst ha
    split at h
    · rename_i k a k' b h1 h2
      by_cases hk : k = k'
      · subst hk
        simp [ok1] at h
        obtain ⟨_, rfl, rfl⟩ := h
        obtain ⟨e1, r1⟩ := E x _ h1
        obtain ⟨e2, r2⟩ := E y _ h2
        refine OpOut.pure I (val := .int k (if b < a then b else a)) (by simp [execOp, hop, resolve, invoke, builtin, e1, e2, run_min_int2]) ?_
        by_cases hlt : b < a
        · simp only [hlt, decide_true, cond_true, if_true]; exact ⟨rfl, r2⟩
        · simp only [hlt, decide_false, cond_false, if_false]; exact ⟨rfl, r1⟩
      · simp [hk] at h
    · simp at h
  · simp at h
theorem op_max (I : Inv w0 S0 ok0 X H w) (E : EvOk X H w ev ρ) {args : Array Operand} {argTypes : Array TypeId} (hop : o.op = .call { callee := .builtin .max, args, argTypes }) (h : opV P dst ev H o.op = some (cs, v, U)) : OpOut P w0 S0 ok0 X H w ρ o v U := by
  rw [hop] at h
  simp only [opV] at h
  split at h
  · rename_i x y ha
    have ha : args = #[x, y] := by rw [← Array.toArray_toList (xs := args), ha]
    subst ha
    split at h
    · rename_i k a k' b h1 h2
      by_cases hk : k = k'
      · subst hk
        simp [ok1] at h
        obtain ⟨_, rfl, rfl⟩ := h
        obtain ⟨e1, r1⟩ := E x _ h1
        obtain ⟨e2, r2⟩ := E y _ h2
        refine OpOut.pure I (val := .int k (if b > a then b else a)) (by simp [execOp, hop, resolve, invoke, builtin, e1, e2, run_max_int2]) ?_
        by_cases hlt : b > a
        · simp only [hlt, decide_true, cond_true, if_true]; exact ⟨rfl, r2⟩
        · simp only [hlt, decide_false, cond_false, if_false]; exact ⟨rfl, r1⟩
      · simp [hk] at h
    · simp at h
  · simp at h
theorem opV_sound (I : Inv w0 S0 ok0 X H w) (E : EvOk X H w ev ρ) (h : opV P dst ev H o.op = some (cs, v, U)) (hc : ∀ c ∈ cs, c = true) : OpOut P w0 S0 ok0 X H w ρ o v U := by
  cases hop : o.op with
  | move x => exact op_move I E (.inl hop) h
  | assign x => exact op_move I E (.inr hop) h
  | pick c a b => exact op_pick I E hop h
  | alloc T => exact op_alloc I hop h
  | box T x => exact op_box I E hop h
  | build T parts => exact op_build I E hop h
  | buildSlice T n parts => exact op_buildSlice I E hop h
  | load T a => exact op_load I E hop h
  | store T a x => exact op_store I E hop h
  | nilCheck x => exact op_nilCheck I E hop h
  | binOp op T x y T2 => exact op_binOp I E hop h hc
  | unOp op T x => exact op_unOp I E hop h
  | convert S T x => exact op_convert I E hop h hc
  | makeFunc f first caps =>
    cases f with
    | func f => exact op_makeFunc I E hop h
    | _ => rw [hop] at h; simp [opV] at h
  | slice T x lo hi m =>
    cases m with
    | none => exact op_slice I E hop h hc
    | some m => rw [hop] at h; simp [opV] at h
  | fieldAddr S x f => exact op_fieldAddr I E hop h
  | indexAddr T x i => exact op_indexAddr I E hop h hc
  | index T x i => exact op_index I E hop h hc
  | field S x f => exact op_field I E hop h
  | makeSlice T l c => exact op_makeSlice I E hop h hc
  | range T x => exact op_range I E hop h
  | call c =>
    obtain ⟨callee, args, argTypes⟩ := c
    cases callee with
    | builtin b =>
      cases b with
      | len => exact op_len I E hop h
      | append => exact op_append I E hop h hc
      | min => exact op_min I E hop h
      | max => exact op_max I E hop h
      | _ => rw [hop] at h; simp [opV] at h
    | _ => rw [hop] at h; simp [opV] at h
  | _ => rw [hop] at h; simp [opV] at h
end
end Go.Ab
