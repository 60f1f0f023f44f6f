/- unicode/utf8.DecodeRune by the shelf's contract. -/
import Derived.Test.YtknccfhaoclimaaDoorA4
import Derived.Shelf.Spec.DecodeRune
import Derived.Below

set_option linter.unusedVariables false
set_option linter.unusedSimpArgs false
noncomputable section
namespace Go.Ab
open Go
def S.decR (p : List Int) : Option (Int × Int) := if p = [] then none else some ((runeAt p 0).1, ((runeAt p 0).2 : Int))
def decR_con : Con := { X := Int × Int, args := [.one (.ro (.int .u8))], objs := [], still := true, spec := fun p _ => S.decR p.1, ren := fun _ _ x => ([.one (.int .i32 x.1), .one (.int .i64 x.2)], []) }
theorem u8_rep_cells {w : World} {ok : Nat → Prop} : ∀ {n : Nat} {xs : List Int} {ds : List Value}, Rep w ok (.ar n (.int .u8)) xs ds → ds = xs.map (Value.int .u8) ∧ ∀ x ∈ xs, 0 ≤ x ∧ x ≤ 255
  | 0, xs, ds, h => by cases h; simp
  | n + 1, xs, ds, h => by
    cases h with
    | arS _ _ x xs cs ds h1 h2 =>
      obtain ⟨rfl, h3⟩ := h1.int_inv
      obtain ⟨rfl, h4⟩ := u8_rep_cells h2
      refine ⟨rfl, fun y hy => ?_⟩
      rcases List.mem_cons.1 hy with rfl | hy
      · simpa [inR, IntKind.min, IntKind.max, IntKind.signed, IntKind.bits] using h3
      · exact h4 y hy
theorem decode_len (s : ByteArray) (i : Nat) : (Utf8.decode s i).2 ≤ 4 := by
  unfold Utf8.decode
  simp only
  repeat' split
  all_goals simp
theorem decR_ok {P : Program} {ρ : Go.Shelf.Ren} (L : Go.Proofs.Lays7.n32 P ρ) {G : List (Nat × Go.Obj)} (hG : ∀ w S, Tabs G w S → Lib.Utf8Tabs (ρ.g 2) (ρ.g 3) w) (hfn : fnB P (ρ.f 32) = true) : ConOk G P (ρ.f 32) decR_con where
  fn := fnB_ok hfn
  still _ := rfl
  runs p q x hx X w vals S0 hT I hv cs := by
    obtain ⟨xs, ⟨⟩⟩ := p
    have hx : S.decR xs = some x := hx
    unfold S.decR at hx
    by_cases h0 : xs = []
    · rw [if_pos h0] at hx; cases hx
    · rw [if_neg h0] at hx
      have hx := (Option.some.inj hx).symm
      subst hx
      obtain ⟨v, us, hvs, h1, h2⟩ := hv
      have h2 : us = [] := h2
      subst h2
      have h1 : Rep w X.ok (.sl (.int .u8)) xs [v] := h1
      obtain ⟨A, c, h3, h4, h5⟩ := h1.sl_inv
      simp at h3
      subst h3
      have hpos : 0 < xs.length := List.length_pos_iff.2 h0
      obtain ⟨B, off, ds, rfl, h6, h7, h8, h9⟩ := h5 hpos
      obtain ⟨rfl, h10⟩ := u8_rep_cells h7
      have hvals : vals = #[.slice (some ⟨B, off, none⟩) xs.length c] := by rw [← Array.toArray_toList (xs := vals), hvs]
      subst hvals
      let s : ByteArray := ⟨(xs.map fun x => UInt8.ofNat x.toNat).toArray⟩
      have hsz : s.size = xs.length := by show ((xs.map fun x => UInt8.ofNat x.toNat).toArray).size = _; simp
      have hcell : ∀ j, j < s.size → w.cell? ⟨B, off + j, none⟩ = some (.int .u8 (s.get! j).toNat) := fun j hj => by
        have hj' : j < xs.length := by omega
        have := h8 j (by simpa using hj')
        rw [this]
        simp only [List.getElem_map, Option.some.injEq, Value.int.injEq, true_and]
        have h11 := h10 xs[j] (List.getElem_mem hj')
        have : (s.get! j).toNat = xs[j].toNat := by
          have : s.get! j = UInt8.ofNat xs[j].toNat := by
            show (((xs.map fun x => UInt8.ofNat x.toNat).toArray))[j]! = _
            simp [hj']
          rw [this]
          have : xs[j].toNat < 256 := by omega
          simp [UInt8.toNat_ofNat', Nat.mod_eq_of_lt this]
        rw [this]; omega
      have hC := Go.Proofs.Any7.utf8_DecodeRune L s B off c w (hG w S0 hT) hcell
      rw [hsz] at hC
      obtain ⟨e, w', fr, ⟨rfl, hb⟩, h12, h13, h14⟩ := hC cs
      have hdec : Lib.decodeGo s = Utf8.decode s 0 := by
        unfold Lib.decodeGo
        rw [if_neg (by omega)]
      rw [hdec] at h14
      have hfrm : ∀ B, B < w.heap.size → w'.heap[B]? = w.heap[B]? := fun B hB => hb.block B hB
      refine ⟨w', X, fr, _, h12, h13, h14, ⟨fun i r o h => by simp [decR_con, lk] at h, fun i r o B c h => by simp [decR_con, lk] at h, fun B hB => ⟨Nat.lt_of_lt_of_le (I.okb B hB).1 hb.size, .inl hB⟩, fun B hB _ => hfrm B hB, hb.size, hb.os, hb.tape, hb.output⟩, ?_, ⟨fun B hB => ⟨hB, hfrm B (I.okb B hB).1⟩, fun i o o' h => by simp [decR_con, mkO, lk] at h⟩⟩
      have hm := decode_max s 0
      have hl := decode_len s 0
      refine ⟨_, rfl, .int .i32 _, [.int .i64 _], rfl, ⟨rfl, ?_⟩, .int .i64 _, [], rfl, ⟨rfl, ?_⟩, rfl⟩
      · show inR .i32 ((Utf8.decode s 0).1 : Int)
        simp [inR, IntKind.min, IntKind.max, IntKind.signed, IntKind.bits]
        omega
      · show inR .i64 ((Utf8.decode s 0).2 : Int)
        simp [inR, IntKind.min, IntKind.max, IntKind.signed, IntKind.bits]
        omega
end Go.Ab
end

/- From a contract to a call of the model's. -/
set_option linter.unusedVariables false
set_option linter.unusedSimpArgs false
namespace Go.Ab
open Go Go.RowKit

def wholeX (w : World) : Cx := ⟨fun _ => none, fun B => B < w.heap.size⟩
theorem con_calls {G : List (Nat × Go.Obj)} {P : Program} {f : FuncId} {c : Con} (hC : ConOk G P f c) (ho : c.objs = []) {p : shAT c.args} {q : shOT c.objs} {x : c.X} (hx : c.spec p q = some x) {vals : Array Value} {w : World} (hT : Tabs G w (fun _ => False))
    (ha : AVsRel (wholeX w) [] w (mkA c.args p) vals.toList) :
    Calls P f vals w fun e w' => ∃ val X', e = .returned val ∧ TVRel X' (c.ren p q x).2 w' (tvOf (c.ren p q x).1) val ∧ Below w.heap.size w w' := by
  intro cs
  have hH : mkO c.objs 0 q = [] := by
    have : ∀ {l : List ShO} {n : Nat} {q : shOT l}, l = [] → mkO l n q = [] := fun {l n q} e => by subst e; rfl
    exact this ho
  have I0 : Inv w (fun _ => False) (wholeX w).ok (wholeX w) (mkO c.objs 0 q) w := by
    rw [hH]
    exact ⟨fun i r o h => by simp [lk] at h, fun i r o B c h => by simp [lk] at h, fun B hB => ⟨hB, .inl hB⟩, fun _ _ _ => rfl, Nat.le_refl _, rfl, rfl, rfl⟩
  obtain ⟨w', X', fr, val, h7, h8, h9, I', h10, h11⟩ := hC.runs p q x hx (wholeX w) w vals _ hT I0 (by rw [hH]; exact ha) cs
  exact ⟨.returned val, w', fr, ⟨val, X', rfl, h10, ⟨I'.os, I'.tape, I'.output, I'.size, fun B hB => I'.frm B hB (by simp)⟩⟩, h7, h8, h9⟩
theorem rep_row {w : World} {a : Option Addr} {len cap : Nat} {zs : List Int}
    (h : (a = none ∧ len = 0 ∧ cap = 0 ∧ zs = []) ∨ ∃ x, a = some x ∧ len ≤ cap ∧ cap ≤ maxLen ∧ zs.length = cap ∧ (∀ i, i < zs.length → w.cell? (x.add i) = some (.int .u8 (zs.getD i 0))) ∧ ∀ n ∈ zs, (Lit.int .u8 n).wf = true) (hy : len ≤ maxBytes) :
    Rep w (wholeX w).ok (.sl (.int .u8)) (zs.take len) [.slice a len cap] ∧ (∀ x ∈ zs.take len, 0 ≤ x ∧ x ≤ 255) ∧ (zs.take len).length = len := by
  rcases h with ⟨rfl, rfl, rfl, rfl⟩ | ⟨x, rfl, h1, h2, h3, h4, h5⟩
  · exact ⟨.sl0 _ none 0, by simp, rfl⟩
  · have hlen : (zs.take len).length = len := by simp; omega
    have hb : ∀ y ∈ zs.take len, 0 ≤ y ∧ y ≤ 255 := fun y hy => by
      have := h5 y (List.mem_of_mem_take hy)
      simp [Lit.wf, IntKind.min, IntKind.max, IntKind.signed, IntKind.bits] at this
      omega
    refine ⟨?_, hb, hlen⟩
    by_cases h0 : len = 0
    · subst h0
      simpa using Rep.sl0 (w := w) (ok := (wholeX w).ok) (.int .u8) (some x) cap
    · have hc := h4 0 (by omega)
      obtain ⟨B, off, spot⟩ := x
      have hs : spot = none := by
        unfold World.cell? at hc
        split at hc
        · split at hc
          · cases hc
          · rename_i hn
            cases spot with
            | none => rfl
            | some s => simp [Addr.add] at hn
        · cases hc
      subst hs
      have hB : B < w.heap.size := by
        unfold World.cell? at hc
        split at hc
        · rename_i hh
          exact (Array.getElem?_eq_some_iff.1 hh).1
        · cases hc
      have := Rep.sl (w := w) (ok := (wholeX w).ok) (.int .u8) (zs.take len) B off cap ((zs.take len).map (Value.int .u8)) (u8_rep hb) (fun j hj => by
        have hj' : j < len := by simp at hj; omega
        have := h4 j (by omega)
        rw [show (Addr.add ⟨B, off, none⟩ j) = ⟨B, off + j, none⟩ by simp [Addr.add]] at this
        rw [this]
        simp [List.getD_eq_getElem?_getD, show j < zs.length by omega]) hB (by omega) (by omega)
      rw [hlen] at this
      exact this
end Go.Ab
