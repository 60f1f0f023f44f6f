/- JsonsLimits: for every pair of bytes, the call returns true and what was handed in reads as before. Condition: the row's own (the two tables of unicode/utf8 lie as the card ties them). -/
import Derived.Test.YtknccfhaoclimaaDoorL
import Derived.Test.YtknccfhaoclimaaDoorLa
import Derived.Test.YtknccfhaoclimaaDoorPa
import Derived.Test.YtknccfhaoclimaaDoorRl

set_option linter.unusedVariables false
namespace Go.Ab
open Go
theorem fail_K {G : List (Nat × Go.Obj)} : ConOk G Go.Proofs.Tryd.prog 20 (fail_con) := fail_ok lk_nil_ok
theorem here_K {G : List (Nat × Go.Obj)} : ConOk G Go.Proofs.Tryd.prog 19 (here_con) := here_ok lk_nil_ok
theorem sign_K {G : List (Nat × Go.Obj)} : ConOk G Go.Proofs.Tryd.prog 39 (sign_con) := sign_ok (lk_cons_ok here_K lk_nil_ok)
theorem openB_K {G : List (Nat × Go.Obj)} : ConOk G Go.Proofs.Tryd.prog 37 (openB_con) := openB_ok (lk_cons_ok fail_K lk_nil_ok)
theorem wordJ_K {G : List (Nat × Go.Obj)} : ConOk G Go.Proofs.Tryd.prog 30 (wordJ_con) := wordJ_ok (lk_cons_ok fail_K lk_nil_ok)
theorem idxS_K {G : List (Nat × Go.Obj)} : ConOk G Go.Proofs.Tryd.prog 51 (idxS_con) := idxS_ok lk_nil_ok
theorem hasS_K {G : List (Nat × Go.Obj)} : ConOk G Go.Proofs.Tryd.prog 40 (hasS_con) := hasS_ok (lk_cons_ok idxS_K lk_nil_ok)
theorem idxB_K {G : List (Nat × Go.Obj)} : ConOk G Go.Proofs.Tryd.prog 55 (idxB_con) := idxB_ok lk_nil_ok
theorem hasB_K {G : List (Nat × Go.Obj)} : ConOk G Go.Proofs.Tryd.prog 47 (hasB_con) := hasB_ok (lk_cons_ok idxB_K lk_nil_ok)
theorem num1_K {G : List (Nat × Go.Obj)} : ConOk G Go.Proofs.Tryd.prog 45 (num1_con) := num1_ok lk_nil_ok
theorem num2_K {G : List (Nat × Go.Obj)} : ConOk G Go.Proofs.Tryd.prog 46 (num2_con) := num2_ok (lk_cons_ok hasB_K lk_nil_ok)
theorem numJ_K {G : List (Nat × Go.Obj)} : ConOk G Go.Proofs.Tryd.prog 29 (numJ_con) := numJ_ok (lk_cons_ok fail_K (lk_cons_ok num1_K (lk_cons_ok num2_K lk_nil_ok)))
theorem unit_K {G : List (Nat × Go.Obj)} : ConOk G Go.Proofs.Tryd.prog 52 (unit_con) := unit_ok lk_nil_ok
theorem escape_K {G : List (Nat × Go.Obj)} : ConOk G Go.Proofs.Tryd.prog 42 (escape_con) := escape_ok (lk_cons_ok unit_K lk_nil_ok)
theorem appNA_K {G : List (Nat × Go.Obj)} : ConOk G Go.Proofs.Tryd.prog 53 (appNA_con) := appNA_ok lk_nil_ok
theorem appR_K {G : List (Nat × Go.Obj)} : ConOk G Go.Proofs.Tryd.prog 43 (appR_con) := appR_ok (lk_cons_ok appNA_K lk_nil_ok)
theorem textJ_K {G : List (Nat × Go.Obj)} (hD : ConOk G Go.Proofs.Tryd.prog 44 decR_con) : ConOk G Go.Proofs.Tryd.prog 28 (textJ_con) := textJ_ok (lk_cons_ok fail_K (lk_cons_ok escape_K (lk_cons_ok appR_K (lk_cons_ok hD lk_nil_ok))))
theorem objJ_K {G : List (Nat × Go.Obj)} {V : valJ_T} (hD : ConOk G Go.Proofs.Tryd.prog 44 decR_con) (hV : ConOk G Go.Proofs.Tryd.prog 18 (valJ_con V)) : ConOk G Go.Proofs.Tryd.prog 26 (objJ_con V) := objJ_ok V (lk_cons_ok fail_K (lk_cons_ok here_K (lk_cons_ok openB_K (lk_cons_ok sign_K (lk_cons_ok (textJ_K hD) (lk_cons_ok hasS_K (lk_cons_ok hV lk_nil_ok)))))))
theorem arrJ_K {G : List (Nat × Go.Obj)} {V : valJ_T} (hV : ConOk G Go.Proofs.Tryd.prog 18 (valJ_con V)) : ConOk G Go.Proofs.Tryd.prog 27 (arrJ_con V) := arrJ_ok V (lk_cons_ok fail_K (lk_cons_ok here_K (lk_cons_ok openB_K (lk_cons_ok sign_K (lk_cons_ok hV lk_nil_ok)))))
theorem valueJ_K {G : List (Nat × Go.Obj)} {V : valJ_T} (hD : ConOk G Go.Proofs.Tryd.prog 44 decR_con) (hV : ConOk G Go.Proofs.Tryd.prog 18 (valJ_con V)) : ConOk G Go.Proofs.Tryd.prog 18 (valueJ_con V) := valueJ_ok V (lk_cons_ok fail_K (lk_cons_ok here_K (lk_cons_ok (objJ_K hD hV) (lk_cons_ok (arrJ_K hV) (lk_cons_ok (textJ_K hD) (lk_cons_ok numJ_K (lk_cons_ok wordJ_K lk_nil_ok)))))))
theorem parseJ_K {G : List (Nat × Go.Obj)} {V : valJ_T} (hV : ConOk G Go.Proofs.Tryd.prog 18 (valJ_con V)) : ConOk G Go.Proofs.Tryd.prog 9 (parseJ_con V) := parseJ_ok V (lk_cons_ok hV (lk_cons_ok here_K (lk_cons_ok fail_K lk_nil_ok)))
theorem bad_K {G : List (Nat × Go.Obj)} : ConOk G Go.Proofs.Tryd.prog 25 (bad_con) := bad_ok lk_nil_ok
theorem isR_K {G : List (Nat × Go.Obj)} : ConOk G Go.Proofs.Tryd.prog 32 (isR_con) := isR_ok lk_nil_ok
theorem blank_K {G : List (Nat × Go.Obj)} : ConOk G Go.Proofs.Tryd.prog 24 (blank_con) := blank_ok lk_nil_ok
theorem wordR_K {G : List (Nat × Go.Obj)} : ConOk G Go.Proofs.Tryd.prog 35 (wordR_con) := wordR_ok lk_nil_ok
theorem hex_K {G : List (Nat × Go.Obj)} : ConOk G Go.Proofs.Tryd.prog 49 (hex_con) := hex_ok lk_nil_ok
theorem digits_K {G : List (Nat × Go.Obj)} : ConOk G Go.Proofs.Tryd.prog 50 (digits_con) := digits_ok lk_nil_ok
theorem textR_K {G : List (Nat × Go.Obj)} (hD : ConOk G Go.Proofs.Tryd.prog 44 decR_con) : ConOk G Go.Proofs.Tryd.prog 34 (textR_con) := textR_ok (lk_cons_ok wordR_K (lk_cons_ok hex_K (lk_cons_ok hD lk_nil_ok)))
theorem numR_K {G : List (Nat × Go.Obj)} : ConOk G Go.Proofs.Tryd.prog 36 (numR_con) := numR_ok (lk_cons_ok wordR_K (lk_cons_ok isR_K (lk_cons_ok digits_K lk_nil_ok)))
theorem nameR_K {G : List (Nat × Go.Obj)} (hD : ConOk G Go.Proofs.Tryd.prog 44 decR_con) : ConOk G Go.Proofs.Tryd.prog 48 (nameR_con) := nameR_ok (lk_cons_ok blank_K (lk_cons_ok isR_K (lk_cons_ok bad_K (lk_cons_ok wordR_K (lk_cons_ok (textR_K hD) lk_nil_ok)))))
theorem groupR_K {G : List (Nat × Go.Obj)} {W : valR_T} (hW : ConOk G Go.Proofs.Tryd.prog 23 (valR_con W)) (hD : ConOk G Go.Proofs.Tryd.prog 44 decR_con) : ConOk G Go.Proofs.Tryd.prog 33 (groupR_con W) := groupR_ok W (lk_cons_ok bad_K (lk_cons_ok isR_K (lk_cons_ok blank_K (lk_cons_ok wordR_K (lk_cons_ok hW (lk_cons_ok (nameR_K hD) lk_nil_ok))))))
theorem valueR_K {G : List (Nat × Go.Obj)} {W : valR_T} (hW : ConOk G Go.Proofs.Tryd.prog 23 (valR_con W)) (hD : ConOk G Go.Proofs.Tryd.prog 44 decR_con) : ConOk G Go.Proofs.Tryd.prog 23 (valueR_con W) := valueR_ok W (lk_cons_ok bad_K (lk_cons_ok blank_K (lk_cons_ok isR_K (lk_cons_ok wordR_K (lk_cons_ok (groupR_K hW hD) (lk_cons_ok (textR_K hD) (lk_cons_ok numR_K lk_nil_ok)))))))
theorem parseR_K {G : List (Nat × Go.Obj)} {W : valR_T} (hW : ConOk G Go.Proofs.Tryd.prog 23 (valR_con W)) : ConOk G Go.Proofs.Tryd.prog 17 (parseR_con W) := parseR_ok W (lk_cons_ok hW (lk_cons_ok blank_K (lk_cons_ok bad_K lk_nil_ok)))
theorem same_K {G : List (Nat × Go.Obj)} : ConOk G Go.Proofs.Tryd.prog 12 (same_con) := same_ok lk_nil_ok
theorem awake_K {G : List (Nat × Go.Obj)} {V : valJ_T} (hV : ConOk G Go.Proofs.Tryd.prog 18 (valJ_con V)) : ConOk G Go.Proofs.Tryd.prog 7 (awake_con V) := awake_ok V (lk_cons_ok (parseJ_K hV) lk_nil_ok)
theorem told_K {G : List (Nat × Go.Obj)} {V : valJ_T} {W : valR_T} (hV : ConOk G Go.Proofs.Tryd.prog 18 (valJ_con V)) (hW : ConOk G Go.Proofs.Tryd.prog 23 (valR_con W)) : ConOk G Go.Proofs.Tryd.prog 8 (told_con V W) := told_ok V W (lk_cons_ok (parseJ_K hV) (lk_cons_ok (parseR_K hW) (lk_cons_ok same_K lk_nil_ok)))
theorem numbers_K {G : List (Nat × Go.Obj)} {V : valJ_T} {W : valR_T} (hV : ConOk G Go.Proofs.Tryd.prog 18 (valJ_con V)) (hW : ConOk G Go.Proofs.Tryd.prog 23 (valR_con W)) : ConOk G Go.Proofs.Tryd.prog 3 (numbers_con V W) := numbers_ok V W (lk_cons_ok (awake_K hV) (lk_cons_ok (told_K hV hW) lk_nil_ok))
end Go.Ab

/- JsonsLimits answers true for every input that its row lets in: the contracts, the plain law, the row and the card joined. -/
set_option linter.unusedVariables false
namespace Go.Ab
open Go
theorem valJ_all {G : List (Nat × Go.Obj)} (hD : ConOk G Go.Proofs.Tryd.prog 44 decR_con) : ∀ n, ConOk G Go.Proofs.Tryd.prog 18 (valJ_con (vJ n))
  | 0 => { fn := fnB_ok (by kernel_rfl), still := fun h => (by cases h), runs := fun p q x hx => (by cases hx) }
  | n + 1 => valueJ_K (hD := hD) (hV := valJ_all hD n)
theorem valR_all {G : List (Nat × Go.Obj)} (hD : ConOk G Go.Proofs.Tryd.prog 44 decR_con) : ∀ n, ConOk G Go.Proofs.Tryd.prog 23 (valR_con (vR n))
  | 0 => { fn := fnB_ok (by kernel_rfl), still := fun h => (by cases h), runs := fun p q x hx => (by cases hx) }
  | n + 1 => valueR_K (hD := hD) (hW := valR_all hD n)
theorem obj_of_cell {w : World} {B off : Nat} {v : Value} (h : w.cell? ⟨B, off, none⟩ = some v) : ∃ o, w.heap[B]? = some o := by
  unfold World.cell? at h
  split at h
  · rename_i hh; exact ⟨_, hh⟩
  · cases h
theorem tabs_move {W w : World} (hT : Lib.Utf8Tabs 0 1 W) (h0 : w.heap[0]? = W.heap[0]?) (h1 : w.heap[1]? = W.heap[1]?) : Lib.Utf8Tabs 0 1 w :=
  ⟨fun c hc => (World.cell?_of_block (a := ⟨0, c, none⟩) h0).trans (hT.1 c hc), fun i hi => ⟨(World.cell?_of_block (a := ⟨1, 2 * i, none⟩) h1).trans (hT.2 i hi).1, (World.cell?_of_block (a := ⟨1, 2 * i + 1, none⟩) h1).trans (hT.2 i hi).2⟩⟩
theorem tabs_dec {W : World} (hT : Lib.Utf8Tabs 0 1 W) : ∃ G : List (Nat × Go.Obj), Tabs G W (fun _ => False) ∧ ConOk G Go.Proofs.Tryd.prog 44 decR_con := by
  obtain ⟨o0, h0⟩ := obj_of_cell (hT.1 0 (by omega))
  obtain ⟨o1, h1⟩ := obj_of_cell (hT.2 0 (by omega)).1
  refine ⟨[(0, o0), (1, o1)], fun e he => ?_, ?_⟩
  · rcases List.mem_cons.1 he with rfl | he
    · exact ⟨h0, fun h => h⟩
    · have := List.mem_singleton.1 he
      subst this
      exact ⟨h1, fun h => h⟩
  · refine decR_ok Go.Proofs.Tryd.lays32 (fun w S h => ?_) (by kernel_rfl)
    exact tabs_move hT ((h (0, o0) (by simp)).1.trans h0.symm) ((h (1, o1) (by simp)).1.trans h1.symm)
theorem limits_K {G : List (Nat × Go.Obj)} {V : valJ_T} {W : valR_T} (hV : ConOk G Go.Proofs.Tryd.prog 18 (valJ_con V)) (hW : ConOk G Go.Proofs.Tryd.prog 23 (valR_con W)) : ConOk G Go.Proofs.Tryd.prog 4 (limits_con V W) := limits_ok V W (lk_cons_ok (awake_K hV) (lk_cons_ok (parseJ_K hV) (lk_cons_ok (told_K hV hW) lk_nil_ok)))
end Go.Ab
namespace Go.Proofs.YtknccfhaoclimaaDoor
open Go.Ab Go.RowKit
theorem u8_in {a : Int} (h : (Lit.int .u8 a).wf = true) : inR .u8 a := by
  have h : (decide (IntKind.u8.min ≤ a) && decide (a ≤ IntKind.u8.max)) = true := h
  rw [Bool.and_eq_true] at h
  exact ⟨of_decide_eq_true h.1, of_decide_eq_true h.2⟩
theorem u8_nonneg {a : Int} (h : (Lit.int .u8 a).wf = true) : 0 ≤ a := (u8_in h).1
theorem limits_calls (W : World) (a b : Int) (wa : (Lit.int .u8 a).wf = true) (wb : (Lit.int .u8 b).wf = true) (hT : Lib.Utf8Tabs 0 1 W) :
    Calls Tryd.prog 4 #[.int .u8 a, .int .u8 b] W fun e w' => e = .returned (.bool true) ∧ Below W.heap.size W w' := by
  obtain ⟨G, hG, hD⟩ := tabs_dec hT
  have hC : ConOk G Tryd.prog 4 (limits_con (vJ 9) (vR 9)) := limits_K (hV := valJ_all hD 9) (hW := valR_all hD 9)
  have hx : (limits_con (vJ 9) (vR 9)).spec (a, b, ()) () = some true := by
    dsimp only [limits_con]
    exact limits_true (u8_nonneg wa) (u8_nonneg wb)
  have hv : AVsRel (wholeX W) [] W (mkA (limits_con (vJ 9) (vR 9)).args (a, b, ())) (#[.int .u8 a, .int .u8 b] : Array Value).toList := by
    dsimp only [limits_con]
    exact ⟨_, _, rfl, ⟨rfl, u8_in wa⟩, _, [], rfl, ⟨rfl, u8_in wb⟩, rfl⟩
  refine (con_calls hC rfl hx hG hv).mono fun e W' ⟨val, X', he, hval, hb⟩ => ?_
  have hval : TVRel X' [] W' (.v (.one (.bool true))) val := hval
  have hval : val = .bool true := hval
  subst hval
  exact ⟨he, hb⟩
theorem jsonsLimits_holds : Rows.JsonsLimitsCardSaid := card_of (f_holds limits_calls)
#print axioms jsonsLimits_holds
end Go.Proofs.YtknccfhaoclimaaDoor
