/- Texts of this proof. -/
import Derived.Test.YtknccfhaoclimaaDoorRows
import Derived.Test.YtknccfhaoclimaaDoorChecked
import Derived.Test.YtknccfhaoclimaaDoorTie
import Derived.Test.YtknccfhaoclimaaDoorCards
import Derived.Test.YtknccfhaoclimaaDoorA5
import Derived.WalkKit
import Derived.ProofKit
import Derived.OpenShut
import Derived.ShutString
import Derived.ChangeOld
import Derived.Below
import Derived.SizedLaws
import Derived.ChangeSame
import Derived.ChangeVars
import Derived.JoinedOf
import Derived.RowKit
import Derived.RowKitTokens
import Derived.LaidLaws
import Derived.LaidHandle
import Derived.Stop.Joined
import Derived.Lib.LaidU8T
import Derived.PinnedBridge
import Derived.SevenTiedAt
set_option linter.unusedVariables false
namespace Go.Proofs
def Tryd.lays32_ren : Go.Shelf.Ren := ⟨fun | 32 => 44 | 49 => 54 | n => n, fun | 30 => 22 | 21 => 21 | 3 => 3 | 0 => 0 | 5 => 5 | 4 => 4 | 33 => 75 | 66 => 87 | 25 => 84 | 69 => 90 | 68 => 89 | n => n, fun | 2 => 0 | 3 => 1 | n => n⟩
theorem Tryd.lays32 : Go.Proofs.Lays7.n32 Tryd.prog Tryd.lays32_ren where
  mixed := by kernel_rfl
  f32 := Tryd.func44.trans (congrArg some (by kernel_rfl))
  f49 := Tryd.func54.trans (congrArg some (by kernel_rfl))
  t0 := Tryd.underlying0
  a0 := Tryd.isAgg0
  z0 := Tryd.sizeOf0
  v0 := Tryd.zeroValue0
  i0 := by kernel_rfl
  t3 := Tryd.underlying3
  a3 := Tryd.isAgg3
  z3 := Tryd.sizeOf3
  v3 := Tryd.zeroValue3
  i3 := by kernel_rfl
  t4 := Tryd.underlying4
  a4 := Tryd.isAgg4
  z4 := Tryd.sizeOf4
  v4 := Tryd.zeroValue4
  i4 := by kernel_rfl
  t5 := Tryd.underlying5
  a5 := Tryd.isAgg5
  z5 := Tryd.sizeOf5
  v5 := Tryd.zeroValue5
  i5 := by kernel_rfl
  t21 := Tryd.underlying21
  a21 := Tryd.isAgg21
  z21 := Tryd.sizeOf21
  v21 := Tryd.zeroValue21
  i21 := by kernel_rfl
  t25 := Tryd.underlying84
  a25 := Tryd.isAgg84
  z25 := Tryd.sizeOf84
  v25 := Tryd.zeroValue84
  i25 := by kernel_rfl
  t30 := Tryd.underlying22
  a30 := Tryd.isAgg22
  z30 := Tryd.sizeOf22
  v30 := Tryd.zeroValue22
  i30 := by kernel_rfl
  t33 := Tryd.underlying75
  a33 := Tryd.isAgg75
  z33 := Tryd.sizeOf75
  v33 := Tryd.zeroValue75
  i33 := by kernel_rfl
  t66 := Tryd.underlying87
  a66 := Tryd.isAgg87
  z66 := Tryd.sizeOf87
  t68 := Tryd.underlying89
  a68 := Tryd.isAgg89
  z68 := Tryd.sizeOf89
  v68 := Tryd.zeroValue89
  i68 := by kernel_rfl
  t69 := Tryd.underlying90
  a69 := Tryd.isAgg90
  z69 := Tryd.sizeOf90
  v69 := Tryd.zeroValue90
  i69 := by kernel_rfl
  g2 := by kernel_rfl
  g3 := by kernel_rfl
end Go.Proofs
namespace Go.Proofs.YtknccfhaoclimaaDoor
open Go.ChangeShapes Go.WideShapes Go.ChangeAt Go.RowKit
open Go.ChangeMaps (open_string shut_string)
theorem own : ownKnob Tryd.prog.godebug = none := by kernel_rfl
theorem laidOut : laidOutB Tryd.prog = true := by kernel_rfl
/-! ### The tables -/
def u8ren : Go.Shelf.Ren := ⟨fun n => n, fun | 5 => 5 | 119 => 87 | 138 => 89 | 139 => 90 | n => n, fun | 3 => 0 | 4 => 1 | n => n⟩
theorem u8types : U8Types Tryd.prog u8ren := ⟨Tryd.underlying5, Tryd.underlying87, Tryd.underlying89, Tryd.underlying90⟩
theorem u8extra : Go.Proofs.U8Extra Tryd.prog u8ren := ⟨by kernel_rfl, by kernel_rfl, by kernel_rfl, by kernel_rfl, by kernel_rfl, by kernel_rfl, by kernel_rfl⟩
theorem laid_of_H {W : World} (h : laidMetH Tryd.prog Rows.jsonsLimitsRow.laid W) : laidMet Tryd.prog (Rows.jsonsLimitsRow.laid) W := by
  unfold laidMetH at h
  have e : (Rows.jsonsLimitsRow.laid.filter fun x => x.2.handleName?.isSome) = [] := by kernel_rfl
  rw [e] at h
  exact h
theorem tabs_of_laid {W : World} (h : laidMetH Tryd.prog Rows.jsonsLimitsRow.laid W) : Lib.Utf8Tabs 0 1 W := by
  obtain ⟨ps, hv, _⟩ := laid_of_H h
  have r1 : Go.Lib.VarReads Tryd.prog W "unicode/utf8.first" Lib.firstData := by
    rw [← Pinned.utf8First_eq]
    exact Go.Lib.LaidVars_reads hv _ _ (by simp [Rows.jsonsLimitsRow, Rows.laid_unicode_utf8_first])
  have r2 : Go.Lib.VarReads Tryd.prog W "unicode/utf8.acceptRanges" Lib.acceptData := by
    have e : (Rows.laid_unicode_utf8_acceptRanges : DataW Unit) = Lib.acceptData := by kernel_rfl
    rw [← e]
    exact Go.Lib.LaidVars_reads hv _ _ (by simp [Rows.jsonsLimitsRow])
  exact utf8Tabs_of_readsT u8types u8extra r1 r2
noncomputable def laidWorld (os : Os) : World :=
  let w0 := World.holding Tryd.prog os ⟨#[], #[], []⟩
  { w0 with heap := (w0.heap.modify 0 fun
      | .cells _ t frozen => .cells ((List.range 256).map fun c => Value.int .u8 (Lib.firstT c)).toArray t frozen
      | o => o).modify 1 fun
      | .cells _ t frozen => .cells ((List.range 16).flatMap fun c => [Value.int .u8 (Lib.accLo c), Value.int .u8 (Lib.accHi c)]).toArray t frozen
      | o => o }
theorem laidWorld_met (os : Os) (args : Array Value) : laidMetH Tryd.prog Rows.jsonsLimitsRow.laid ((laidWorld os).forCall (fun _ _ => 0) ⟨#[], args, []⟩).memory :=
  laidMetH_of_parts (laidMet_of_run' 8 (by kernel_rfl) (by kernel_rfl)) (by kernel_rfl)
theorem lifted_try (hcalls : ∀ (W : World) (a b : Int), (Lit.int .u8 a).wf = true → (Lit.int .u8 b).wf = true → Lib.Utf8Tabs 0 1 W → Calls Tryd.prog 4 #[.int .u8 a, .int .u8 b] W fun e w' => e = .returned (.bool true) ∧ Below W.heap.size W w')
    (os : Os) (started : os.Started) (H : Type) (enc : TypeId × Value → H) :
    ReturnsInHanded {} Tryd.checked os 4 .any (fun w args => (Rows.jsonsLimitsSpec.pre enc Tryd.prog Tryd.f4 [] false w args ∧ laidMetH Tryd.prog Rows.jsonsLimitsRow.laid w) ∧ sizedMet enc Tryd.prog Tryd.f4 (OpenSpec.ofChange Rows.jsonsLimitsSpec) false w args)
      (Rows.jsonsLimitsSpec.post enc Tryd.prog Tryd.f4 false true false false) := by
  refine returnsInHanded_of_change_and (C := Tryd.checked) (X := fun w _ => laidMetH Tryd.prog Rows.jsonsLimitsRow.laid w) (fun _ _ _ hh h => h.of_heap hh) own started (by kernel_rfl) Tryd.func4
    (ChangeSpec.witness_at (enc := enc) (C := Tryd.checked) (os := os) (X := fun w _ => laidMetH Tryd.prog Rows.jsonsLimitsRow.laid w) false (laidWorld os) #[.int .u8 0, .int .u8 0] 8 rfl (by kernel_rfl) (by kernel_rfl) (by kernel_rfl) (by kernel_rfl) (by kernel_rfl) (laidWorld_met os _)) ?_
  intro W base args ds gs before hval0 hW _ hsz0 hL _
  have hval : ∀ (j : Nat) t v, Tryd.f4.params[j]? = some t → args[j]? = some v → Value.okWide Tryd.prog W .any base t v := hval0
  have hW' := hW
  obtain ⟨p, q, hA0, hV, rfl, hfz, hnd⟩ := hW
  have hA : DataW.TrodAll enc Tryd.prog W 0 (fun _ => true) true Tryd.f4.params.toList args.toList ds p := hA0
  rw [Tryd.params4] at hA hval
  obtain ⟨v0, vs0, d0, ds0, p0, q0, hargs, rfl, rfl, h0, r0⟩ := trodAll_cons hA
  obtain ⟨v1, vs1, d1, ds1, p1, q1, hargs1, rfl, rfl, h1, r1⟩ := trodAll_cons r0
  obtain ⟨rfl, rfl, rfl⟩ := trodAll_nil r1
  obtain rfl : args = #[v0, v1] := by cases args; simp_all
  obtain ⟨rfl, rfl⟩ := trodVars_none hV
  obtain ⟨a, rfl, rfl, rfl, wa⟩ := open_int Tryd.underlying5 (hval 0 5 v0 rfl rfl) h0
  obtain ⟨b, rfl, rfl, rfl, wb⟩ := open_int Tryd.underlying5 (hval 1 5 v1 rfl rfl) h1
  clear hA0 hval0 hsz0
  refine (hcalls W a b wa wb (tabs_of_laid hL)).mono fun e W' ⟨he, bel⟩ => ?_
  subst he
  exact ⟨_, rfl, _, _, _, [], _, [], hW', trodAll_mk1 (shut_bool Tryd.underlying4 _), (trodAll_cons_mk (shut_int Tryd.underlying5 wa) (trodAll_cons_mk (shut_int Tryd.underlying5 wb) trodAll_mk0)), rfl, bel.frame _, fun h => by cases h⟩
theorem f_holds (hcalls : ∀ (W : World) (a b : Int), (Lit.int .u8 a).wf = true → (Lit.int .u8 b).wf = true → Lib.Utf8Tabs 0 1 W → Calls Tryd.prog 4 #[.int .u8 a, .int .u8 b] W fun e w' => e = .returned (.bool true) ∧ Below W.heap.size W w') : Rows.JsonsLimitsSaid :=
  OpenClaim.holds_of_wide 4 Tryd.f4 rfl rfl rfl rfl rfl rfl rfl ⟨rfl, rfl, rfl, rfl, rfl⟩ rfl rfl rfl rfl rfl (by kernel_rfl) Tryd.func4 (by kernel_rfl)
    (of_decide_eq_true (by kernel_rfl)) (by unfold Func.isWrapper; first | (rw [if_pos (by decide +kernel)]; kernel_rfl) | (rw [if_neg (by decide +kernel)]; exact ⟨rfl, rfl⟩))
    (fun os started H enc hx => lifted_try hcalls os started H enc)
theorem card_of (h : Rows.JsonsLimitsSaid) : Rows.JsonsLimitsCardSaid :=
  Claim7.holds_tied_plain_at .later [] [.data, .pinned] true (true, "c939378bc9137c91dedb0f2952db6420cdbe57a58e88edab1843d61b6d3556c5") false
    h (fun _ h => by cases h) (by kernel_rfl) (fun _ h => by cases h) jsonsLimits_row_tie rfl ⟨rfl, rfl⟩ (by kernel_rfl) rfl
    (fun f fn hf hfn => by
      obtain rfl : f = 4 := Option.some.inj ((show Tryd.prog.funcNamed "latchkey/latchkeylaw05.JsonsLimits" = some 4 by kernel_rfl).symm.trans hf) |>.symm
      obtain rfl : fn = Tryd.f4 := (Option.some.inj (Tryd.func4.symm.trans hfn)).symm
      exact ⟨by kernel_rfl, fun j t ht => by
        rw [Tryd.params4] at ht
        have h3 : t = 5 := by
          rcases j with _ | _ | j
          · simpa using ht.symm
          · simpa using ht.symm
          · simp at ht
        subst h3
        exact (show Tryd.prog.wantsStandIn 5 = false by kernel_rfl)⟩)
    (by kernel_rfl)
end Go.Proofs.YtknccfhaoclimaaDoor
