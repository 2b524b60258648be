/-
  Proved: the statement PlayKnown returns true, at every world and tape; conditions: none beyond the row's own.
  The run is one evaluation of the abstract machine (the Bb texts), which is proved to be sound against the model.
-/
import Derived.Test.YtjdcodjoheckcaaGreatDoorCards
import Derived.Test.YtjdcodjoheckcaaGreatDoorTie
import Derived.LaidLaws
import Derived.LaidHandle
import Derived.SevenTiedAt
import Derived.Stop.Joined
import Derived.WalkKit
import Derived.ProofKit
import Derived.OpenShut
import Derived.Test.YtjdcodjoheckcaaGreatDoorBbAwake35
namespace Go.Proofs.YtjdcodjoheckcaaGreatDoor.playKnown
open Go.ChangeShapes Go.WideShapes Go.ChangeAt Go.RowKit Go.Bb
set_option linter.unusedVariables false
set_option maxRecDepth 100000

theorem own : ownKnob Tryz.prog.godebug = none := by kernel_rfl

theorem runs : saysTrue (callOf Go.Bb.Tryzc.prog sumsA35 1000000 7 [] ⟨.l, 0⟩) = true := by decide +kernel
theorem walk (w : World) : Calls Tryz.prog 7 #[] w fun e w' => e = .returned (.bool true) ∧ Grown0 w w' :=
  closed_true extOk mixed progOk sumsA35_ok runs w

/-- a world that meets the condition: the variable's cells laid -/
noncomputable def laidWorld (os : Os) : World :=
  let w0 := World.holding Tryz.prog os ⟨#[], #[], []⟩
  { w0 with heap := w0.heap.modify 1 fun
      | .cells _ t frozen => .cells #[.int .u8 0, .int .u8 1, .int .u8 56, .int .u8 2, .int .u8 57, .int .u8 49, .int .u8 28, .int .u8 3, .int .u8 61, .int .u8 58, .int .u8 42, .int .u8 50, .int .u8 38, .int .u8 29, .int .u8 17, .int .u8 4, .int .u8 62, .int .u8 47, .int .u8 59, .int .u8 36, .int .u8 45, .int .u8 43, .int .u8 51, .int .u8 22, .int .u8 53, .int .u8 39, .int .u8 33, .int .u8 30, .int .u8 24, .int .u8 18, .int .u8 12, .int .u8 5, .int .u8 63, .int .u8 55, .int .u8 48, .int .u8 27, .int .u8 60, .int .u8 41, .int .u8 37, .int .u8 16, .int .u8 46, .int .u8 35, .int .u8 44, .int .u8 21, .int .u8 52, .int .u8 32, .int .u8 23, .int .u8 11, .int .u8 54, .int .u8 26, .int .u8 40, .int .u8 15, .int .u8 34, .int .u8 20, .int .u8 31, .int .u8 10, .int .u8 25, .int .u8 14, .int .u8 19, .int .u8 9, .int .u8 13, .int .u8 8, .int .u8 7, .int .u8 6] t frozen
      | o => o }
theorem laidWorld_met (os : Os) (args : Array Value) : laidMet Tryz.prog Rows.playKnownRow.laid ((laidWorld os).forCall (fun _ _ => 0) ⟨#[], args, []⟩).memory :=
  laidMet_of_run (ps := [.cell 1 0, .cell 1 1, .cell 1 2, .cell 1 3, .cell 1 4, .cell 1 5, .cell 1 6, .cell 1 7, .cell 1 8, .cell 1 9, .cell 1 10, .cell 1 11, .cell 1 12, .cell 1 13, .cell 1 14, .cell 1 15, .cell 1 16, .cell 1 17, .cell 1 18, .cell 1 19, .cell 1 20, .cell 1 21, .cell 1 22, .cell 1 23, .cell 1 24, .cell 1 25, .cell 1 26, .cell 1 27, .cell 1 28, .cell 1 29, .cell 1 30, .cell 1 31, .cell 1 32, .cell 1 33, .cell 1 34, .cell 1 35, .cell 1 36, .cell 1 37, .cell 1 38, .cell 1 39, .cell 1 40, .cell 1 41, .cell 1 42, .cell 1 43, .cell 1 44, .cell 1 45, .cell 1 46, .cell 1 47, .cell 1 48, .cell 1 49, .cell 1 50, .cell 1 51, .cell 1 52, .cell 1 53, .cell 1 54, .cell 1 55, .cell 1 56, .cell 1 57, .cell 1 58, .cell 1 59, .cell 1 60, .cell 1 61, .cell 1 62, .cell 1 63]) 8 (by kernel_rfl) (by kernel_rfl) (by kernel_rfl)

theorem lifted (os : Os) (started : os.Started) (H : Type) (enc : TypeId × Value → H) :
    ReturnsInHanded {} Tryz.checked os 7 .any (fun w args => (Rows.playKnownSpec.pre enc Tryz.prog Tryz.f7 Rows.playKnownRow.domain false w args ∧ laidMetH Tryz.prog Rows.playKnownRow.laid w) ∧ sizedMet enc Tryz.prog Tryz.f7 (OpenSpec.ofChange Rows.playKnownSpec) false w args) (Rows.playKnownSpec.post enc Tryz.prog Tryz.f7 false true false false) := by
  refine returnsInHanded_of_change_and (C := Tryz.checked) (X := fun w _ => laidMetH Tryz.prog Rows.playKnownRow.laid w) (fun _ _ _ hh h => h.of_heap hh) own started (by kernel_rfl) Tryz.func7
    (ChangeSpec.witness_at (enc := enc) (C := Tryz.checked) (os := os) (X := fun w _ => laidMetH Tryz.prog Rows.playKnownRow.laid w) false (laidWorld os) #[] 8 rfl (by kernel_rfl) (by kernel_rfl) (by kernel_rfl) (by kernel_rfl) (by kernel_rfl) (laidWorld_met os _)) ?_
  intro W base args ds gs before hval0 hW _ _ hL _
  have hval : ∀ (j : Nat) t v, Tryz.f7.params[j]? = some t → args[j]? = some v → Value.okWide Tryz.prog W .any base t v := hval0
  have hW' := hW
  obtain ⟨p, q, hA0, hV, rfl, hfz, hnd⟩ := hW
  have hA : DataW.TrodAll enc Tryz.prog W 0 (fun _ => true) true Tryz.f7.params.toList args.toList ds p := hA0
  rw [Tryz.params7] at hA hval
  obtain ⟨rfl, rfl, rfl⟩ := trodAll_none hA
  obtain ⟨rfl, rfl⟩ := trodVars_none hV
  clear hA0 hval0
  simp only [List.append_nil] at hW'
  refine (walk W).mono fun e W' ⟨he, hg⟩ => ?_
  subst he
  exact ⟨_, rfl, post_same (pa := []) (pv := []) hW' (fun _ _ _ => (trodAll_cons_mk (shut_bool Tryz.underlying4 _) trodAll_mk0)) (fun sp _ => rfl) (fun _ _ => rfl) rfl
    (World.keptBut_mono (fun _ h => h.elim) hg.1) hg.2.1 (ok_one (by kernel_rfl) rfl (okWide_bool_mk Tryz.underlying4 _))⟩

theorem over : Rows.playKnownRow.holds Tryz.pinned (OpenSpec.ofChange Rows.playKnownSpec) :=
  OpenClaim.holds_of_wide 7 Tryz.f7 rfl rfl rfl rfl rfl rfl rfl ⟨rfl, rfl, rfl, rfl, rfl⟩ rfl rfl rfl rfl rfl (by kernel_rfl) Tryz.func7 (by kernel_rfl)
    (of_decide_eq_true (by kernel_rfl)) (by unfold Func.isWrapper; first | (rw [if_pos (by decide +kernel)]; kernel_rfl) | (rw [if_neg (by decide +kernel)]; exact ⟨rfl, rfl⟩))
    (fun os started H enc _ => lifted os started H enc)

theorem row : Rows.PlayKnownSaid :=
  over
/-- THE STATEMENT: the row's card -/
theorem proved : Rows.PlayKnownCardSaid :=
  Claim7.holds_tied_plain_at .later [] [.data] true (true, "6dcbb55d5ff060a827f9c8117b8de8b2829add39d0b8961a3cfcc88fdb9d30d5") false
    row (fun _ h => by cases h) (by kernel_rfl) (fun _ h => by cases h) playKnown_row_tie rfl ⟨rfl, rfl⟩ (by kernel_rfl) rfl
    (fun f fn hf hfn => by
      obtain rfl : f = 7 := Option.some.inj ((show Tryz.prog.funcNamed "blackboard/blackboardlaw22.PlayKnown" = some 7 by kernel_rfl).symm.trans hf) |>.symm
      obtain rfl : fn = Tryz.f7 := (Option.some.inj (Tryz.func7.symm.trans hfn)).symm
      exact ⟨by kernel_rfl, fun j t ht => by
        rw [Tryz.params7] at ht
        simp at ht⟩)
    (by kernel_rfl)
#print axioms proved
end Go.Proofs.YtjdcodjoheckcaaGreatDoor.playKnown
