/-
  Proved: the statement GaugeTurns of layer 25 returns true, whatever its arguments, at every world and tape; conditions: none beyond the row's own.
  The run is one of the abstract machine (the Bb texts), which is proved to be sound against the model; over arguments that are not known.
-/
import Derived.Test.YtjdcodjoheckcaaGreatRows
import Derived.WalkKit
import Derived.ProofKit
import Derived.OpenShut
import Derived.Test.YtjdcodjoheckcaaGreatBbFacts
import Derived.Test.YtjdcodjoheckcaaGreatBbGauge
namespace Go.Proofs.YtjdcodjoheckcaaGreat.gaugeTurns
open Go.ChangeShapes Go.WideShapes Go.ChangeAt Go.RowKit Go.Bb Go.Bb.Gauge
set_option linter.unusedVariables false
set_option maxRecDepth 100000

theorem own : ownKnob Tryz.prog.godebug = none := by kernel_rfl

theorem awakes : saysTrue (callOf Go.Bb.Tryzc.prog (fun _ => none) 100000 7 [] ⟨.l, 0⟩) = true := by decide +kernel
noncomputable def M : Mach := ⟨Go.Bb.Tryzc.prog, fun i => if i = 7 then some trueS else none⟩
theorem s7 : M.sums 7 = some trueS := rfl
theorem s3 : M.sums 3 = none := rfl
theorem p3 : M.prog 3 = some Go.Bb.Tryzc.c3 := rfl
theorem s8 : M.sums 8 = none := rfl
theorem p8 : M.prog 8 = some Go.Bb.Tryzc.c8 := rfl
theorem s9 : M.sums 9 = none := rfl
theorem p9 : M.prog 9 = some Go.Bb.Tryzc.c9 := rfl
theorem sums : SumsOk Tryz.prog M.sums := sumsOk_one (trueS_ok extOk mixed progOk sumsOk_none awakes)

theorem walk {H : Type} {enc : TypeId × Value → H} {W : World} {v : Value} {d : DataW H} {ps : List MemPlace} {k : Int} (h : DataW.Trod enc Tryz.prog W 0 (fun _ => true) true 22 v d ps) (hok : Value.okWide Tryz.prog W .any 0 22 v) (hfz : W.noneFrozen ps) :
    Calls Tryz.prog 3 #[v, .int .i64 k] W fun e W' => e = .returned (.bool true) ∧ Kept W W' ps := by
  obtain ⟨ρ, h0, a, len, zs, hr, hn, hv, ha, hlz, hlm, hwf, hobj, hback⟩ := slice_arg Tryz.underlying22 (by kernel_rfl) (show 0 < 2 by omega) (flat_array2 Tryz.underlying26 Tryz.underlying25 (by kernel_rfl) (by kernel_rfl)) h hok hfz
  obtain ⟨pts, rest, hpl, hacs, hmem⟩ := pairs_of .i16 zs len hlz
  subst hpl
  have hsm : ∀ q ∈ pts, Small q := fun q hq => by
    obtain ⟨m1, m2⟩ := hmem q hq
    have b1 := bounds_i16 (hwf _ m1)
    have b2 := bounds_i16 (hwf _ m2)
    unfold Small; omega
  refine (CW.calls (M := M) extOk mixed progOk sums (turns_run (M := M) (h := h0) s7 s3 p3 s8 p8 s9 p9 ha (by rw [hn]; omega) (rest := rest) (fun e => by rw [hobj e, hacs]) hsm) (by rw [hn]; exact hr) (.cons hv (.cons (.s (.int _ _)) .nil))).mono ?_
  rintro e W' ⟨u, h', ρ', cv, ⟨rfl, hq⟩, rfl, q1, q2, q3⟩
  exact ⟨by rw [q1.bool], hback ρ' h' W' q2 (by rw [hn] at q3; exact q3) hq⟩

set_option maxRecDepth 100000 in
theorem lifted (os : Os) (started : os.Started) (H : Type) (enc : TypeId × Value → H) :
    ReturnsInHanded {} Tryz.checked os 3 .any (Rows.gaugeTurnsSpec.pre6 enc Tryz.prog Tryz.f3 Rows.gaugeTurnsRow.domain false) (Rows.gaugeTurnsSpec.post enc Tryz.prog Tryz.f3 false true false false) := by
  refine returnsInHanded_of_change (C := Tryz.checked) own started (by kernel_rfl) Tryz.func3
    (ChangeSpec.witness6 (enc := enc) (C := Tryz.checked) false ⟨#[], #[.slice none 0 0, .int .i64 0], []⟩ 8 (by kernel_rfl) (by kernel_rfl) (by kernel_rfl) (by kernel_rfl)) ?_
  intro W base args ds gs before hval0 hW hcnd _
  have hval : ∀ (j : Nat) t v, Tryz.f3.params[j]? = some t → args[j]? = some v → Value.okWide Tryz.prog W .any base t v := hval0
  have hW' := hW
  obtain ⟨p, q, hA0, hV, rfl, hfz, hnd⟩ := hW
  have hA : DataW.TrodAll enc Tryz.prog W 0 (fun _ => true) true Tryz.f3.params.toList args.toList ds p := hA0
  rw [Tryz.params3] at hA hval
  obtain ⟨v, v', d, d', p0, p1, rfl, rfl, rfl, hd0, hd1⟩ := trodAll_two hA
  obtain ⟨k, rfl, rfl, rfl, hkw⟩ := open_int Tryz.underlying3 (hval 1 3 _ rfl rfl) hd1
  obtain ⟨rfl, rfl⟩ := trodVars_none hV
  clear hA0 hval0
  simp only [List.append_nil] at hW'
  refine (walk (k := k) hd0 (hval 0 22 _ rfl rfl) (fun b off hm => hfz b off (by simpa using hm))).mono fun e W' ⟨he, hl⟩ => ?_
  subst he
  have stay : ∀ sp : Nat → Bool, (∀ p ∈ p0, sp p.block = true) → DataW.Trod enc Tryz.prog W' 0 sp true 22 v d p0 := fun sp hsp =>
    WideElems.Trod_stays (by kernel_rfl) (by kernel_rfl) (of_decide_eq_true (by kernel_rfl)) hd0 hl.2.1 hsp
  exact ⟨_, rfl, post_of_same (pa := p0) (pv := []) hW' (fun _ _ _ => (trodAll_cons_mk (shut_bool Tryz.underlying4 _) trodAll_mk0)) (fun sp hsp => by
      have := (fun sp hsp => trodAll_mk2 (stay sp hsp) (shut_int Tryz.underlying3 hkw)) sp hsp
      rw [List.append_nil] at this
      exact this) (fun _ _ => rfl) (by simp)
    hl.1 hl.2.2 (ok_one (by kernel_rfl) rfl (okWide_bool_mk Tryz.underlying4 _))⟩

theorem over : Rows.gaugeTurnsRow.holds Tryz.pinned (OpenSpec.ofChange Rows.gaugeTurnsSpec) :=
  OpenClaim.holds_of_wide 3 Tryz.f3 rfl rfl rfl rfl rfl rfl rfl ⟨rfl, rfl, rfl, rfl, rfl⟩ rfl rfl rfl rfl rfl (by kernel_rfl) Tryz.func3 (by kernel_rfl)
    (of_decide_eq_true (by kernel_rfl)) (by unfold Func.isWrapper; first | (rw [if_pos (by decide +kernel)]; kernel_rfl) | (rw [if_neg (by decide +kernel)]; exact ⟨rfl, rfl⟩))
    (fun os started H enc _ => lifted os started H enc)

/-- THE STATEMENT -/
theorem proved : Rows.GaugeTurnsSaid :=
  over
#print axioms proved
end Go.Proofs.YtjdcodjoheckcaaGreat.gaugeTurns
