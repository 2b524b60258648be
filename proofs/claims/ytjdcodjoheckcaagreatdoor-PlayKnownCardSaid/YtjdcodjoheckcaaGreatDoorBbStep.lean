/-
  What the compiler makes of an operation answers as the operation does.
-/
import Derived.Test.YtjdcodjoheckcaaGreatDoorBbEff2
namespace Go.Bb
variable {P : Program}

def StepOk (P : Program) (o : Op) (d : Option Path) : AStep → Prop
  | .pure d' po => d = some d' ∧ PureOk P o po
  | .read d' ro => d = some d' ∧ ReadOk P o ro
  | .alloc d' lo => d = some d' ∧ AllocOk P o lo
  | .eff d' eo => d = d' ∧ EffOk P o eo
  | .call d' f args => d = d' ∧ ∃ c, o = .call c ∧ c.callee = .value (.func f) ∧ opds c.args.toList = some args ∧ ∃ fn, P.funcs[f]? = some fn ∧ fn.body.isNone = false
  | .callv d' f args => d = d' ∧ ∃ c fo, o = .call c ∧ c.callee = .value fo ∧ opd fo = some f ∧ opds c.args.toList = some args
  | .bad _ => True

section
variable {o : Op} {d : Option Path}
theorem ok_bad (s : String) : StepOk P o d (bad s) := trivial
theorem ok_pur {po : POp} (h : PureOk P o po) : StepOk P o d (purO d po) := by cases d with
  | none => exact trivial
  | some d => exact ⟨rfl, h⟩
theorem ok_rea {ro : ROp} (h : ReadOk P o ro) : StepOk P o d (reaO d ro) := by cases d with
  | none => exact trivial
  | some d => exact ⟨rfl, h⟩
theorem ok_all {lo : LOp} (h : AllocOk P o lo) : StepOk P o d (allO d lo) := by cases d with
  | none => exact trivial
  | some d => exact ⟨rfl, h⟩
theorem ok_eff {eo : EOp} (h : EffOk P o eo) : StepOk P o d (.eff d eo) := ⟨rfl, h⟩

theorem ok_bin {op : BinOp} {t t2 : TypeId} {x y : Operand} {ax ay : Opd} (hx : opd x = some ax) (hy : opd y = some ay) : StepOk P (.binOp op t x y t2) d (binStep P op t ax ay d) := by
  unfold binStep
  split
  case h_1 => exact ok_pur (pure_add hx hy)
  case h_2 => exact ok_pur (pure_sub hx hy)
  case h_3 => exact ok_pur (pure_mul hx hy)
  case h_4 => exact ok_pur (pure_quo hx hy)
  case h_5 => exact ok_pur (pure_rem hx hy)
  case h_6 => exact ok_pur (pure_and hx hy)
  case h_7 => exact ok_pur (pure_or hx hy)
  case h_8 => exact ok_pur (pure_xor hx hy)
  case h_9 => exact ok_pur (pure_andNot hx hy)
  case h_10 => exact ok_pur (pure_shl hx hy)
  case h_11 => exact ok_pur (pure_shr hx hy)
  case h_12 => exact ok_pur (pure_eqI hx hy)
  case h_13 => exact ok_pur (pure_neI hx hy)
  case h_14 => exact ok_pur (pure_lt hx hy)
  case h_15 => exact ok_pur (pure_le hx hy)
  case h_16 => exact ok_pur (pure_gt hx hy)
  case h_17 => exact ok_pur (pure_ge hx hy)
  case h_18 => exact ok_pur (pure_arF hx hy _ (by simp))
  case h_19 => exact ok_pur (pure_arF hx hy _ (by simp))
  case h_20 => exact ok_pur (pure_arF hx hy _ (by simp))
  case h_21 => exact ok_pur (pure_arF hx hy _ (by simp))
  case h_22 => exact ok_pur (pure_cmF hx hy _ (by simp))
  case h_23 => exact ok_pur (pure_cmF hx hy _ (by simp))
  case h_24 => exact ok_pur (pure_cmF hx hy _ (by simp))
  case h_25 => exact ok_pur (pure_cmF hx hy _ (by simp))
  case h_26 => exact ok_pur (pure_cmF hx hy _ (by simp))
  case h_27 => exact ok_pur (pure_cmF hx hy _ (by simp))
  case h_28 => exact ok_pur (pure_arC hx hy _ (by simp))
  case h_29 => exact ok_pur (pure_arC hx hy _ (by simp))
  case h_30 => exact ok_pur (pure_eqC hx hy)
  case h_31 => exact ok_pur (pure_neC hx hy)
  case h_32 h => exact ok_pur (pure_eqB (neg := false) h hx hy)
  case h_33 h => exact ok_pur (pure_eqB (neg := true) h hx hy)
  case h_34 h => exact ok_pur (pure_eqN (neg := false) h ⟨_, rfl⟩ hx hy)
  case h_35 h => exact ok_pur (pure_eqN (neg := true) h ⟨_, rfl⟩ hx hy)
  case h_36 h => exact ok_pur (pure_eqN (neg := false) h ⟨_, rfl⟩ hx hy)
  case h_37 h => exact ok_pur (pure_eqN (neg := true) h ⟨_, rfl⟩ hx hy)
  case h_38 h => exact ok_pur (pure_eqN (neg := false) h ⟨_, _, rfl⟩ hx hy)
  case h_39 h => exact ok_pur (pure_eqN (neg := true) h ⟨_, _, rfl⟩ hx hy)
  case h_40 h => exact ok_pur (pure_eqN (neg := false) h ⟨_, _, _, rfl⟩ hx hy)
  case h_41 h => exact ok_pur (pure_eqN (neg := true) h ⟨_, _, _, rfl⟩ hx hy)
  case h_42 => exact ok_pur (pure_eqStr (neg := false) hx hy)
  case h_43 => exact ok_pur (pure_eqStr (neg := true) hx hy)
  case h_44 h =>
    split
    · exact ok_bad _
    · rename_i hq
      split
      · rename_i hk; exact ok_pur (pure_eqFlat (neg := false) h (by simpa using hq) hk hx hy)
      · exact ok_bad _
  case h_45 h =>
    split
    · exact ok_bad _
    · rename_i hq
      split
      · rename_i hk; exact ok_pur (pure_eqFlat (neg := true) h (by simpa using hq) hk hx hy)
      · exact ok_bad _
  case h_46 => exact ok_pur (pure_mulC hx hy)
  case h_47 => exact ok_bad _

theorem ok_conv {src dst : TypeId} {x : Operand} {ax : Opd} (hx : opd x = some ax) : StepOk P (.convert src dst x) d (convStep P src dst ax d) := by
  unfold convStep
  split
  · rename_i h1 h2; exact ok_pur (pure_i2i h2 h1 hx)
  · rename_i h1 h2; exact ok_pur (pure_i2f h2 h1 hx)
  · rename_i h1 h2; exact ok_pur (pure_f2i h2 h1 hx)
  · rename_i h1 h2
    split
    · rename_i h3; exact ok_rea (read_b2s h1 h2 h3 hx)
    · exact ok_bad _
  · rename_i h1 h2
    split
    · rename_i h3 h4
      obtain rfl := of_decide_eq_true h3
      exact ok_eff (eff_freeze h2 h4 hx)
    · exact ok_bad _
  · exact ok_bad _

theorem opds_one {l : List Operand} {x : Opd} (h : opds l = some [x]) : ∃ a, l = [a] ∧ opd a = some x := by
  cases l with
  | nil => simp [opds] at h
  | cons a l =>
    simp only [opds] at h
    split at h
    · rename_i b r h1 h2
      simp only [Option.some.injEq, List.cons.injEq] at h
      obtain ⟨rfl, rfl⟩ := h
      cases l with
      | nil => exact ⟨a, rfl, h1⟩
      | cons c l => simp only [opds] at h2; split at h2 <;> simp at h2
    · cases h
theorem opds_two {l : List Operand} {x y : Opd} (h : opds l = some [x, y]) : ∃ a b, l = [a, b] ∧ opd a = some x ∧ opd b = some y := by
  cases l with
  | nil => simp [opds] at h
  | cons a l =>
    simp only [opds] at h
    split at h
    · rename_i b r h1 h2
      simp only [Option.some.injEq, List.cons.injEq] at h
      obtain ⟨rfl, rfl⟩ := h
      obtain ⟨c, rfl, h3⟩ := opds_one h2
      exact ⟨a, c, rfl, h1, h3⟩
    · cases h

theorem ok_call (hE : ExtOk P) {c : Call} : StepOk P (.call c) d (callStep P c d) := by
  obtain ⟨callee, args, ats⟩ := c
  unfold callStep
  split
  · rename_i f hc
    simp only at hc; subst hc
    split
    · exact ok_bad _
    rename_i hlt
    split
    · rename_i fn hfn
      split
      · rename_i hbody
        split
        · rename_i hname hargs
          obtain ⟨a, ha, hx⟩ := opds_one hargs
          exact ok_pur (pure_ext (((hE f fn hfn hbody).1) hname) (Nat.lt_of_not_le hlt) hx ha)
        · rename_i hname hargs
          obtain ⟨a, ha, hx⟩ := opds_one hargs
          exact ok_pur (pure_ext (((hE f fn hfn hbody).2) hname) (Nat.lt_of_not_le hlt) hx ha)
        · exact ok_bad _
      · rename_i hbody
        split
        · rename_i as hargs
          exact ⟨rfl, _, rfl, rfl, hargs, fn, hfn, by cases h : fn.body <;> simp_all⟩
        · exact ok_bad _
    · exact ok_bad _
  · rename_i fo hne hc
    simp only at hc; subst hc
    split
    · rename_i h1 h2; exact ⟨rfl, _, fo, rfl, rfl, h1, h2⟩
    · exact ok_bad _
  · rename_i b hc
    simp only at hc; subst hc
    split
    · -- append
      rename_i s x st xt rest hargs hats
      obtain ⟨a1, a2, ha, h1, h2⟩ := opds_two hargs
      split
      · rename_i e e' hu hxt
        split
        · rename_i z y o hs hb hz
          split
          · rename_i hl; exact ok_eff (eff_append ⟨hats, hu, hs, hb, hz, hl⟩ hxt ha h1 h2)
          · exact ok_bad _
        · exact ok_bad _
      · rename_i e hu hxt
        split
        · rename_i z y o hs hb hz
          split
          · rename_i hl; exact ok_eff (eff_appendZ ⟨hats, hu, hs, hb, hz, hl⟩ hxt ha h1 h2)
          · exact ok_bad _
        · exact ok_bad _
      · exact ok_bad _
    · -- len
      rename_i x t rest hargs hats
      obtain ⟨a, ha, h1⟩ := opds_one hargs
      split
      · rename_i hu; exact ok_pur (pure_len hu h1 ha hats)
      · rename_i hu; exact ok_rea (read_mlen hu h1 ha hats)
      · exact ok_bad _
    · -- cap
      rename_i x t rest hargs hats
      obtain ⟨a, ha, h1⟩ := opds_one hargs
      split
      · rename_i hu; exact ok_pur (pure_cap hu h1 ha hats)
      · exact ok_bad _
    · -- copy
      rename_i y s t u rest hargs hats
      obtain ⟨a1, a2, ha, h1, h2⟩ := opds_two hargs
      split
      · rename_i e e' hu hxt
        split
        · rename_i z hs; exact ok_eff (eff_copy hats hu hxt hs ha h1 h2)
        · exact ok_bad _
      · exact ok_bad _
    · -- clear
      rename_i x t rest hargs hats
      obtain ⟨a, ha, h1⟩ := opds_one hargs
      split
      · rename_i e hu
        split
        · rename_i o hz; exact ok_eff (eff_clear hats hu hz ha h1)
        · exact ok_bad _
      · exact ok_bad _
    · rename_i hargs; exact ok_pur (pure_minmax (mx := false) hargs)
    · rename_i hargs; exact ok_pur (pure_minmax (mx := true) hargs)
    · rename_i hargs
      obtain ⟨a1, a2, ha, h1, h2⟩ := opds_two hargs
      exact ok_pur (pure_cpx h1 h2 ha)
    · rename_i hargs
      obtain ⟨a, ha, h1⟩ := opds_one hargs
      exact ok_pur (pure_re h1 ha)
    · rename_i hargs
      obtain ⟨a, ha, h1⟩ := opds_one hargs
      exact ok_pur (pure_im h1 ha)
    · exact ok_bad _
  · exact ok_bad _

theorem stepOf_ok (hE : ExtOk P) (o : Op) (d : Option Path) : StepOk P o d (stepOf P o d) := by
  unfold stepOf
  split
  case h_1 => split <;> first | exact ok_bad _ | exact ok_pur (pure_move ‹_›)
  case h_2 => split <;> first | exact ok_bad _ | exact ok_pur (pure_assign ‹_›)
  case h_3 =>
    split
    · rename_i h1 h2 h3; exact ok_pur (pure_pick h1 h2 h3)
    · exact ok_bad _
  case h_4 => split <;> first | exact ok_bad _ | exact ok_all (alloc_alloc ‹_›)
  case h_5 => split <;> first | exact ok_bad _ | exact ok_all (alloc_box ‹_›)
  case h_6 =>
    split
    · rename_i hu hz
      split
      · rename_i ps hp
        split
        · rename_i hall; exact ok_pur (pure_buildStruct hu hz hall hp)
        · exact ok_bad _
      · exact ok_bad _
    · rename_i hu hz
      split
      · rename_i s hs
        split
        · rename_i ps hp; exact ok_pur (pure_buildArray hu hz hs hp)
        · exact ok_bad _
      · exact ok_bad _
    · exact ok_bad _
  case h_7 =>
    split
    · rename_i e hu
      split
      · rename_i s z hs hz
        split
        · rename_i ps hp
          split
          · rename_i hc; exact ok_all (alloc_row hu hs hz hp hc.1 hc.2)
          · exact ok_bad _
        · exact ok_bad _
      · exact ok_bad _
    · exact ok_bad _
  case h_8 =>
    split
    · rename_i h1 h2 h3; exact ok_rea (read_load1 h1 h2)
    · rename_i h1 h2 h3; exact ok_rea (read_loadN h1 h2 h3)
    · exact ok_bad _
  case h_9 =>
    split
    · rename_i h1 h2 h3; exact ok_eff (eff_store h3 h1 h2)
    · exact ok_bad _
  case h_10 => split <;> first | exact ok_bad _ | exact ok_pur (pure_nil ‹_›)
  case h_11 =>
    split
    · rename_i h1 h2; exact ok_bin h1 h2
    · exact ok_bad _
  case h_12 =>
    split
    · rename_i h1; exact ok_pur (pure_not h1)
    · rename_i h1 _; exact ok_pur (pure_negI h1)
    · rename_i h1 _; exact ok_pur (pure_negF h1)
    · rename_i h1 _; exact ok_pur (pure_negC h1)
    · exact ok_bad _
  case h_13 =>
    split
    · rename_i h1; exact ok_conv h1
    · exact ok_bad _
  case h_14 =>
    split
    · rename_i h1 h2
      split
      · exact ok_pur (pure_fn ‹_› h1 h2)
      · exact ok_bad _
    · rename_i h1 h2
      split
      · rename_i h3
        split
        · rename_i h4; exact ok_pur (pure_bnd h2 h3 h4)
        · exact ok_bad _
      · exact ok_bad _
    · exact ok_bad _
  case h_15 =>
    split
    · rename_i hu
      split
      · exact ok_all (alloc_map hu)
      · exact ok_bad _
    · exact ok_bad _
  case h_16 =>
    split
    · rename_i hu h1 h2
      split
      · rename_i hs hb hz
        split
        · rename_i hl; exact ok_all (alloc_make hu hs hb hz hl h1 h2)
        · exact ok_bad _
      · exact ok_bad _
    · exact ok_bad _
  case h_17 =>
    split
    · rename_i hu h1 h2 h3
      split
      · rename_i hs; exact ok_pur (pure_slice hu hs h1 h2 h3)
      · exact ok_bad _
    · exact ok_bad _
  case h_18 =>
    split
    · rename_i hu h1
      split
      · rename_i hf
        split
        · rename_i hs; exact ok_pur (pure_fld hu hf hs h1)
        · exact ok_bad _
      · exact ok_bad _
    · exact ok_bad _
  case h_19 =>
    split
    · rename_i hu h1
      split
      · rename_i hf
        split
        · rename_i hs hg; exact ok_pur (pure_field hu hf hs hg h1)
        · exact ok_bad _
      · exact ok_bad _
    · exact ok_bad _
  case h_20 =>
    split
    · rename_i hu h1 h2
      split
      · rename_i hs; exact ok_pur (pure_idxS hu hs h1 h2)
      · exact ok_bad _
    · rename_i hu h1 h2
      split
      · rename_i hs; exact ok_pur (pure_idxA hu hs h1 h2)
      · exact ok_bad _
    · exact ok_bad _
  case h_21 =>
    split
    · rename_i hu h1 h2
      split
      · rename_i hs hg; exact ok_pur (pure_index hu hs hg h1 h2)
      · exact ok_bad _
    · exact ok_bad _
  case h_22 =>
    split
    · rename_i hu h1 h2
      split
      · rename_i hk hz
        split
        · rename_i hzc; exact ok_rea (read_lookup hu hk hz hzc h1 h2)
        · exact ok_bad _
      · exact ok_bad _
    · exact ok_bad _
  case h_23 =>
    split
    · rename_i hu h1 h2 h3
      split
      · rename_i hk; exact ok_eff (eff_mapPut hu hk h1 h2 h3)
      · exact ok_bad _
    · exact ok_bad _
  case h_24 =>
    split
    · rename_i hu h1; exact ok_eff (eff_range hu h1)
    · exact ok_bad _
  case h_25 =>
    split
    · rename_i h1; exact ok_eff (eff_next h1)
    · exact ok_bad _
  case h_26 =>
    split
    · rename_i h1; exact ok_rea (read_entry h1)
    · exact ok_bad _
  case h_27 => split <;> first | exact ok_bad _ | exact ok_pur (pure_extract ‹_›)
  case h_28 => exact ok_call hE
  case h_29 => exact ok_bad _
end
end Go.Bb
