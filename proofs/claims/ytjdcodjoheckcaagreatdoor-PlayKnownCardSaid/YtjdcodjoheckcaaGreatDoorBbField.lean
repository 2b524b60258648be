/-
  The field's functions in the abstract machine: the product of two symbols by the tables, the sum.
-/
import Derived.Test.YtjdcodjoheckcaaGreatDoorBbArg
import Derived.Test.YtjdcodjoheckcaaGreatDoorBbCode2
set_option maxRecDepth 100000
set_option linter.unusedVariables false
namespace Go.Bb.Fld
open Go.Bb Go.Bb.Tryzc
theorem L0 {s : List (Path × AV)} {t : Tm} {v : AV} (h : find p0 s = some v) : g0 (lay s t) = v := gs_lay (p := p0) h
theorem L1 {s : List (Path × AV)} {t : Tm} {v : AV} (h : find p1 s = some v) : g1 (lay s t) = v := gs_lay (p := p1) h
theorem L2 {s : List (Path × AV)} {t : Tm} {v : AV} (h : find p2 s = some v) : g2 (lay s t) = v := gs_lay (p := p2) h
theorem L3 {s : List (Path × AV)} {t : Tm} {v : AV} (h : find p3 s = some v) : g3 (lay s t) = v := gs_lay (p := p3) h
theorem L4 {s : List (Path × AV)} {t : Tm} {v : AV} (h : find p4 s = some v) : g4 (lay s t) = v := gs_lay (p := p4) h
theorem L5 {s : List (Path × AV)} {t : Tm} {v : AV} (h : find p5 s = some v) : g5 (lay s t) = v := gs_lay (p := p5) h
theorem L6 {s : List (Path × AV)} {t : Tm} {v : AV} (h : find p6 s = some v) : g6 (lay s t) = v := gs_lay (p := p6) h
theorem L7 {s : List (Path × AV)} {t : Tm} {v : AV} (h : find p7 s = some v) : g7 (lay s t) = v := gs_lay (p := p7) h
theorem L8 {s : List (Path × AV)} {t : Tm} {v : AV} (h : find p8 s = some v) : g8 (lay s t) = v := gs_lay (p := p8) h
theorem L9 {s : List (Path × AV)} {t : Tm} {v : AV} (h : find p9 s = some v) : g9 (lay s t) = v := gs_lay (p := p9) h
theorem L10 {s : List (Path × AV)} {t : Tm} {v : AV} (h : find p10 s = some v) : g10 (lay s t) = v := gs_lay (p := p10) h
theorem L11 {s : List (Path × AV)} {t : Tm} {v : AV} (h : find p11 s = some v) : g11 (lay s t) = v := gs_lay (p := p11) h
theorem L12 {s : List (Path × AV)} {t : Tm} {v : AV} (h : find p12 s = some v) : g12 (lay s t) = v := gs_lay (p := p12) h
theorem L13 {s : List (Path × AV)} {t : Tm} {v : AV} (h : find p13 s = some v) : g13 (lay s t) = v := gs_lay (p := p13) h
theorem L14 {s : List (Path × AV)} {t : Tm} {v : AV} (h : find p14 s = some v) : g14 (lay s t) = v := gs_lay (p := p14) h
theorem L15 {s : List (Path × AV)} {t : Tm} {v : AV} (h : find p15 s = some v) : g15 (lay s t) = v := gs_lay (p := p15) h
theorem L16 {s : List (Path × AV)} {t : Tm} {v : AV} (h : find p16 s = some v) : g16 (lay s t) = v := gs_lay (p := p16) h
theorem L17 {s : List (Path × AV)} {t : Tm} {v : AV} (h : find p17 s = some v) : g17 (lay s t) = v := gs_lay (p := p17) h
theorem L18 {s : List (Path × AV)} {t : Tm} {v : AV} (h : find p18 s = some v) : g18 (lay s t) = v := gs_lay (p := p18) h
theorem L19 {s : List (Path × AV)} {t : Tm} {v : AV} (h : find p19 s = some v) : g19 (lay s t) = v := gs_lay (p := p19) h
theorem L20 {s : List (Path × AV)} {t : Tm} {v : AV} (h : find p20 s = some v) : g20 (lay s t) = v := gs_lay (p := p20) h
theorem L21 {s : List (Path × AV)} {t : Tm} {v : AV} (h : find p21 s = some v) : g21 (lay s t) = v := gs_lay (p := p21) h
theorem L22 {s : List (Path × AV)} {t : Tm} {v : AV} (h : find p22 s = some v) : g22 (lay s t) = v := gs_lay (p := p22) h
theorem L23 {s : List (Path × AV)} {t : Tm} {v : AV} (h : find p23 s = some v) : g23 (lay s t) = v := gs_lay (p := p23) h
theorem L24 {s : List (Path × AV)} {t : Tm} {v : AV} (h : find p24 s = some v) : g24 (lay s t) = v := gs_lay (p := p24) h
theorem L25 {s : List (Path × AV)} {t : Tm} {v : AV} (h : find p25 s = some v) : g25 (lay s t) = v := gs_lay (p := p25) h
theorem L26 {s : List (Path × AV)} {t : Tm} {v : AV} (h : find p26 s = some v) : g26 (lay s t) = v := gs_lay (p := p26) h
theorem L27 {s : List (Path × AV)} {t : Tm} {v : AV} (h : find p27 s = some v) : g27 (lay s t) = v := gs_lay (p := p27) h
theorem L28 {s : List (Path × AV)} {t : Tm} {v : AV} (h : find p28 s = some v) : g28 (lay s t) = v := gs_lay (p := p28) h
theorem L29 {s : List (Path × AV)} {t : Tm} {v : AV} (h : find p29 s = some v) : g29 (lay s t) = v := gs_lay (p := p29) h
theorem L30 {s : List (Path × AV)} {t : Tm} {v : AV} (h : find p30 s = some v) : g30 (lay s t) = v := gs_lay (p := p30) h
theorem L31 {s : List (Path × AV)} {t : Tm} {v : AV} (h : find p31 s = some v) : g31 (lay s t) = v := gs_lay (p := p31) h
theorem L32 {s : List (Path × AV)} {t : Tm} {v : AV} (h : find p32 s = some v) : g32 (lay s t) = v := gs_lay (p := p32) h
theorem L33 {s : List (Path × AV)} {t : Tm} {v : AV} (h : find p33 s = some v) : g33 (lay s t) = v := gs_lay (p := p33) h
theorem L34 {s : List (Path × AV)} {t : Tm} {v : AV} (h : find p34 s = some v) : g34 (lay s t) = v := gs_lay (p := p34) h
theorem L35 {s : List (Path × AV)} {t : Tm} {v : AV} (h : find p35 s = some v) : g35 (lay s t) = v := gs_lay (p := p35) h
theorem L36 {s : List (Path × AV)} {t : Tm} {v : AV} (h : find p36 s = some v) : g36 (lay s t) = v := gs_lay (p := p36) h
theorem L37 {s : List (Path × AV)} {t : Tm} {v : AV} (h : find p37 s = some v) : g37 (lay s t) = v := gs_lay (p := p37) h
theorem L38 {s : List (Path × AV)} {t : Tm} {v : AV} (h : find p38 s = some v) : g38 (lay s t) = v := gs_lay (p := p38) h
theorem L39 {s : List (Path × AV)} {t : Tm} {v : AV} (h : find p39 s = some v) : g39 (lay s t) = v := gs_lay (p := p39) h

/-- the tables' value -/
abbrev tabS (id1 : Path) (off1 n1 : Nat) (cap1 : Option Nat) (z1 : Nat) (id2 : Path) (off2 n2 : Nat) (cap2 : Option Nat) (z2 : Nat) : AV := .agg [.sl id1 off1 n1 cap1 z1, .sl id2 off2 n2 cap2 z2]
variable {M : Mach} {h : AH} {id1 id2 : Path} {off1 off2 n1 n2 : Nat} {cap1 cap2 : Option Nat} {z1 z2 : Nat}
structure Fns (M : Mach) : Prop where
  s1 : M.sums 258 = none
  p1 : M.prog 258 = some c258
  s2 : M.sums 259 = none
  p2 : M.prog 259 = some c259
  s3 : M.sums 235 = none
  p3 : M.prog 235 = some c235
  s4 : M.sums 241 = none
  p4 : M.prog 241 = some c241
  s5 : M.sums 244 = none
  p5 : M.prog 244 = some c244

theorem made_cw (f : Fns M) (hn : n1 ≠ 0) : CW M 258 [tabS id1 off1 n1 cap1 z1 id2 off2 n2 cap2 z2] h fun v h' => v = tabS id1 off1 n1 cap1 z1 id2 off2 n2 cap2 z2 ∧ Grew h h' := by
  refine cw_enter f.s1 f.p1 ?_
  show WP M _ (lay [(p0, tabS id1 off1 n1 cap1 z1 id2 off2 n2 cap2 z2)] .l) h _
  refine wp_seq ?_
  refine wp_step (st_alloc (e_boxN (L0 rfl))) ?_
  refine wp_step (st_alloc e_alloc) ?_
  refine wp_nil ?_
  refine wp_seq ?_
  refine wp_seq ?_
  refine wp_step (st_pure (e_fld (L1 rfl))) ?_
  refine wp_step (st_read (e_load1 (L3 rfl) ((obj_new_ne _ _ (by rw [next_new]; omega)).trans (obj_new_self _ _)) rfl)) ?_
  refine wp_step (st_pure (e_len (L4 rfl))) ?_
  refine wp_step (st_pure (e_eqI (L5 rfl) (rfl : _ = AV.s (.int .i64 (0 : Int))))) ?_
  refine wp_nil ?_
  refine wp_if_f (L6 rfl) (by simpa using hn) ?_
  refine wp_skip ?_
  refine wp_seq ?_
  refine wp_step (st_read (e_loadN (L1 rfl) ((obj_new_ne _ _ (by rw [next_new]; omega)).trans (obj_new_self _ _)) (rfl : _ = [_, _]) (by simp))) ?_
  refine wp_step (st_eff_none (e_storeN (L2 rfl) (L8 rfl) (obj_new_self _ _) rfl (by omega) (by simp))) ?_
  refine wp_nil ?_
  refine wp_ret ?_
  exact ⟨_, res_cellN (L2 rfl) (obj_set_self _ _ _) (rfl : _ = [_, _]) (by simp [over]), rfl, (((Grew.refl h).new _).new _).set (Nat.le_succ _) _⟩
theorem log_cw (f : Fns M) (hn : n1 ≠ 0) {a la : Nat} {o2 : AO} {t2 : T SV} {m2 : Nat} (hid2 : ∀ j, h.next ≤ j → id2 ≠ tp j) (hi2 : T.get id2 h.g = some o2) (hl2 : o2.look = some (t2, m2))
    (hla : a % 1024 ≠ 0 → T.get (tp (off2 + a % 1024)) t2 = some (.int .i64 (la : Nat))) (hz : a % 1024 = 0 → la = 0) :
    CW M 259 [tabS id1 off1 n1 cap1 z1 id2 off2 1024 cap2 1, .s (.int .u16 (a : Nat))] h fun v h' => v = .tup [.s (.int .i64 (la : Nat)), .s (.bool (!(((a % 1024 : Nat) : Int) == 0)))] ∧ Grew h h' := by
  refine cw_enter f.s2 f.p2 ?_
  show WP M _ (lay [(p1, .s (.int .u16 (a : Nat))), (p0, tabS id1 off1 n1 cap1 z1 id2 off2 1024 cap2 1)] .l) h _
  have hlt : a % 1024 < 1024 := Nat.mod_lt _ (by omega)
  refine wp_seq ?_
  refine wp_step (st_alloc (e_boxN (L0 rfl))) ?_
  refine wp_step (st_pure (e_move (rfl : _ = AV.s (.int .i64 (0 : Int))))) ?_
  refine wp_step (st_pure (e_move (rfl : _ = AV.s (.bool false)))) ?_
  refine wp_nil ?_
  refine wp_seq ?_
  refine wp_step (st_pure (e_move (L1 rfl))) ?_
  refine wp_step (st_pure (e_remz (z := (a % 1024 : Nat)) (L6 rfl) (rfl : _ = AV.s (.int .u16 (1024 : Int))) (by decide) (by rfl))) ?_
  refine wp_step (st_pure (e_move (L7 rfl))) ?_
  refine wp_nil ?_
  refine wp_seq ?_
  refine wp_seq ?_
  refine wp_step (st_pure (e_move (L1 rfl))) ?_
  refine wp_step (st_pure (e_eqI (L8 rfl) (rfl : _ = AV.s (.int .u16 (0 : Int))))) ?_
  refine wp_nil ?_
  refine wp_if (L9 rfl) (fun hc => ?_) (fun hc => ?_)
  · have h0 : a % 1024 = 0 := by have hc : (((a % 1024 : Nat) : Int) == 0) = true := hc; simp at hc; omega
    rw [hz h0]
    refine wp_seq ?_
    refine wp_step (st_pure (e_move (rfl : _ = AV.s (.int .i64 (0 : Int))))) ?_
    refine wp_step (st_pure (e_move (rfl : _ = AV.s (.bool false)))) ?_
    refine wp_nil ?_
    refine wp_ret ?_
    exact ⟨_, res_tmp2 (L4 rfl) (L5 rfl) rfl rfl, by rw [show (((a % 1024 : Nat) : Int) == 0) = true from hc]; rfl, (Grew.refl h).new _⟩
  · have h0 : a % 1024 ≠ 0 := fun e => by have hc : (((a % 1024 : Nat) : Int) == 0) = false := hc; simp at hc; omega
    refine wp_skip ?_
    refine wp_seq ?_
    refine wp_step (st_read (e_loadN (L2 rfl) (obj_new_self _ _) (rfl : _ = [_, _]) (by simp))) ?_
    refine wp_call (args1 (L10 rfl) args0) ?_
    refine (made_cw f hn).mono ?_
    rintro v h2 ⟨rfl, hg⟩
    refine wp_step (st_pure (e_field1 (L11 rfl) rfl)) ?_
    refine wp_step (st_pure (e_move (L1 rfl))) ?_
    refine wp_step (st_pure (e_idxS (L12 rfl) (L13 rfl) (by omega))) ?_
    refine wp_step (st_read (e_load1o (L14 rfl) ((hg.1 _ fun j hj => hid2 j (Nat.le_of_succ_le hj)).trans ((get_put_other _ _ _ _ (hid2 _ (Nat.le_refl _))).trans hi2)) hl2 (by rw [Nat.mul_one]; exact hla h0))) ?_
    refine wp_step (st_pure (e_move (L15 rfl))) ?_
    refine wp_step (st_pure (e_move (rfl : _ = AV.s (.bool true)))) ?_
    refine wp_nil ?_
    refine wp_ret ?_
    exact ⟨_, res_tmp2 (L4 rfl) (L5 rfl) rfl rfl, by rw [show (((a % 1024 : Nat) : Int) == 0) = false from hc]; rfl, ((Grew.refl h).new _).trans hg⟩
theorem exp_cw (f : Fns M) {n : Nat} {z : Int} {o1 : AO} {t1 : T SV} {m1 : Nat} (hid1 : ∀ j, h.next ≤ j → id1 ≠ tp j) (hi1 : T.get id1 h.g = some o1) (hl1 : o1.look = some (t1, m1))
    (he : T.get (tp (off1 + n % 1023)) t1 = some (.int .u16 z)) :
    CW M 235 [tabS id1 off1 1023 cap1 1 id2 off2 n2 cap2 z2, .s (.int .i64 (n : Nat))] h fun v h' => v = .s (.int .u16 z) ∧ Grew h h' := by
  refine cw_enter f.s3 f.p3 ?_
  show WP M _ (lay [(p1, .s (.int .i64 (n : Nat))), (p0, tabS id1 off1 1023 cap1 1 id2 off2 n2 cap2 z2)] .l) h _
  have hlt : n % 1023 < 1023 := Nat.mod_lt _ (by omega)
  refine wp_seq ?_
  refine wp_step (st_alloc (e_boxN (L0 rfl))) ?_
  refine wp_step (st_pure (e_move (rfl : _ = AV.s (.int .u16 (0 : Int))))) ?_
  refine wp_nil ?_
  refine wp_seq ?_
  refine wp_step (st_read (e_loadN (L2 rfl) (obj_new_self _ _) (rfl : _ = [_, _]) (by simp))) ?_
  refine wp_call (args1 (L5 rfl) args0) ?_
  refine (made_cw f (by omega)).mono ?_
  rintro v h2 ⟨rfl, hg⟩
  refine wp_step (st_pure (e_field1 (L6 rfl) rfl)) ?_
  refine wp_step (st_pure (e_move (L1 rfl))) ?_
  refine wp_step (st_pure (e_remz (z := (n % 1023 : Nat)) (L8 rfl) (rfl : _ = AV.s (.int .i64 (1023 : Int))) (by decide) (by rfl))) ?_
  refine wp_step (st_pure (e_add64 (z := (n % 1023 + 1023 : Nat)) (L9 rfl) (rfl : _ = AV.s (.int .i64 (1023 : Int))) (by rfl) ⟨by omega, by omega⟩)) ?_
  refine wp_step (st_pure (e_remz (z := (n % 1023 : Nat)) (L10 rfl) (rfl : _ = AV.s (.int .i64 (1023 : Int))) (by decide) (by show ((((n % 1023 + 1023) % 1023 : Nat)) : Int) = _; rw [show (n % 1023 + 1023) % 1023 = n % 1023 by omega]))) ?_
  refine wp_step (st_pure (e_idxS (L7 rfl) (L11 rfl) (by omega))) ?_
  refine wp_step (st_read (e_load1o (L12 rfl) ((hg.1 _ fun j hj => hid1 j (Nat.le_of_succ_le hj)).trans ((get_put_other _ _ _ _ (hid1 _ (Nat.le_refl _))).trans hi1)) hl1 (by rw [Nat.mul_one]; exact he))) ?_
  refine wp_step (st_pure (e_move (L13 rfl))) ?_
  refine wp_nil ?_
  refine wp_ret ?_
  exact ⟨_, res_one (L4 rfl), rfl, ((Grew.refl h).new _).trans hg⟩
theorem add_cw (f : Fns M) {a b : Nat} (ha : a < lim .u16) (hb : b < lim .u16) : CW M 244 [.s (.int .u16 (a : Nat)), .s (.int .u16 (b : Nat))] h fun v h' => v = .s (.int .u16 ((Nat.xor a b) % 1024 : Nat)) ∧ h = h' := by
  have hx : Nat.xor a b < lim .u16 := Nat.xor_lt_two_pow (n := 16) ha hb
  refine cw_enter f.s5 f.p5 ?_
  show WP M _ (lay [(p1, .s (.int .u16 (b : Nat))), (p0, .s (.int .u16 (a : Nat)))] .l) h _
  refine wp_seq ?_
  refine wp_step (st_pure (e_move (rfl : _ = AV.s (.int .u16 (0 : Int))))) ?_
  refine wp_nil ?_
  refine wp_seq ?_
  refine wp_step (st_pure (e_move (L0 rfl))) ?_
  refine wp_step (st_pure (e_move (L1 rfl))) ?_
  refine wp_step (st_pure ((e_bits (L5 rfl) (L6 rfl) ha hb hx))) ?_
  refine wp_step (st_pure (e_remz (z := ((Nat.xor a b) % 1024 : Nat)) (L7 rfl) (rfl : _ = AV.s (.int .u16 (1024 : Int))) (by decide) (by rfl))) ?_
  refine wp_step (st_pure (e_move (L8 rfl))) ?_
  refine wp_nil ?_
  refine wp_ret ?_
  exact ⟨_, res_one (L4 rfl), rfl, rfl⟩
theorem mul_a0 (f : Fns M) {a b la lb : Nat} {z : Int} {o1 o2 : AO} {t1 t2 : T SV} {m1 m2 : Nat} (hid1 : ∀ j, h.next ≤ j → id1 ≠ tp j) (hi1 : T.get id1 h.g = some o1) (hl1 : o1.look = some (t1, m1)) (hid2 : ∀ j, h.next ≤ j → id2 ≠ tp j) (hi2 : T.get id2 h.g = some o2) (hl2 : o2.look = some (t2, m2))
    (hla : a % 1024 ≠ 0 → T.get (tp (off2 + a % 1024)) t2 = some (.int .i64 (la : Nat))) (hza : a % 1024 = 0 → la = 0) (hlb : b % 1024 ≠ 0 → T.get (tp (off2 + b % 1024)) t2 = some (.int .i64 (lb : Nat))) (hzb : b % 1024 = 0 → lb = 0)
    (hsa : la < 4000) (hsb : lb < 4000) (he : a % 1024 ≠ 0 → b % 1024 ≠ 0 → T.get (tp (off1 + (la + lb) % 1023)) t1 = some (.int .u16 z)) (ha0 : a % 1024 = 0) :
    CW M 241 [tabS id1 off1 1023 cap1 1 id2 off2 1024 cap2 1, .s (.int .u16 (a : Nat)), .s (.int .u16 (b : Nat))] h fun v h' => v = .s (.int .u16 0) ∧ Grew h h' := by
  refine cw_enter f.s4 f.p4 ?_
  show WP M _ (lay [(p2, .s (.int .u16 (b : Nat))), (p1, .s (.int .u16 (a : Nat))), (p0, tabS id1 off1 1023 cap1 1 id2 off2 1024 cap2 1)] .l) h _
  refine wp_seq ?_
  refine wp_step (st_alloc (e_boxN (L0 rfl))) ?_
  refine wp_step (st_pure (e_move (rfl : _ = AV.s (.int .u16 (0 : Int))))) ?_
  refine wp_nil ?_
  refine wp_seq ?_
  refine wp_step (st_read (e_loadN (L3 rfl) (obj_new_self _ _) (rfl : _ = [_, _]) (by simp))) ?_
  refine wp_call (args1 (L11 rfl) args0) ?_
  refine (made_cw f (by omega)).mono ?_
  rintro v h1 ⟨rfl, hg1⟩
  have ob1 := (hg1.obj (i := h.next) (Nat.lt_succ_self _)).trans (obj_new_self _ _)
  have hn1 : h.next + 1 ≤ h1.next := hg1.next
  refine wp_step (st_eff_none (e_storeN (L3 rfl) (L12 rfl) ob1 rfl (by omega) (by simp))) ?_
  refine wp_nil ?_
  refine wp_seq ?_
  refine wp_step (st_read (e_loadN (L3 rfl) (obj_set_self _ _ _) (rfl : _ = [_, _]) (by simp [over]))) ?_
  refine wp_step (st_pure (e_move (L1 rfl))) ?_
  refine wp_call (args1 (L14 rfl) (args1 (L15 rfl) args0)) ?_
  have hg2 : Grew h (h1.set h.next (some (mk (over [SV.sl id1 off1 1023 cap1 1, SV.sl id2 off2 1024 cap2 1] 0 [SV.sl id1 off1 1023 cap1 1, SV.sl id2 off2 1024 cap2 1])))) := (((Grew.refl h).new _).trans hg1).set (Nat.le_refl _) _
  refine (log_cw f (by omega) (la := la) (fun j hj => hid2 j (Nat.le_trans hg2.next hj)) ((hg2.1 _ fun j hj => hid2 j hj).trans hi2) hl2 hla hza).mono ?_
  rintro v h2 ⟨rfl, hg3⟩
  have ob2 := (hg3.obj (i := h.next) (by show h.next < h1.next; omega)).trans (obj_set_self _ _ _)
  have hg4 := hg2.trans hg3
  have hn2 := hg4.next
  refine wp_step (st_pure (e_move (L16 rfl))) ?_
  refine wp_step (st_pure (e_extract (L13 rfl) rfl)) ?_
  refine wp_step (st_pure (e_extract (L13 rfl) rfl)) ?_
  refine wp_step (st_pure (e_move (L17 rfl))) ?_
  refine wp_step (st_pure (e_move (L18 rfl))) ?_
  refine wp_nil ?_
  refine wp_seq ?_
  refine wp_step (st_read (e_loadN (L3 rfl) ob2 (rfl : _ = [_, _]) (by simp [over]))) ?_
  refine wp_step (st_pure (e_move (L2 rfl))) ?_
  refine wp_call (args1 (L20 rfl) (args1 (L21 rfl) args0)) ?_
  refine (log_cw f (by omega) (la := lb) (fun j hj => hid2 j (Nat.le_trans hg4.next hj)) ((hg4.1 _ fun j hj => hid2 j hj).trans hi2) hl2 hlb hzb).mono ?_
  rintro v h3 ⟨rfl, hg5⟩
  have hlt : h.next < h2.next := Nat.lt_of_lt_of_le (show h.next < h1.next by omega) hg3.next
  have ob3 := (hg5.obj hlt).trans ob2
  have hg6 := hg4.trans hg5
  refine wp_step (st_pure (e_move (L22 rfl))) ?_
  refine wp_step (st_pure (e_extract (L19 rfl) rfl)) ?_
  refine wp_step (st_pure (e_extract (L19 rfl) rfl)) ?_
  refine wp_step (st_pure (e_move (L23 rfl))) ?_
  refine wp_step (st_pure (e_move (L24 rfl))) ?_
  refine wp_nil ?_
  refine wp_seq ?_
  refine wp_seq ?_
  refine wp_step (st_pure (e_move (L8 rfl))) ?_
  refine wp_step (st_pure (e_not (L25 rfl))) ?_
  refine wp_step (st_pure (e_move (L26 rfl))) ?_
  refine wp_no (gs_lay (p := p27) rfl) (by rw [show (((a % 1024 : Nat) : Int) == 0) = true by simp; omega]; decide) rfl ?_
  refine wp_no (gs_lay (p := p27) rfl) (by rw [show (((a % 1024 : Nat) : Int) == 0) = true by simp; omega]; decide) rfl ?_
  refine wp_step (st_pure (e_pick_t (L27 rfl) (by rw [show (((a % 1024 : Nat) : Int) == 0) = true by simp; omega]; rfl) (rfl : _ = AV.s (.bool true)))) ?_
  refine wp_nil ?_
  refine wp_if_t (L30 rfl) (by rfl) ?_
  refine wp_seq ?_
  refine wp_step (st_pure (e_move (rfl : _ = AV.s (.int .u16 (0 : Int))))) ?_
  refine wp_nil ?_
  refine wp_ret ?_
  exact ⟨_, res_one (L6 rfl), rfl, hg6⟩
theorem mul_b0 (f : Fns M) {a b la lb : Nat} {z : Int} {o1 o2 : AO} {t1 t2 : T SV} {m1 m2 : Nat} (hid1 : ∀ j, h.next ≤ j → id1 ≠ tp j) (hi1 : T.get id1 h.g = some o1) (hl1 : o1.look = some (t1, m1)) (hid2 : ∀ j, h.next ≤ j → id2 ≠ tp j) (hi2 : T.get id2 h.g = some o2) (hl2 : o2.look = some (t2, m2))
    (hla : a % 1024 ≠ 0 → T.get (tp (off2 + a % 1024)) t2 = some (.int .i64 (la : Nat))) (hza : a % 1024 = 0 → la = 0) (hlb : b % 1024 ≠ 0 → T.get (tp (off2 + b % 1024)) t2 = some (.int .i64 (lb : Nat))) (hzb : b % 1024 = 0 → lb = 0)
    (hsa : la < 4000) (hsb : lb < 4000) (he : a % 1024 ≠ 0 → b % 1024 ≠ 0 → T.get (tp (off1 + (la + lb) % 1023)) t1 = some (.int .u16 z)) (ha0 : a % 1024 ≠ 0) (hb0 : b % 1024 = 0) :
    CW M 241 [tabS id1 off1 1023 cap1 1 id2 off2 1024 cap2 1, .s (.int .u16 (a : Nat)), .s (.int .u16 (b : Nat))] h fun v h' => v = .s (.int .u16 0) ∧ Grew h h' := by
  refine cw_enter f.s4 f.p4 ?_
  show WP M _ (lay [(p2, .s (.int .u16 (b : Nat))), (p1, .s (.int .u16 (a : Nat))), (p0, tabS id1 off1 1023 cap1 1 id2 off2 1024 cap2 1)] .l) h _
  refine wp_seq ?_
  refine wp_step (st_alloc (e_boxN (L0 rfl))) ?_
  refine wp_step (st_pure (e_move (rfl : _ = AV.s (.int .u16 (0 : Int))))) ?_
  refine wp_nil ?_
  refine wp_seq ?_
  refine wp_step (st_read (e_loadN (L3 rfl) (obj_new_self _ _) (rfl : _ = [_, _]) (by simp))) ?_
  refine wp_call (args1 (L11 rfl) args0) ?_
  refine (made_cw f (by omega)).mono ?_
  rintro v h1 ⟨rfl, hg1⟩
  have ob1 := (hg1.obj (i := h.next) (Nat.lt_succ_self _)).trans (obj_new_self _ _)
  have hn1 : h.next + 1 ≤ h1.next := hg1.next
  refine wp_step (st_eff_none (e_storeN (L3 rfl) (L12 rfl) ob1 rfl (by omega) (by simp))) ?_
  refine wp_nil ?_
  refine wp_seq ?_
  refine wp_step (st_read (e_loadN (L3 rfl) (obj_set_self _ _ _) (rfl : _ = [_, _]) (by simp [over]))) ?_
  refine wp_step (st_pure (e_move (L1 rfl))) ?_
  refine wp_call (args1 (L14 rfl) (args1 (L15 rfl) args0)) ?_
  have hg2 : Grew h (h1.set h.next (some (mk (over [SV.sl id1 off1 1023 cap1 1, SV.sl id2 off2 1024 cap2 1] 0 [SV.sl id1 off1 1023 cap1 1, SV.sl id2 off2 1024 cap2 1])))) := (((Grew.refl h).new _).trans hg1).set (Nat.le_refl _) _
  refine (log_cw f (by omega) (la := la) (fun j hj => hid2 j (Nat.le_trans hg2.next hj)) ((hg2.1 _ fun j hj => hid2 j hj).trans hi2) hl2 hla hza).mono ?_
  rintro v h2 ⟨rfl, hg3⟩
  have ob2 := (hg3.obj (i := h.next) (by show h.next < h1.next; omega)).trans (obj_set_self _ _ _)
  have hg4 := hg2.trans hg3
  have hn2 := hg4.next
  refine wp_step (st_pure (e_move (L16 rfl))) ?_
  refine wp_step (st_pure (e_extract (L13 rfl) rfl)) ?_
  refine wp_step (st_pure (e_extract (L13 rfl) rfl)) ?_
  refine wp_step (st_pure (e_move (L17 rfl))) ?_
  refine wp_step (st_pure (e_move (L18 rfl))) ?_
  refine wp_nil ?_
  refine wp_seq ?_
  refine wp_step (st_read (e_loadN (L3 rfl) ob2 (rfl : _ = [_, _]) (by simp [over]))) ?_
  refine wp_step (st_pure (e_move (L2 rfl))) ?_
  refine wp_call (args1 (L20 rfl) (args1 (L21 rfl) args0)) ?_
  refine (log_cw f (by omega) (la := lb) (fun j hj => hid2 j (Nat.le_trans hg4.next hj)) ((hg4.1 _ fun j hj => hid2 j hj).trans hi2) hl2 hlb hzb).mono ?_
  rintro v h3 ⟨rfl, hg5⟩
  have hlt : h.next < h2.next := Nat.lt_of_lt_of_le (show h.next < h1.next by omega) hg3.next
  have ob3 := (hg5.obj hlt).trans ob2
  have hg6 := hg4.trans hg5
  refine wp_step (st_pure (e_move (L22 rfl))) ?_
  refine wp_step (st_pure (e_extract (L19 rfl) rfl)) ?_
  refine wp_step (st_pure (e_extract (L19 rfl) rfl)) ?_
  refine wp_step (st_pure (e_move (L23 rfl))) ?_
  refine wp_step (st_pure (e_move (L24 rfl))) ?_
  refine wp_nil ?_
  refine wp_seq ?_
  refine wp_seq ?_
  refine wp_step (st_pure (e_move (L8 rfl))) ?_
  refine wp_step (st_pure (e_not (L25 rfl))) ?_
  refine wp_step (st_pure (e_move (L26 rfl))) ?_
  refine wp_yes (gs_lay (p := p27) rfl) (by rw [show (((a % 1024 : Nat) : Int) == 0) = false by simp; omega]; rfl) (st_pure (e_move (L10 rfl))) ?_
  refine wp_yes (gs_lay (p := p27) rfl) (by rw [show (((a % 1024 : Nat) : Int) == 0) = false by simp; omega]; rfl) (st_pure (e_not (L28 rfl))) ?_
  refine wp_step (st_pure (e_pick_f (L27 rfl) (by rw [show (((a % 1024 : Nat) : Int) == 0) = false by simp; omega]; rfl) (L29 rfl))) ?_
  refine wp_nil ?_
  refine wp_if_t (L30 rfl) (by rw [show (((b % 1024 : Nat) : Int) == 0) = true by simp; omega]; rfl) ?_
  refine wp_seq ?_
  refine wp_step (st_pure (e_move (rfl : _ = AV.s (.int .u16 (0 : Int))))) ?_
  refine wp_nil ?_
  refine wp_ret ?_
  exact ⟨_, res_one (L6 rfl), rfl, hg6⟩
theorem mul_n (f : Fns M) {a b la lb : Nat} {z : Int} {o1 o2 : AO} {t1 t2 : T SV} {m1 m2 : Nat} (hid1 : ∀ j, h.next ≤ j → id1 ≠ tp j) (hi1 : T.get id1 h.g = some o1) (hl1 : o1.look = some (t1, m1)) (hid2 : ∀ j, h.next ≤ j → id2 ≠ tp j) (hi2 : T.get id2 h.g = some o2) (hl2 : o2.look = some (t2, m2))
    (hla : a % 1024 ≠ 0 → T.get (tp (off2 + a % 1024)) t2 = some (.int .i64 (la : Nat))) (hza : a % 1024 = 0 → la = 0) (hlb : b % 1024 ≠ 0 → T.get (tp (off2 + b % 1024)) t2 = some (.int .i64 (lb : Nat))) (hzb : b % 1024 = 0 → lb = 0)
    (hsa : la < 4000) (hsb : lb < 4000) (he : a % 1024 ≠ 0 → b % 1024 ≠ 0 → T.get (tp (off1 + (la + lb) % 1023)) t1 = some (.int .u16 z)) (ha0 : a % 1024 ≠ 0) (hb0 : b % 1024 ≠ 0) :
    CW M 241 [tabS id1 off1 1023 cap1 1 id2 off2 1024 cap2 1, .s (.int .u16 (a : Nat)), .s (.int .u16 (b : Nat))] h fun v h' => v = .s (.int .u16 z) ∧ Grew h h' := by
  refine cw_enter f.s4 f.p4 ?_
  show WP M _ (lay [(p2, .s (.int .u16 (b : Nat))), (p1, .s (.int .u16 (a : Nat))), (p0, tabS id1 off1 1023 cap1 1 id2 off2 1024 cap2 1)] .l) h _
  refine wp_seq ?_
  refine wp_step (st_alloc (e_boxN (L0 rfl))) ?_
  refine wp_step (st_pure (e_move (rfl : _ = AV.s (.int .u16 (0 : Int))))) ?_
  refine wp_nil ?_
  refine wp_seq ?_
  refine wp_step (st_read (e_loadN (L3 rfl) (obj_new_self _ _) (rfl : _ = [_, _]) (by simp))) ?_
  refine wp_call (args1 (L11 rfl) args0) ?_
  refine (made_cw f (by omega)).mono ?_
  rintro v h1 ⟨rfl, hg1⟩
  have ob1 := (hg1.obj (i := h.next) (Nat.lt_succ_self _)).trans (obj_new_self _ _)
  have hn1 : h.next + 1 ≤ h1.next := hg1.next
  refine wp_step (st_eff_none (e_storeN (L3 rfl) (L12 rfl) ob1 rfl (by omega) (by simp))) ?_
  refine wp_nil ?_
  refine wp_seq ?_
  refine wp_step (st_read (e_loadN (L3 rfl) (obj_set_self _ _ _) (rfl : _ = [_, _]) (by simp [over]))) ?_
  refine wp_step (st_pure (e_move (L1 rfl))) ?_
  refine wp_call (args1 (L14 rfl) (args1 (L15 rfl) args0)) ?_
  have hg2 : Grew h (h1.set h.next (some (mk (over [SV.sl id1 off1 1023 cap1 1, SV.sl id2 off2 1024 cap2 1] 0 [SV.sl id1 off1 1023 cap1 1, SV.sl id2 off2 1024 cap2 1])))) := (((Grew.refl h).new _).trans hg1).set (Nat.le_refl _) _
  refine (log_cw f (by omega) (la := la) (fun j hj => hid2 j (Nat.le_trans hg2.next hj)) ((hg2.1 _ fun j hj => hid2 j hj).trans hi2) hl2 hla hza).mono ?_
  rintro v h2 ⟨rfl, hg3⟩
  have ob2 := (hg3.obj (i := h.next) (by show h.next < h1.next; omega)).trans (obj_set_self _ _ _)
  have hg4 := hg2.trans hg3
  have hn2 := hg4.next
  refine wp_step (st_pure (e_move (L16 rfl))) ?_
  refine wp_step (st_pure (e_extract (L13 rfl) rfl)) ?_
  refine wp_step (st_pure (e_extract (L13 rfl) rfl)) ?_
  refine wp_step (st_pure (e_move (L17 rfl))) ?_
  refine wp_step (st_pure (e_move (L18 rfl))) ?_
  refine wp_nil ?_
  refine wp_seq ?_
  refine wp_step (st_read (e_loadN (L3 rfl) ob2 (rfl : _ = [_, _]) (by simp [over]))) ?_
  refine wp_step (st_pure (e_move (L2 rfl))) ?_
  refine wp_call (args1 (L20 rfl) (args1 (L21 rfl) args0)) ?_
  refine (log_cw f (by omega) (la := lb) (fun j hj => hid2 j (Nat.le_trans hg4.next hj)) ((hg4.1 _ fun j hj => hid2 j hj).trans hi2) hl2 hlb hzb).mono ?_
  rintro v h3 ⟨rfl, hg5⟩
  have hlt : h.next < h2.next := Nat.lt_of_lt_of_le (show h.next < h1.next by omega) hg3.next
  have ob3 := (hg5.obj hlt).trans ob2
  have hg6 := hg4.trans hg5
  refine wp_step (st_pure (e_move (L22 rfl))) ?_
  refine wp_step (st_pure (e_extract (L19 rfl) rfl)) ?_
  refine wp_step (st_pure (e_extract (L19 rfl) rfl)) ?_
  refine wp_step (st_pure (e_move (L23 rfl))) ?_
  refine wp_step (st_pure (e_move (L24 rfl))) ?_
  refine wp_nil ?_
  refine wp_seq ?_
  refine wp_seq ?_
  refine wp_step (st_pure (e_move (L8 rfl))) ?_
  refine wp_step (st_pure (e_not (L25 rfl))) ?_
  refine wp_step (st_pure (e_move (L26 rfl))) ?_
  refine wp_yes (gs_lay (p := p27) rfl) (by rw [show (((a % 1024 : Nat) : Int) == 0) = false by simp; omega]; rfl) (st_pure (e_move (L10 rfl))) ?_
  refine wp_yes (gs_lay (p := p27) rfl) (by rw [show (((a % 1024 : Nat) : Int) == 0) = false by simp; omega]; rfl) (st_pure (e_not (L28 rfl))) ?_
  refine wp_step (st_pure (e_pick_f (L27 rfl) (by rw [show (((a % 1024 : Nat) : Int) == 0) = false by simp; omega]; rfl) (L29 rfl))) ?_
  refine wp_nil ?_
  refine wp_if_f (L30 rfl) (by rw [show (((b % 1024 : Nat) : Int) == 0) = false by simp; omega]; rfl) ?_
  refine wp_skip ?_
  refine wp_seq ?_
  refine wp_step (st_read (e_loadN (L3 rfl) ob3 (rfl : _ = [_, _]) (by simp [over]))) ?_
  refine wp_step (st_pure (e_move (L7 rfl))) ?_
  refine wp_step (st_pure (e_move (L9 rfl))) ?_
  refine wp_step (st_pure (e_add64 (z := (la + lb : Nat)) (L32 rfl) (L33 rfl) (by rfl) ⟨by omega, by omega⟩)) ?_
  refine wp_call (args1 (L31 rfl) (args1 (L34 rfl) args0)) ?_
  refine (exp_cw f (n := la + lb) (fun j hj => hid1 j (Nat.le_trans hg6.next hj)) ((hg6.1 _ fun j hj => hid1 j hj).trans hi1) hl1 (he ha0 hb0)).mono ?_
  rintro v h4 ⟨rfl, hg7⟩
  refine wp_step (st_pure (e_move (L35 rfl))) ?_
  refine wp_nil ?_
  refine wp_ret ?_
  exact ⟨_, res_one (L6 rfl), rfl, hg6.trans hg7⟩
theorem mul_cw (f : Fns M) {a b la lb : Nat} {z : Int} {o1 o2 : AO} {t1 t2 : T SV} {m1 m2 : Nat} (hid1 : ∀ j, h.next ≤ j → id1 ≠ tp j) (hi1 : T.get id1 h.g = some o1) (hl1 : o1.look = some (t1, m1)) (hid2 : ∀ j, h.next ≤ j → id2 ≠ tp j) (hi2 : T.get id2 h.g = some o2) (hl2 : o2.look = some (t2, m2))
    (hla : a % 1024 ≠ 0 → T.get (tp (off2 + a % 1024)) t2 = some (.int .i64 (la : Nat))) (hza : a % 1024 = 0 → la = 0) (hlb : b % 1024 ≠ 0 → T.get (tp (off2 + b % 1024)) t2 = some (.int .i64 (lb : Nat))) (hzb : b % 1024 = 0 → lb = 0)
    (hsa : la < 4000) (hsb : lb < 4000) (he : a % 1024 ≠ 0 → b % 1024 ≠ 0 → T.get (tp (off1 + (la + lb) % 1023)) t1 = some (.int .u16 z)) :
    CW M 241 [tabS id1 off1 1023 cap1 1 id2 off2 1024 cap2 1, .s (.int .u16 (a : Nat)), .s (.int .u16 (b : Nat))] h fun v h' => v = .s (.int .u16 (if a % 1024 = 0 ∨ b % 1024 = 0 then 0 else z)) ∧ Grew h h' := by
  by_cases ha0 : a % 1024 = 0
  · rw [if_pos (.inl ha0)]; exact mul_a0 f hid1 hi1 hl1 hid2 hi2 hl2 hla hza hlb hzb hsa hsb he ha0
  · by_cases hb0 : b % 1024 = 0
    · rw [if_pos (.inr hb0)]; exact mul_b0 f hid1 hi1 hl1 hid2 hi2 hl2 hla hza hlb hzb hsa hsb he ha0 hb0
    · rw [if_neg (by omega)]; exact mul_n f hid1 hi1 hl1 hid2 hi2 hl2 hla hza hlb hzb hsa hsb he ha0 hb0
end Go.Bb.Fld
