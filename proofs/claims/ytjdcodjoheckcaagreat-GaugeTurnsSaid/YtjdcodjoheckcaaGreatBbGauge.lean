/-
  Gauge: what Mean and Turn come to, and the laws over them, in the abstract machine.
-/
import Derived.Test.YtjdcodjoheckcaaGreatBbFlt
import Derived.Test.YtjdcodjoheckcaaGreatBbArg
import Derived.Test.YtjdcodjoheckcaaGreatBbCode1
set_option maxRecDepth 100000
set_option linter.unusedVariables false
namespace Go.Bb.Gauge
open Go.Bb Go.Bb.Tryzc

def sumOf : List (Int × Int) → Int × Int
  | [] => (0, 0)
  | q :: l => (q.1 + (sumOf l).1, q.2 + (sumOf l).2)
theorem sumOf_append : ∀ (a b : List (Int × Int)), sumOf (a ++ b) = ((sumOf a).1 + (sumOf b).1, (sumOf a).2 + (sumOf b).2)
  | [], b => by simp [sumOf]
  | q :: a, b => by simp [sumOf, sumOf_append a b, Int.add_assoc]
theorem sumOf_succ {pts : List (Int × Int)} {j : Nat} (hj : j < pts.length) : sumOf (pts.take (j + 1)) = ((sumOf (pts.take j)).1 + pts[j].1, (sumOf (pts.take j)).2 + pts[j].2) := by
  rw [List.take_succ_eq_append_getElem hj, sumOf_append]; simp [sumOf]
def Small (q : Int × Int) : Prop := -40000 ≤ q.1 ∧ q.1 ≤ 40000 ∧ -40000 ≤ q.2 ∧ q.2 ≤ 40000
def Bd (pts : List (Int × Int)) : Prop := pts.length ≤ 300 ∧ ∀ q ∈ pts, Small q
theorem sum_bd : ∀ {pts : List (Int × Int)}, (∀ q ∈ pts, Small q) → -40000 * (pts.length : Int) ≤ (sumOf pts).1 ∧ (sumOf pts).1 ≤ 40000 * (pts.length : Int) ∧ -40000 * (pts.length : Int) ≤ (sumOf pts).2 ∧ (sumOf pts).2 ≤ 40000 * (pts.length : Int)
  | [], _ => by simp [sumOf]
  | q :: l, h => by
    have h1 := sum_bd (pts := l) fun q hq => h q (by simp [hq])
    obtain ⟨h2, h3, h4, h5⟩ := h q (by simp)
    simp only [sumOf, List.length_cons]
    omega
theorem take_bd {pts : List (Int × Int)} (hb : Bd pts) (j : Nat) : -12000000 ≤ (sumOf (pts.take j)).1 ∧ (sumOf (pts.take j)).1 ≤ 12000000 ∧ -12000000 ≤ (sumOf (pts.take j)).2 ∧ (sumOf (pts.take j)).2 ≤ 12000000 := by
  have := sum_bd (pts := pts.take j) fun q hq => hb.2 q (List.mem_of_mem_take hq)
  have h2 := hb.1
  rw [List.length_take] at this
  omega
def pcs (pts : List (Int × Int)) : List SV := pts.map fun q => .cpx (fl q.1) (fl q.2)
theorem get_pts {pts : List (Int × Int)} {j : Nat} (hj : j < pts.length) : (pcs pts)[0 + j * 1]? = some (.cpx (fl pts[j].1) (fl pts[j].2)) := by
  unfold pcs; simp [hj]
theorem pt_small {pts : List (Int × Int)} (hb : Bd pts) {j : Nat} (hj : j < pts.length) : Small pts[j] := hb.2 _ (List.getElem_mem hj)
theorem abs_lt {z : Int} (h : -12000000 ≤ z) (h' : z ≤ 12000000) : z.natAbs < 2 ^ 53 := by omega
theorem is_small {z : Int} (h : -12000000 ≤ z) (h' : z ≤ 12000000) : Is (fl z) z 0 := is_dy (abs_lt h h') (by omega) (by omega)
/-- a sum of whole numbers -/
theorem add_fl {a b : Int} {y : Nat} (h1 : -12000000 ≤ a) (h2 : a ≤ 12000000) (hy : Is y b 0) (h3 : -12000000 ≤ a + b) (h4 : a + b ≤ 12000000) : arithF .add (fl a) y = some (fl (a + b)) :=
  add_is rfl (abs_lt h1 h2) hy (abs_lt h3 h4) (by omega) (by omega)

noncomputable def mean (pts : List (Int × Int)) : Nat × Nat := match pts with
  | [] => (0, 0)
  | _ => ((arithF .quo (fl (sumOf pts).1) (fl pts.length)).getD 0, (arithF .quo (fl (sumOf pts).2) (fl pts.length)).getD 0)
theorem mean_some {pts : List (Int × Int)} (h : pts ≠ []) (hb : Bd pts) : arithF .quo (fl (sumOf pts).1) (fl pts.length) = some (mean pts).1 ∧ arithF .quo (fl (sumOf pts).2) (fl pts.length) = some (mean pts).2 := by
  have hs := take_bd hb pts.length
  rw [List.take_length] at hs
  have hn : (pts.length : Int) ≠ 0 := by
    intro e; exact h (List.eq_nil_of_length_eq_zero (by omega))
  have hl := hb.1
  obtain ⟨s1, m1, e1, q1⟩ := div_near (is_small hs.1 hs.2.1) (is_small (z := pts.length) (by omega) (by omega)) hn
  obtain ⟨s2, m2, e2, q2⟩ := div_near (is_small hs.2.2.1 hs.2.2.2) (is_small (z := pts.length) (by omega) (by omega)) hn
  cases pts with
  | nil => exact absurd rfl h
  | cons q l => simp only [mean]; exact ⟨by rw [q1]; rfl, by rw [q2]; rfl⟩

theorem L0 {s : List (Path × AV)} {t : Tm} {v : AV} (h : find p0 s = some v) : g0 (lay s t) = v := gs_lay (p := p0) h
theorem L1 {s : List (Path × AV)} {t : Tm} {v : AV} (h : find p1 s = some v) : g1 (lay s t) = v := gs_lay (p := p1) h
theorem L2 {s : List (Path × AV)} {t : Tm} {v : AV} (h : find p2 s = some v) : g2 (lay s t) = v := gs_lay (p := p2) h
theorem L3 {s : List (Path × AV)} {t : Tm} {v : AV} (h : find p3 s = some v) : g3 (lay s t) = v := gs_lay (p := p3) h
theorem L4 {s : List (Path × AV)} {t : Tm} {v : AV} (h : find p4 s = some v) : g4 (lay s t) = v := gs_lay (p := p4) h
theorem L5 {s : List (Path × AV)} {t : Tm} {v : AV} (h : find p5 s = some v) : g5 (lay s t) = v := gs_lay (p := p5) h
theorem L6 {s : List (Path × AV)} {t : Tm} {v : AV} (h : find p6 s = some v) : g6 (lay s t) = v := gs_lay (p := p6) h
theorem L7 {s : List (Path × AV)} {t : Tm} {v : AV} (h : find p7 s = some v) : g7 (lay s t) = v := gs_lay (p := p7) h
theorem L8 {s : List (Path × AV)} {t : Tm} {v : AV} (h : find p8 s = some v) : g8 (lay s t) = v := gs_lay (p := p8) h
theorem L9 {s : List (Path × AV)} {t : Tm} {v : AV} (h : find p9 s = some v) : g9 (lay s t) = v := gs_lay (p := p9) h
theorem L10 {s : List (Path × AV)} {t : Tm} {v : AV} (h : find p10 s = some v) : g10 (lay s t) = v := gs_lay (p := p10) h
theorem L11 {s : List (Path × AV)} {t : Tm} {v : AV} (h : find p11 s = some v) : g11 (lay s t) = v := gs_lay (p := p11) h
theorem L12 {s : List (Path × AV)} {t : Tm} {v : AV} (h : find p12 s = some v) : g12 (lay s t) = v := gs_lay (p := p12) h
theorem L13 {s : List (Path × AV)} {t : Tm} {v : AV} (h : find p13 s = some v) : g13 (lay s t) = v := gs_lay (p := p13) h
theorem L14 {s : List (Path × AV)} {t : Tm} {v : AV} (h : find p14 s = some v) : g14 (lay s t) = v := gs_lay (p := p14) h
theorem L15 {s : List (Path × AV)} {t : Tm} {v : AV} (h : find p15 s = some v) : g15 (lay s t) = v := gs_lay (p := p15) h
theorem L16 {s : List (Path × AV)} {t : Tm} {v : AV} (h : find p16 s = some v) : g16 (lay s t) = v := gs_lay (p := p16) h
theorem L17 {s : List (Path × AV)} {t : Tm} {v : AV} (h : find p17 s = some v) : g17 (lay s t) = v := gs_lay (p := p17) h
theorem L18 {s : List (Path × AV)} {t : Tm} {v : AV} (h : find p18 s = some v) : g18 (lay s t) = v := gs_lay (p := p18) h
theorem L19 {s : List (Path × AV)} {t : Tm} {v : AV} (h : find p19 s = some v) : g19 (lay s t) = v := gs_lay (p := p19) h
theorem L20 {s : List (Path × AV)} {t : Tm} {v : AV} (h : find p20 s = some v) : g20 (lay s t) = v := gs_lay (p := p20) h
theorem L21 {s : List (Path × AV)} {t : Tm} {v : AV} (h : find p21 s = some v) : g21 (lay s t) = v := gs_lay (p := p21) h
theorem L22 {s : List (Path × AV)} {t : Tm} {v : AV} (h : find p22 s = some v) : g22 (lay s t) = v := gs_lay (p := p22) h
theorem L23 {s : List (Path × AV)} {t : Tm} {v : AV} (h : find p23 s = some v) : g23 (lay s t) = v := gs_lay (p := p23) h
theorem L24 {s : List (Path × AV)} {t : Tm} {v : AV} (h : find p24 s = some v) : g24 (lay s t) = v := gs_lay (p := p24) h
theorem L25 {s : List (Path × AV)} {t : Tm} {v : AV} (h : find p25 s = some v) : g25 (lay s t) = v := gs_lay (p := p25) h
theorem L26 {s : List (Path × AV)} {t : Tm} {v : AV} (h : find p26 s = some v) : g26 (lay s t) = v := gs_lay (p := p26) h
theorem L27 {s : List (Path × AV)} {t : Tm} {v : AV} (h : find p27 s = some v) : g27 (lay s t) = v := gs_lay (p := p27) h
theorem L28 {s : List (Path × AV)} {t : Tm} {v : AV} (h : find p28 s = some v) : g28 (lay s t) = v := gs_lay (p := p28) h
theorem L29 {s : List (Path × AV)} {t : Tm} {v : AV} (h : find p29 s = some v) : g29 (lay s t) = v := gs_lay (p := p29) h
theorem L30 {s : List (Path × AV)} {t : Tm} {v : AV} (h : find p30 s = some v) : g30 (lay s t) = v := gs_lay (p := p30) h
theorem L31 {s : List (Path × AV)} {t : Tm} {v : AV} (h : find p31 s = some v) : g31 (lay s t) = v := gs_lay (p := p31) h
theorem L32 {s : List (Path × AV)} {t : Tm} {v : AV} (h : find p32 s = some v) : g32 (lay s t) = v := gs_lay (p := p32) h
theorem L33 {s : List (Path × AV)} {t : Tm} {v : AV} (h : find p33 s = some v) : g33 (lay s t) = v := gs_lay (p := p33) h
theorem L34 {s : List (Path × AV)} {t : Tm} {v : AV} (h : find p34 s = some v) : g34 (lay s t) = v := gs_lay (p := p34) h
theorem L35 {s : List (Path × AV)} {t : Tm} {v : AV} (h : find p35 s = some v) : g35 (lay s t) = v := gs_lay (p := p35) h
theorem L36 {s : List (Path × AV)} {t : Tm} {v : AV} (h : find p36 s = some v) : g36 (lay s t) = v := gs_lay (p := p36) h
theorem L37 {s : List (Path × AV)} {t : Tm} {v : AV} (h : find p37 s = some v) : g37 (lay s t) = v := gs_lay (p := p37) h
theorem L38 {s : List (Path × AV)} {t : Tm} {v : AV} (h : find p38 s = some v) : g38 (lay s t) = v := gs_lay (p := p38) h
theorem L39 {s : List (Path × AV)} {t : Tm} {v : AV} (h : find p39 s = some v) : g39 (lay s t) = v := gs_lay (p := p39) h
theorem L40 {s : List (Path × AV)} {t : Tm} {v : AV} (h : find p40 s = some v) : g40 (lay s t) = v := gs_lay (p := p40) h
theorem L41 {s : List (Path × AV)} {t : Tm} {v : AV} (h : find p41 s = some v) : g41 (lay s t) = v := gs_lay (p := p41) h
theorem L42 {s : List (Path × AV)} {t : Tm} {v : AV} (h : find p42 s = some v) : g42 (lay s t) = v := gs_lay (p := p42) h
theorem L43 {s : List (Path × AV)} {t : Tm} {v : AV} (h : find p43 s = some v) : g43 (lay s t) = v := gs_lay (p := p43) h
theorem L44 {s : List (Path × AV)} {t : Tm} {v : AV} (h : find p44 s = some v) : g44 (lay s t) = v := gs_lay (p := p44) h
theorem L45 {s : List (Path × AV)} {t : Tm} {v : AV} (h : find p45 s = some v) : g45 (lay s t) = v := gs_lay (p := p45) h
theorem L46 {s : List (Path × AV)} {t : Tm} {v : AV} (h : find p46 s = some v) : g46 (lay s t) = v := gs_lay (p := p46) h
theorem L47 {s : List (Path × AV)} {t : Tm} {v : AV} (h : find p47 s = some v) : g47 (lay s t) = v := gs_lay (p := p47) h
theorem L48 {s : List (Path × AV)} {t : Tm} {v : AV} (h : find p48 s = some v) : g48 (lay s t) = v := gs_lay (p := p48) h
theorem L49 {s : List (Path × AV)} {t : Tm} {v : AV} (h : find p49 s = some v) : g49 (lay s t) = v := gs_lay (p := p49) h
theorem L50 {s : List (Path × AV)} {t : Tm} {v : AV} (h : find p50 s = some v) : g50 (lay s t) = v := gs_lay (p := p50) h
theorem L51 {s : List (Path × AV)} {t : Tm} {v : AV} (h : find p51 s = some v) : g51 (lay s t) = v := gs_lay (p := p51) h
theorem L52 {s : List (Path × AV)} {t : Tm} {v : AV} (h : find p52 s = some v) : g52 (lay s t) = v := gs_lay (p := p52) h
theorem L53 {s : List (Path × AV)} {t : Tm} {v : AV} (h : find p53 s = some v) : g53 (lay s t) = v := gs_lay (p := p53) h
theorem L54 {s : List (Path × AV)} {t : Tm} {v : AV} (h : find p54 s = some v) : g54 (lay s t) = v := gs_lay (p := p54) h
theorem L55 {s : List (Path × AV)} {t : Tm} {v : AV} (h : find p55 s = some v) : g55 (lay s t) = v := gs_lay (p := p55) h
theorem L56 {s : List (Path × AV)} {t : Tm} {v : AV} (h : find p56 s = some v) : g56 (lay s t) = v := gs_lay (p := p56) h
theorem L57 {s : List (Path × AV)} {t : Tm} {v : AV} (h : find p57 s = some v) : g57 (lay s t) = v := gs_lay (p := p57) h
theorem L58 {s : List (Path × AV)} {t : Tm} {v : AV} (h : find p58 s = some v) : g58 (lay s t) = v := gs_lay (p := p58) h
theorem L59 {s : List (Path × AV)} {t : Tm} {v : AV} (h : find p59 s = some v) : g59 (lay s t) = v := gs_lay (p := p59) h
theorem L60 {s : List (Path × AV)} {t : Tm} {v : AV} (h : find p60 s = some v) : g60 (lay s t) = v := gs_lay (p := p60) h
theorem L61 {s : List (Path × AV)} {t : Tm} {v : AV} (h : find p61 s = some v) : g61 (lay s t) = v := gs_lay (p := p61) h
theorem L62 {s : List (Path × AV)} {t : Tm} {v : AV} (h : find p62 s = some v) : g62 (lay s t) = v := gs_lay (p := p62) h
theorem L63 {s : List (Path × AV)} {t : Tm} {v : AV} (h : find p63 s = some v) : g63 (lay s t) = v := gs_lay (p := p63) h
theorem L64 {s : List (Path × AV)} {t : Tm} {v : AV} (h : find p64 s = some v) : g64 (lay s t) = v := gs_lay (p := p64) h
theorem L65 {s : List (Path × AV)} {t : Tm} {v : AV} (h : find p65 s = some v) : g65 (lay s t) = v := gs_lay (p := p65) h
theorem L66 {s : List (Path × AV)} {t : Tm} {v : AV} (h : find p66 s = some v) : g66 (lay s t) = v := gs_lay (p := p66) h
theorem L67 {s : List (Path × AV)} {t : Tm} {v : AV} (h : find p67 s = some v) : g67 (lay s t) = v := gs_lay (p := p67) h
theorem L68 {s : List (Path × AV)} {t : Tm} {v : AV} (h : find p68 s = some v) : g68 (lay s t) = v := gs_lay (p := p68) h
theorem L69 {s : List (Path × AV)} {t : Tm} {v : AV} (h : find p69 s = some v) : g69 (lay s t) = v := gs_lay (p := p69) h
theorem L70 {s : List (Path × AV)} {t : Tm} {v : AV} (h : find p70 s = some v) : g70 (lay s t) = v := gs_lay (p := p70) h
theorem L71 {s : List (Path × AV)} {t : Tm} {v : AV} (h : find p71 s = some v) : g71 (lay s t) = v := gs_lay (p := p71) h
theorem L72 {s : List (Path × AV)} {t : Tm} {v : AV} (h : find p72 s = some v) : g72 (lay s t) = v := gs_lay (p := p72) h
theorem L73 {s : List (Path × AV)} {t : Tm} {v : AV} (h : find p73 s = some v) : g73 (lay s t) = v := gs_lay (p := p73) h
theorem L74 {s : List (Path × AV)} {t : Tm} {v : AV} (h : find p74 s = some v) : g74 (lay s t) = v := gs_lay (p := p74) h
theorem L75 {s : List (Path × AV)} {t : Tm} {v : AV} (h : find p75 s = some v) : g75 (lay s t) = v := gs_lay (p := p75) h
theorem L76 {s : List (Path × AV)} {t : Tm} {v : AV} (h : find p76 s = some v) : g76 (lay s t) = v := gs_lay (p := p76) h
theorem L77 {s : List (Path × AV)} {t : Tm} {v : AV} (h : find p77 s = some v) : g77 (lay s t) = v := gs_lay (p := p77) h
theorem L78 {s : List (Path × AV)} {t : Tm} {v : AV} (h : find p78 s = some v) : g78 (lay s t) = v := gs_lay (p := p78) h
theorem L79 {s : List (Path × AV)} {t : Tm} {v : AV} (h : find p79 s = some v) : g79 (lay s t) = v := gs_lay (p := p79) h
theorem L80 {s : List (Path × AV)} {t : Tm} {v : AV} (h : find p80 s = some v) : g80 (lay s t) = v := gs_lay (p := p80) h
theorem L81 {s : List (Path × AV)} {t : Tm} {v : AV} (h : find p81 s = some v) : g81 (lay s t) = v := gs_lay (p := p81) h
theorem L82 {s : List (Path × AV)} {t : Tm} {v : AV} (h : find p82 s = some v) : g82 (lay s t) = v := gs_lay (p := p82) h
theorem L83 {s : List (Path × AV)} {t : Tm} {v : AV} (h : find p83 s = some v) : g83 (lay s t) = v := gs_lay (p := p83) h
theorem L84 {s : List (Path × AV)} {t : Tm} {v : AV} (h : find p84 s = some v) : g84 (lay s t) = v := gs_lay (p := p84) h
theorem L85 {s : List (Path × AV)} {t : Tm} {v : AV} (h : find p85 s = some v) : g85 (lay s t) = v := gs_lay (p := p85) h
theorem L86 {s : List (Path × AV)} {t : Tm} {v : AV} (h : find p86 s = some v) : g86 (lay s t) = v := gs_lay (p := p86) h
theorem L87 {s : List (Path × AV)} {t : Tm} {v : AV} (h : find p87 s = some v) : g87 (lay s t) = v := gs_lay (p := p87) h
theorem L88 {s : List (Path × AV)} {t : Tm} {v : AV} (h : find p88 s = some v) : g88 (lay s t) = v := gs_lay (p := p88) h
theorem L89 {s : List (Path × AV)} {t : Tm} {v : AV} (h : find p89 s = some v) : g89 (lay s t) = v := gs_lay (p := p89) h
theorem L90 {s : List (Path × AV)} {t : Tm} {v : AV} (h : find p90 s = some v) : g90 (lay s t) = v := gs_lay (p := p90) h
theorem L91 {s : List (Path × AV)} {t : Tm} {v : AV} (h : find p91 s = some v) : g91 (lay s t) = v := gs_lay (p := p91) h
theorem L92 {s : List (Path × AV)} {t : Tm} {v : AV} (h : find p92 s = some v) : g92 (lay s t) = v := gs_lay (p := p92) h
theorem L93 {s : List (Path × AV)} {t : Tm} {v : AV} (h : find p93 s = some v) : g93 (lay s t) = v := gs_lay (p := p93) h
theorem L94 {s : List (Path × AV)} {t : Tm} {v : AV} (h : find p94 s = some v) : g94 (lay s t) = v := gs_lay (p := p94) h
theorem L95 {s : List (Path × AV)} {t : Tm} {v : AV} (h : find p95 s = some v) : g95 (lay s t) = v := gs_lay (p := p95) h
theorem L96 {s : List (Path × AV)} {t : Tm} {v : AV} (h : find p96 s = some v) : g96 (lay s t) = v := gs_lay (p := p96) h
theorem L97 {s : List (Path × AV)} {t : Tm} {v : AV} (h : find p97 s = some v) : g97 (lay s t) = v := gs_lay (p := p97) h
theorem L98 {s : List (Path × AV)} {t : Tm} {v : AV} (h : find p98 s = some v) : g98 (lay s t) = v := gs_lay (p := p98) h
theorem L99 {s : List (Path × AV)} {t : Tm} {v : AV} (h : find p99 s = some v) : g99 (lay s t) = v := gs_lay (p := p99) h
theorem L100 {s : List (Path × AV)} {t : Tm} {v : AV} (h : find p100 s = some v) : g100 (lay s t) = v := gs_lay (p := p100) h
theorem L101 {s : List (Path × AV)} {t : Tm} {v : AV} (h : find p101 s = some v) : g101 (lay s t) = v := gs_lay (p := p101) h
theorem L102 {s : List (Path × AV)} {t : Tm} {v : AV} (h : find p102 s = some v) : g102 (lay s t) = v := gs_lay (p := p102) h
theorem L103 {s : List (Path × AV)} {t : Tm} {v : AV} (h : find p103 s = some v) : g103 (lay s t) = v := gs_lay (p := p103) h
theorem L104 {s : List (Path × AV)} {t : Tm} {v : AV} (h : find p104 s = some v) : g104 (lay s t) = v := gs_lay (p := p104) h
theorem L105 {s : List (Path × AV)} {t : Tm} {v : AV} (h : find p105 s = some v) : g105 (lay s t) = v := gs_lay (p := p105) h
theorem L106 {s : List (Path × AV)} {t : Tm} {v : AV} (h : find p106 s = some v) : g106 (lay s t) = v := gs_lay (p := p106) h
theorem L107 {s : List (Path × AV)} {t : Tm} {v : AV} (h : find p107 s = some v) : g107 (lay s t) = v := gs_lay (p := p107) h
theorem L108 {s : List (Path × AV)} {t : Tm} {v : AV} (h : find p108 s = some v) : g108 (lay s t) = v := gs_lay (p := p108) h
theorem L109 {s : List (Path × AV)} {t : Tm} {v : AV} (h : find p109 s = some v) : g109 (lay s t) = v := gs_lay (p := p109) h
theorem L110 {s : List (Path × AV)} {t : Tm} {v : AV} (h : find p110 s = some v) : g110 (lay s t) = v := gs_lay (p := p110) h
theorem L111 {s : List (Path × AV)} {t : Tm} {v : AV} (h : find p111 s = some v) : g111 (lay s t) = v := gs_lay (p := p111) h
theorem L112 {s : List (Path × AV)} {t : Tm} {v : AV} (h : find p112 s = some v) : g112 (lay s t) = v := gs_lay (p := p112) h
theorem L113 {s : List (Path × AV)} {t : Tm} {v : AV} (h : find p113 s = some v) : g113 (lay s t) = v := gs_lay (p := p113) h
theorem L114 {s : List (Path × AV)} {t : Tm} {v : AV} (h : find p114 s = some v) : g114 (lay s t) = v := gs_lay (p := p114) h
theorem L115 {s : List (Path × AV)} {t : Tm} {v : AV} (h : find p115 s = some v) : g115 (lay s t) = v := gs_lay (p := p115) h
theorem L116 {s : List (Path × AV)} {t : Tm} {v : AV} (h : find p116 s = some v) : g116 (lay s t) = v := gs_lay (p := p116) h
theorem L117 {s : List (Path × AV)} {t : Tm} {v : AV} (h : find p117 s = some v) : g117 (lay s t) = v := gs_lay (p := p117) h
theorem L118 {s : List (Path × AV)} {t : Tm} {v : AV} (h : find p118 s = some v) : g118 (lay s t) = v := gs_lay (p := p118) h
theorem L119 {s : List (Path × AV)} {t : Tm} {v : AV} (h : find p119 s = some v) : g119 (lay s t) = v := gs_lay (p := p119) h
theorem L120 {s : List (Path × AV)} {t : Tm} {v : AV} (h : find p120 s = some v) : g120 (lay s t) = v := gs_lay (p := p120) h
theorem L121 {s : List (Path × AV)} {t : Tm} {v : AV} (h : find p121 s = some v) : g121 (lay s t) = v := gs_lay (p := p121) h
theorem L122 {s : List (Path × AV)} {t : Tm} {v : AV} (h : find p122 s = some v) : g122 (lay s t) = v := gs_lay (p := p122) h
theorem L123 {s : List (Path × AV)} {t : Tm} {v : AV} (h : find p123 s = some v) : g123 (lay s t) = v := gs_lay (p := p123) h
theorem L124 {s : List (Path × AV)} {t : Tm} {v : AV} (h : find p124 s = some v) : g124 (lay s t) = v := gs_lay (p := p124) h
theorem L125 {s : List (Path × AV)} {t : Tm} {v : AV} (h : find p125 s = some v) : g125 (lay s t) = v := gs_lay (p := p125) h
theorem L126 {s : List (Path × AV)} {t : Tm} {v : AV} (h : find p126 s = some v) : g126 (lay s t) = v := gs_lay (p := p126) h
theorem L127 {s : List (Path × AV)} {t : Tm} {v : AV} (h : find p127 s = some v) : g127 (lay s t) = v := gs_lay (p := p127) h
theorem L128 {s : List (Path × AV)} {t : Tm} {v : AV} (h : find p128 s = some v) : g128 (lay s t) = v := gs_lay (p := p128) h
theorem L129 {s : List (Path × AV)} {t : Tm} {v : AV} (h : find p129 s = some v) : g129 (lay s t) = v := gs_lay (p := p129) h
theorem L130 {s : List (Path × AV)} {t : Tm} {v : AV} (h : find p130 s = some v) : g130 (lay s t) = v := gs_lay (p := p130) h
theorem L131 {s : List (Path × AV)} {t : Tm} {v : AV} (h : find p131 s = some v) : g131 (lay s t) = v := gs_lay (p := p131) h
theorem L132 {s : List (Path × AV)} {t : Tm} {v : AV} (h : find p132 s = some v) : g132 (lay s t) = v := gs_lay (p := p132) h
theorem L133 {s : List (Path × AV)} {t : Tm} {v : AV} (h : find p133 s = some v) : g133 (lay s t) = v := gs_lay (p := p133) h
theorem L134 {s : List (Path × AV)} {t : Tm} {v : AV} (h : find p134 s = some v) : g134 (lay s t) = v := gs_lay (p := p134) h
theorem L135 {s : List (Path × AV)} {t : Tm} {v : AV} (h : find p135 s = some v) : g135 (lay s t) = v := gs_lay (p := p135) h
theorem L136 {s : List (Path × AV)} {t : Tm} {v : AV} (h : find p136 s = some v) : g136 (lay s t) = v := gs_lay (p := p136) h
theorem L137 {s : List (Path × AV)} {t : Tm} {v : AV} (h : find p137 s = some v) : g137 (lay s t) = v := gs_lay (p := p137) h
theorem L138 {s : List (Path × AV)} {t : Tm} {v : AV} (h : find p138 s = some v) : g138 (lay s t) = v := gs_lay (p := p138) h
theorem L139 {s : List (Path × AV)} {t : Tm} {v : AV} (h : find p139 s = some v) : g139 (lay s t) = v := gs_lay (p := p139) h
theorem L140 {s : List (Path × AV)} {t : Tm} {v : AV} (h : find p140 s = some v) : g140 (lay s t) = v := gs_lay (p := p140) h
theorem L141 {s : List (Path × AV)} {t : Tm} {v : AV} (h : find p141 s = some v) : g141 (lay s t) = v := gs_lay (p := p141) h
theorem L142 {s : List (Path × AV)} {t : Tm} {v : AV} (h : find p142 s = some v) : g142 (lay s t) = v := gs_lay (p := p142) h
theorem L143 {s : List (Path × AV)} {t : Tm} {v : AV} (h : find p143 s = some v) : g143 (lay s t) = v := gs_lay (p := p143) h
theorem L144 {s : List (Path × AV)} {t : Tm} {v : AV} (h : find p144 s = some v) : g144 (lay s t) = v := gs_lay (p := p144) h
theorem L145 {s : List (Path × AV)} {t : Tm} {v : AV} (h : find p145 s = some v) : g145 (lay s t) = v := gs_lay (p := p145) h
theorem L146 {s : List (Path × AV)} {t : Tm} {v : AV} (h : find p146 s = some v) : g146 (lay s t) = v := gs_lay (p := p146) h
theorem L147 {s : List (Path × AV)} {t : Tm} {v : AV} (h : find p147 s = some v) : g147 (lay s t) = v := gs_lay (p := p147) h
theorem L148 {s : List (Path × AV)} {t : Tm} {v : AV} (h : find p148 s = some v) : g148 (lay s t) = v := gs_lay (p := p148) h
theorem L149 {s : List (Path × AV)} {t : Tm} {v : AV} (h : find p149 s = some v) : g149 (lay s t) = v := gs_lay (p := p149) h
theorem L150 {s : List (Path × AV)} {t : Tm} {v : AV} (h : find p150 s = some v) : g150 (lay s t) = v := gs_lay (p := p150) h
theorem L151 {s : List (Path × AV)} {t : Tm} {v : AV} (h : find p151 s = some v) : g151 (lay s t) = v := gs_lay (p := p151) h
theorem L152 {s : List (Path × AV)} {t : Tm} {v : AV} (h : find p152 s = some v) : g152 (lay s t) = v := gs_lay (p := p152) h
theorem L153 {s : List (Path × AV)} {t : Tm} {v : AV} (h : find p153 s = some v) : g153 (lay s t) = v := gs_lay (p := p153) h
theorem L154 {s : List (Path × AV)} {t : Tm} {v : AV} (h : find p154 s = some v) : g154 (lay s t) = v := gs_lay (p := p154) h
theorem L155 {s : List (Path × AV)} {t : Tm} {v : AV} (h : find p155 s = some v) : g155 (lay s t) = v := gs_lay (p := p155) h
theorem L156 {s : List (Path × AV)} {t : Tm} {v : AV} (h : find p156 s = some v) : g156 (lay s t) = v := gs_lay (p := p156) h
theorem L157 {s : List (Path × AV)} {t : Tm} {v : AV} (h : find p157 s = some v) : g157 (lay s t) = v := gs_lay (p := p157) h
theorem L158 {s : List (Path × AV)} {t : Tm} {v : AV} (h : find p158 s = some v) : g158 (lay s t) = v := gs_lay (p := p158) h
theorem L159 {s : List (Path × AV)} {t : Tm} {v : AV} (h : find p159 s = some v) : g159 (lay s t) = v := gs_lay (p := p159) h
theorem L160 {s : List (Path × AV)} {t : Tm} {v : AV} (h : find p160 s = some v) : g160 (lay s t) = v := gs_lay (p := p160) h
theorem L161 {s : List (Path × AV)} {t : Tm} {v : AV} (h : find p161 s = some v) : g161 (lay s t) = v := gs_lay (p := p161) h
theorem L162 {s : List (Path × AV)} {t : Tm} {v : AV} (h : find p162 s = some v) : g162 (lay s t) = v := gs_lay (p := p162) h
theorem L163 {s : List (Path × AV)} {t : Tm} {v : AV} (h : find p163 s = some v) : g163 (lay s t) = v := gs_lay (p := p163) h
theorem L164 {s : List (Path × AV)} {t : Tm} {v : AV} (h : find p164 s = some v) : g164 (lay s t) = v := gs_lay (p := p164) h
theorem L165 {s : List (Path × AV)} {t : Tm} {v : AV} (h : find p165 s = some v) : g165 (lay s t) = v := gs_lay (p := p165) h
theorem L166 {s : List (Path × AV)} {t : Tm} {v : AV} (h : find p166 s = some v) : g166 (lay s t) = v := gs_lay (p := p166) h
theorem L167 {s : List (Path × AV)} {t : Tm} {v : AV} (h : find p167 s = some v) : g167 (lay s t) = v := gs_lay (p := p167) h
theorem L168 {s : List (Path × AV)} {t : Tm} {v : AV} (h : find p168 s = some v) : g168 (lay s t) = v := gs_lay (p := p168) h
theorem L169 {s : List (Path × AV)} {t : Tm} {v : AV} (h : find p169 s = some v) : g169 (lay s t) = v := gs_lay (p := p169) h
theorem L170 {s : List (Path × AV)} {t : Tm} {v : AV} (h : find p170 s = some v) : g170 (lay s t) = v := gs_lay (p := p170) h
theorem L171 {s : List (Path × AV)} {t : Tm} {v : AV} (h : find p171 s = some v) : g171 (lay s t) = v := gs_lay (p := p171) h
theorem L172 {s : List (Path × AV)} {t : Tm} {v : AV} (h : find p172 s = some v) : g172 (lay s t) = v := gs_lay (p := p172) h
theorem L173 {s : List (Path × AV)} {t : Tm} {v : AV} (h : find p173 s = some v) : g173 (lay s t) = v := gs_lay (p := p173) h
theorem L174 {s : List (Path × AV)} {t : Tm} {v : AV} (h : find p174 s = some v) : g174 (lay s t) = v := gs_lay (p := p174) h
theorem L175 {s : List (Path × AV)} {t : Tm} {v : AV} (h : find p175 s = some v) : g175 (lay s t) = v := gs_lay (p := p175) h
theorem L176 {s : List (Path × AV)} {t : Tm} {v : AV} (h : find p176 s = some v) : g176 (lay s t) = v := gs_lay (p := p176) h
theorem L177 {s : List (Path × AV)} {t : Tm} {v : AV} (h : find p177 s = some v) : g177 (lay s t) = v := gs_lay (p := p177) h
theorem L178 {s : List (Path × AV)} {t : Tm} {v : AV} (h : find p178 s = some v) : g178 (lay s t) = v := gs_lay (p := p178) h
theorem L179 {s : List (Path × AV)} {t : Tm} {v : AV} (h : find p179 s = some v) : g179 (lay s t) = v := gs_lay (p := p179) h
theorem L180 {s : List (Path × AV)} {t : Tm} {v : AV} (h : find p180 s = some v) : g180 (lay s t) = v := gs_lay (p := p180) h
theorem L181 {s : List (Path × AV)} {t : Tm} {v : AV} (h : find p181 s = some v) : g181 (lay s t) = v := gs_lay (p := p181) h
theorem L182 {s : List (Path × AV)} {t : Tm} {v : AV} (h : find p182 s = some v) : g182 (lay s t) = v := gs_lay (p := p182) h
theorem L183 {s : List (Path × AV)} {t : Tm} {v : AV} (h : find p183 s = some v) : g183 (lay s t) = v := gs_lay (p := p183) h
theorem L184 {s : List (Path × AV)} {t : Tm} {v : AV} (h : find p184 s = some v) : g184 (lay s t) = v := gs_lay (p := p184) h
theorem L185 {s : List (Path × AV)} {t : Tm} {v : AV} (h : find p185 s = some v) : g185 (lay s t) = v := gs_lay (p := p185) h
theorem L186 {s : List (Path × AV)} {t : Tm} {v : AV} (h : find p186 s = some v) : g186 (lay s t) = v := gs_lay (p := p186) h
theorem L187 {s : List (Path × AV)} {t : Tm} {v : AV} (h : find p187 s = some v) : g187 (lay s t) = v := gs_lay (p := p187) h
theorem L188 {s : List (Path × AV)} {t : Tm} {v : AV} (h : find p188 s = some v) : g188 (lay s t) = v := gs_lay (p := p188) h
theorem L189 {s : List (Path × AV)} {t : Tm} {v : AV} (h : find p189 s = some v) : g189 (lay s t) = v := gs_lay (p := p189) h
theorem L190 {s : List (Path × AV)} {t : Tm} {v : AV} (h : find p190 s = some v) : g190 (lay s t) = v := gs_lay (p := p190) h
theorem L191 {s : List (Path × AV)} {t : Tm} {v : AV} (h : find p191 s = some v) : g191 (lay s t) = v := gs_lay (p := p191) h
theorem L192 {s : List (Path × AV)} {t : Tm} {v : AV} (h : find p192 s = some v) : g192 (lay s t) = v := gs_lay (p := p192) h
theorem L193 {s : List (Path × AV)} {t : Tm} {v : AV} (h : find p193 s = some v) : g193 (lay s t) = v := gs_lay (p := p193) h
theorem L194 {s : List (Path × AV)} {t : Tm} {v : AV} (h : find p194 s = some v) : g194 (lay s t) = v := gs_lay (p := p194) h
theorem L195 {s : List (Path × AV)} {t : Tm} {v : AV} (h : find p195 s = some v) : g195 (lay s t) = v := gs_lay (p := p195) h
theorem L196 {s : List (Path × AV)} {t : Tm} {v : AV} (h : find p196 s = some v) : g196 (lay s t) = v := gs_lay (p := p196) h
theorem L197 {s : List (Path × AV)} {t : Tm} {v : AV} (h : find p197 s = some v) : g197 (lay s t) = v := gs_lay (p := p197) h
theorem L198 {s : List (Path × AV)} {t : Tm} {v : AV} (h : find p198 s = some v) : g198 (lay s t) = v := gs_lay (p := p198) h
theorem L199 {s : List (Path × AV)} {t : Tm} {v : AV} (h : find p199 s = some v) : g199 (lay s t) = v := gs_lay (p := p199) h

theorem mean_ok {M : Mach} (hs : M.sums 8 = none) (hp : M.prog 8 = some c8) {h : AH} {i : Nat} {a : AV} {pts : List (Int × Int)} (ha : Arg a i pts.length 1) (hi : pts.length ≠ 0 → h.obj i = some (mk (pcs pts))) (hb : Bd pts) :
    CW M 8 [a] h fun v h' => h = h' ∧ v = .s (.cpx (mean pts).1 (mean pts).2) := by
  refine cw_enter hs hp ?_
  show WP M _ (lay [(p0, a)] .l) h _
  have hlen := hb.1
  refine wp_seq ?_
  refine wp_step (st_pure (e_move (rfl : _ = AV.s (.cpx 0 0)))) ?_
  refine wp_nil ?_
  refine wp_seq ?_
  refine wp_seq ?_
  refine wp_step (st_pure (e_move (L0 rfl))) ?_
  refine wp_step (st_pure (e_len_arg ha (L7 rfl))) ?_
  refine wp_step (st_pure (e_eqI (L8 rfl) (rfl : _ = AV.s (.int .i64 (0 : Int))))) ?_
  refine wp_nil ?_
  refine wp_if (L9 rfl) (fun hc => ?_) (fun hc => ?_)
  · skip
    refine wp_seq ?_
    refine wp_step (st_pure (e_move (rfl : _ = AV.s (.cpx 0 0)))) ?_
    refine wp_nil ?_
    refine wp_ret ?_
    refine ⟨_, res_one (L2 rfl), rfl, ?_⟩
    have hnil : pts = [] := by
      have hc : ((pts.length : Int) == 0) = true := hc
      exact List.eq_nil_of_length_eq_zero (by simpa using hc)
    subst hnil; rfl
  · have hne : pts ≠ [] := fun e => by subst e; exact absurd hc (by decide)
    have hr := mean_some hne hb
    refine wp_skip ?_
    refine wp_seq ?_
    refine wp_step (st_pure (e_move (rfl : _ = AV.s (.cpx 0 0)))) ?_
    refine wp_nil ?_
    refine wp_seq ?_
    refine wp_seq ?_
    refine wp_step (st_pure (e_move (L0 rfl))) ?_
    refine wp_step (st_pure (e_len_arg ha (L10 rfl))) ?_
    refine wp_step (st_pure (e_move (rfl : _ = AV.s (.int .i64 (0 : Int))))) ?_
    refine wp_nil ?_
    refine wp_block ?_
    refine wp_while (i := pts.length) (fun m tm1 h1 => ∃ (j : Nat) (t : Tm), m = pts.length - j ∧ j ≤ pts.length ∧ h = h1 ∧ tm1 = lay [(p12, .s (.int .i64 (j : Nat))), (p11, .s (.int .i64 (pts.length : Nat))), (p10, a), (p3, .s (.cpx (fl (sumOf (pts.take j)).1) (fl (sumOf (pts.take j)).2))), (p0, a)] t) (fun m tm1 h1 hI => ?_) ?_
    · obtain ⟨j, t, rfl, hjl, rfl, rfl⟩ := hI
      refine wp_seq ?_
      refine wp_step (st_pure (e_lt (L12 rfl) (L11 rfl))) ?_
      refine wp_nil ?_
      refine wp_seq ?_
      refine wp_if (L13 rfl) (fun hc => ?_) (fun hc => ?_)
      · have hj : j < pts.length := by have := of_decide_eq_true hc; omega
        have hpt := pt_small hb hj
        have hbd := take_bd hb j
        have hbd1 := take_bd hb (j + 1)
        rw [sumOf_succ hj] at hbd1
        refine wp_skip ?_
        refine wp_seq ?_
        refine wp_block ?_
        refine wp_seq ?_
        refine wp_step (st_pure (e_idx_arg ha (L10 rfl) (L12 rfl) (by omega))) ?_
        refine wp_step (st_read (e_load1 (L14 rfl) (hi (by omega)) (get_pts hj))) ?_
        refine wp_step (st_pure (e_move (L15 rfl))) ?_
        refine wp_nil ?_
        refine wp_step (st_pure (e_move (L3 rfl))) ?_
        refine wp_step (st_pure (e_move (L5 rfl))) ?_
        refine wp_step (st_pure (e_arC (L16 rfl) (L17 rfl) (add_fl hbd.1 hbd.2.1 (is_small (by have := hpt.1; omega) (by have := hpt.2.1; omega)) hbd1.1 hbd1.2.1) (add_fl hbd.2.2.1 hbd.2.2.2 (is_small (by have := hpt.2.2.1; omega) (by have := hpt.2.2.2; omega)) hbd1.2.2.1 hbd1.2.2.2))) ?_
        refine wp_step (st_pure (e_move (L18 rfl))) ?_
        refine wp_nil ?_
        refine wp_step (st_pure (e_add64 (L12 rfl) (rfl : _ = AV.s (.int .i64 (1 : Int))) rfl ⟨by omega, by omega⟩)) ?_
        refine wp_step (st_pure (e_move (L19 rfl))) ?_
        refine wp_nil ?_
        refine ⟨_, ?_, j + 1, _, rfl, by omega, rfl, relay ⟨rfl, rfl, rfl, ?_, rfl, trivial⟩⟩
        · omega
        · rw [sumOf_succ hj]; rfl
      · have hj := of_decide_eq_false hc
        obtain rfl : j = pts.length := by omega
        rw [List.take_length]
        refine wp_exit ?_
        refine wp_seq ?_
        refine wp_step (st_pure (e_move (L0 rfl))) ?_
        refine wp_step (st_pure (e_len_arg ha (L20 rfl))) ?_
        refine wp_step (st_pure (e_i2f (L21 rfl))) ?_
        refine wp_step (st_pure (e_move (L22 rfl))) ?_
        refine wp_nil ?_
        refine wp_seq ?_
        refine wp_step (st_pure (e_move (L3 rfl))) ?_
        refine wp_step (st_pure (e_re (L23 rfl))) ?_
        refine wp_step (st_pure (e_move (L6 rfl))) ?_
        refine wp_step (st_pure (e_arF (L24 rfl) (L25 rfl) hr.1)) ?_
        refine wp_step (st_pure (e_move (L3 rfl))) ?_
        refine wp_step (st_pure (e_im (L27 rfl))) ?_
        refine wp_step (st_pure (e_move (L6 rfl))) ?_
        refine wp_step (st_pure (e_arF (L28 rfl) (L29 rfl) hr.2)) ?_
        refine wp_step (st_pure (e_cpx (L26 rfl) (L30 rfl))) ?_
        refine wp_step (st_pure (e_move (L31 rfl))) ?_
        refine wp_nil ?_
        refine wp_ret ?_
        exact ⟨_, res_one (L2 rfl), rfl, rfl⟩
    · exact ⟨0, _, by omega, by omega, rfl, relay ⟨rfl, rfl, rfl, by rfl, rfl, trivial⟩⟩

def rot (q : Int × Int) : Int × Int := (-q.2, q.1)
def rotn : Nat → Int × Int → Int × Int
  | 0, q => q
  | n + 1, q => rot (rotn n q)
theorem rotn_small {q : Int × Int} (h : Small q) : ∀ n, Small (rotn n q)
  | 0 => h
  | n + 1 => by
    obtain ⟨h1, h2, h3, h4⟩ := rotn_small h n
    show Small (-(rotn n q).2, (rotn n q).1)
    refine ⟨?_, ?_, h1, h2⟩ <;> simp only [] <;> omega
def turned (k : Nat) : Nat → List (Int × Int) → List (Int × Int)
  | _, [] => []
  | j, q :: l => rotn (k * (j % 4) % 4) q :: turned k (j + 1) l
theorem turned_length (k : Nat) : ∀ (l : List (Int × Int)) (j : Nat), (turned k j l).length = l.length
  | [], _ => rfl
  | _ :: l, j => by simp [turned, turned_length k l (j + 1)]
theorem turned_get (k : Nat) : ∀ (l : List (Int × Int)) (j i : Nat) (hi : i < l.length), (turned k j l)[i]'(by rw [turned_length]; exact hi) = rotn (k * ((j + i) % 4) % 4) l[i]
  | [], _, i, hi => by simp at hi
  | q :: l, j, 0, _ => rfl
  | q :: l, j, i + 1, hi => by
    have := turned_get k l (j + 1) i (by simpa using hi)
    simp only [turned, List.getElem_cons_succ]
    rw [this, show j + 1 + i = j + (i + 1) by omega]
theorem turned_bd {k : Nat} {pts : List (Int × Int)} (hb : Bd pts) : Bd (turned k 0 pts) := by
  refine ⟨by rw [turned_length]; exact hb.1, fun q hq => ?_⟩
  obtain ⟨i, hi, rfl⟩ := List.getElem_of_mem hq
  rw [turned_get k pts 0 i (by rw [turned_length] at hi; exact hi)]
  exact rotn_small (hb.2 _ (List.getElem_mem _)) _

theorem turn_ok {M : Mach} (hs : M.sums 9 = none) (hp : M.prog 9 = some c9) {h : AH} {i : Nat} {a : AV} {pts : List (Int × Int)} {k : Int} {q : Nat} (hq : (k.tmod 4 + 4).tmod 4 = (q : Nat)) (ha : Arg a i pts.length 1) (hi : pts.length ≠ 0 → h.obj i = some (mk (pcs pts))) (hb : Bd pts) :
    CW M 9 [a, .s (.int .i64 k)] h fun v h' => h = h' ∧ v = .s (.cpx (fl (sumOf (turned q 0 pts)).1) (fl (sumOf (turned q 0 pts)).2)) := by
  refine cw_enter hs hp ?_
  show WP M _ (lay [(p1, .s (.int .i64 k)), (p0, a)] .l) h _
  have hlen := hb.1
  have hk1 := Int.tmod_lt_of_pos k (show (0 : Int) < 4 by omega)
  have hk2 := Int.lt_tmod_of_pos k (show (0 : Int) < 4 by omega)
  have hq4 : q < 4 := by
    have := Int.tmod_lt_of_pos (k.tmod 4 + 4) (show (0 : Int) < 4 by omega)
    omega
  refine wp_seq ?_
  refine wp_step (st_pure (e_move (rfl : _ = AV.s (.cpx 0 0)))) ?_
  refine wp_nil ?_
  refine wp_seq ?_
  refine wp_step (st_pure (e_move (L1 rfl))) ?_
  refine wp_step (st_pure (e_remz (z := k.tmod 4) (L8 rfl) (rfl : _ = AV.s (.int .i64 (4 : Int))) (by decide) (by rfl))) ?_
  refine wp_step (st_pure (e_add64 (L9 rfl) (rfl : _ = AV.s (.int .i64 (4 : Int))) rfl ⟨by omega, by omega⟩)) ?_
  refine wp_step (st_pure (e_remz (z := (q : Nat)) (L10 rfl) (rfl : _ = AV.s (.int .i64 (4 : Int))) (by decide) (by exact hq))) ?_
  refine wp_step (st_pure (e_move (L11 rfl))) ?_
  refine wp_nil ?_
  refine wp_seq ?_
  refine wp_step (st_pure (e_move (rfl : _ = AV.s (.cpx 0 0)))) ?_
  refine wp_nil ?_
  refine wp_seq ?_
  refine wp_seq ?_
  refine wp_step (st_pure (e_move (L0 rfl))) ?_
  refine wp_step (st_pure (e_len_arg ha (L12 rfl))) ?_
  refine wp_step (st_pure (e_move (rfl : _ = AV.s (.int .i64 (0 : Int))))) ?_
  refine wp_nil ?_
  refine wp_block ?_
  refine wp_while (i := pts.length) (fun m tm1 h1 => ∃ (j : Nat) (t : Tm), m = pts.length - j ∧ j ≤ pts.length ∧ h = h1 ∧ tm1 = lay [(p14, .s (.int .i64 (j : Nat))), (p13, .s (.int .i64 (pts.length : Nat))), (p12, a), (p5, .s (.cpx (fl (sumOf ((turned q 0 pts).take j)).1) (fl (sumOf ((turned q 0 pts).take j)).2))), (p1, .s (.int .i64 (q : Nat)))] t) (fun m tm1 h1 hI => ?_) ?_
  · obtain ⟨j, t, rfl, hjl, rfl, rfl⟩ := hI
    refine wp_seq ?_
    refine wp_step (st_pure (e_lt (L14 rfl) (L13 rfl))) ?_
    refine wp_nil ?_
    refine wp_seq ?_
    refine wp_if (L15 rfl) (fun hc => ?_) (fun hc => ?_)
    · have hj : j < pts.length := by have := of_decide_eq_true hc; omega
      have hjt : j < (turned q 0 pts).length := by rw [turned_length]; exact hj
      have hpt := pt_small (turned_bd hb) hjt
      have hbd := take_bd (turned_bd (k := q) hb) j
      have hbd1 := take_bd (turned_bd (k := q) hb) (j + 1)
      rw [sumOf_succ hjt] at hbd1
      have hget := turned_get q pts 0 j hj
      rw [Nat.zero_add] at hget
      obtain ⟨m, hm, hm9⟩ : ∃ m, q * (j % 4) = m ∧ m ≤ 9 := ⟨_, rfl, Nat.le_trans (Nat.mul_le_mul (show q ≤ 3 by omega) (show j % 4 ≤ 3 by omega)) (by omega)⟩
      rw [hm] at hget
      refine wp_skip ?_
      refine wp_seq ?_
      refine wp_block ?_
      refine wp_seq ?_
      refine wp_step (st_pure (e_move (L14 rfl))) ?_
      refine wp_step (st_pure (e_idx_arg ha (L12 rfl) (L14 rfl) (by omega))) ?_
      refine wp_step (st_read (e_load1 (L17 rfl) (hi (by omega)) (get_pts hj))) ?_
      refine wp_step (st_pure (e_move (L16 rfl))) ?_
      refine wp_step (st_pure (e_move (L18 rfl))) ?_
      refine wp_nil ?_
      refine wp_seq ?_
      refine wp_seq ?_
      refine wp_step (st_pure (e_move (L1 rfl))) ?_
      refine wp_step (st_pure (e_move (L6 rfl))) ?_
      refine wp_step (st_pure (e_remz (z := (j % 4 : Nat)) (L20 rfl) (rfl : _ = AV.s (.int .i64 (4 : Int))) (by decide) (by rfl))) ?_
      refine wp_step (st_pure (e_mul64 (z := (m : Nat)) (L19 rfl) (L21 rfl) (by show ((q * (j % 4) : Nat) : Int) = m; rw [hm]) ⟨by omega, by omega⟩)) ?_
      refine wp_step (st_pure (e_remz (z := (m % 4 : Nat)) (L22 rfl) (rfl : _ = AV.s (.int .i64 (4 : Int))) (by decide) (by rfl))) ?_
      refine wp_step (st_pure (e_move (rfl : _ = AV.s (.int .i64 (0 : Int))))) ?_
      refine wp_nil ?_
      refine wp_block ?_
      refine wp_while (i := m % 4) (fun mm tm1 h1 => ∃ (r : Nat) (u v : Nat) (t : Tm), mm = m % 4 - r ∧ r ≤ m % 4 ∧ h = h1 ∧ Near u (rotn r pts[j]).1 ∧ Near v (rotn r pts[j]).2 ∧ tm1 = lay [(p24, .s (.int .i64 (r : Nat))), (p23, .s (.int .i64 (m % 4 : Nat))), (p7, .s (.cpx u v)), (p14, .s (.int .i64 (j : Nat))), (p13, .s (.int .i64 (pts.length : Nat))), (p12, a), (p5, .s (.cpx (fl (sumOf ((turned q 0 pts).take j)).1) (fl (sumOf ((turned q 0 pts).take j)).2))), (p1, .s (.int .i64 (q : Nat)))] t) (fun m tm1 h1 hI => ?_) ?_
      · obtain ⟨r, u, v, t, rfl, hrl, rfl, hu, hv, rfl⟩ := hI
        refine wp_seq ?_
        refine wp_step (st_pure (e_lt (L24 rfl) (L23 rfl))) ?_
        refine wp_nil ?_
        refine wp_seq ?_
        refine wp_if (L25 rfl) (fun hc => ?_) (fun hc => ?_)
        · have hr : r < m % 4 := by have := of_decide_eq_true hc; omega
          refine wp_skip ?_
          refine wp_seq ?_
          refine wp_block ?_
          refine wp_step (st_pure (e_move (L7 rfl))) ?_
          refine wp_step (st_pure (e_im (L26 rfl))) ?_
          refine wp_step (st_pure (e_negF (L27 rfl))) ?_
          refine wp_step (st_pure (e_move (L7 rfl))) ?_
          refine wp_step (st_pure (e_re (L29 rfl))) ?_
          refine wp_step (st_pure (e_cpx (L28 rfl) (L30 rfl))) ?_
          refine wp_step (st_pure (e_move (L31 rfl))) ?_
          refine wp_nil ?_
          refine wp_step (st_pure (e_add64 (L24 rfl) (rfl : _ = AV.s (.int .i64 (1 : Int))) rfl ⟨by omega, by omega⟩)) ?_
          refine wp_step (st_pure (e_move (L32 rfl))) ?_
          refine wp_nil ?_
          refine ⟨_, ?_, r + 1, _, _, _, rfl, by omega, rfl, hv.neg, hu, relay ⟨rfl, rfl, rfl, rfl, rfl, rfl, rfl, rfl, trivial⟩⟩
          omega
        · have hr := of_decide_eq_false hc
          obtain rfl : r = m % 4 := by omega
          rw [← hget] at hu hv
          refine wp_exit ?_
          refine wp_step (st_pure (e_move (L5 rfl))) ?_
          refine wp_step (st_pure (e_move (L7 rfl))) ?_
          refine wp_step (st_pure (e_arC (L33 rfl) (L34 rfl) (add_fl hbd.1 hbd.2.1 (hu.is (by have := hpt.1; have := hpt.2.1; omega)) hbd1.1 hbd1.2.1) (add_fl hbd.2.2.1 hbd.2.2.2 (hv.is (by have := hpt.2.2.1; have := hpt.2.2.2; omega)) hbd1.2.2.1 hbd1.2.2.2))) ?_
          refine wp_step (st_pure (e_move (L35 rfl))) ?_
          refine wp_nil ?_
          refine wp_step (st_pure (e_add64 (L14 rfl) (rfl : _ = AV.s (.int .i64 (1 : Int))) rfl ⟨by omega, by omega⟩)) ?_
          refine wp_step (st_pure (e_move (L36 rfl))) ?_
          refine wp_nil ?_
          refine ⟨_, ?_, j + 1, _, rfl, by omega, rfl, relay ⟨rfl, rfl, rfl, ?_, rfl, trivial⟩⟩
          · omega
          · rw [sumOf_succ (pts := turned q 0 pts) (by rw [turned_length]; exact hj)]; rfl
      · exact ⟨0, _, _, _, by omega, by omega, rfl, .fl _, .fl _, relay ⟨rfl, rfl, rfl, rfl, rfl, rfl, rfl, rfl, trivial⟩⟩
    · have hj := of_decide_eq_false hc
      obtain rfl : j = (turned q 0 pts).length := by rw [turned_length]; omega
      rw [List.take_length]
      refine wp_exit ?_
      refine wp_seq ?_
      refine wp_step (st_pure (e_move (L5 rfl))) ?_
      refine wp_step (st_pure (e_move (L37 rfl))) ?_
      refine wp_nil ?_
      refine wp_ret ?_
      exact ⟨_, res_one (L4 rfl), rfl, rfl⟩
  · exact ⟨0, _, by omega, by omega, rfl, relay ⟨rfl, rfl, rfl, by rfl, rfl, trivial⟩⟩

theorem eql_fl {z : Int} (h : -12000000 ≤ z) (h' : z ≤ 12000000) : cmpF .eql (fl z) (fl z) = true := eql_is (is_small h h') (is_small h h')
theorem mean_eql {pts : List (Int × Int)} (h : pts ≠ []) (hb : Bd pts) : cmpF .eql (mean pts).1 (mean pts).1 = true ∧ cmpF .eql (mean pts).2 (mean pts).2 = true := by
  have hs := take_bd hb pts.length
  rw [List.take_length] at hs
  have hn : (pts.length : Int) ≠ 0 := by
    intro e; exact h (List.eq_nil_of_length_eq_zero (by omega))
  have hl := hb.1
  obtain ⟨s1, m1, e1, q1⟩ := div_near (is_small hs.1 hs.2.1) (is_small (z := pts.length) (by omega) (by omega)) hn
  obtain ⟨s2, m2, e2, q2⟩ := div_near (is_small hs.2.2.1 hs.2.2.2) (is_small (z := pts.length) (by omega) (by omega)) hn
  obtain ⟨r1, r2⟩ := mean_some h hb
  rw [r1] at q1; rw [r2] at q2
  rw [Option.some.inj q1, Option.some.inj q2]
  exact ⟨eql_near _ _ _, eql_near _ _ _⟩

/-- awake, by itself: true -/
noncomputable abbrev awakeS : List AV → AH → (AV → AH → R) → R := trueS

/-- an argument's cells -/
def acs (kd : IntKind) (pts : List (Int × Int)) : List SV := pts.flatMap fun q => [.int kd q.1, .int kd q.2]
theorem acs_get (kd : IntKind) (rest : List SV) : ∀ {pts : List (Int × Int)} {j : Nat} (hj : j < pts.length), (acs kd pts ++ rest)[0 + j * 2 + 0 * 1]? = some (.int kd pts[j].1) ∧ (acs kd pts ++ rest)[0 + j * 2 + 1 * 1]? = some (.int kd pts[j].2)
  | [], j, hj => by simp at hj
  | q :: l, 0, hj => by simp [acs]
  | q :: l, j + 1, hj => by
    have := acs_get kd rest (pts := l) (j := j) (by simpa using hj)
    simp only [acs, List.flatMap_cons, List.cons_append, List.nil_append, List.getElem_cons_succ] at this ⊢
    rw [show 0 + (j + 1) * 2 + 0 * 1 = (0 + j * 2 + 0 * 1) + 1 + 1 by omega, show 0 + (j + 1) * 2 + 1 * 1 = (0 + j * 2 + 1 * 1) + 1 + 1 by omega]
    simpa using this
theorem pcs_succ {pts : List (Int × Int)} {j : Nat} (hj : j < pts.length) : pcs (pts.take j) ++ [.cpx (fl pts[j].1) (fl pts[j].2)] = pcs (pts.take (j + 1)) := by
  rw [List.take_succ_eq_append_getElem hj]; unfold pcs; rw [List.map_append]; rfl
theorem rot_mod (q j : Nat) : q * (j % 4) % 4 = q * j % 4 := by rw [Nat.mul_mod, Nat.mod_mod, ← Nat.mul_mod]

theorem turns_run {M : Mach} (hM7 : M.sums 7 = some awakeS) (h3 : M.sums 3 = none) (hp3 : M.prog 3 = some c3) (h8 : M.sums 8 = none) (hp8 : M.prog 8 = some c8) (h9 : M.sums 9 = none) (hp9 : M.prog 9 = some c9)
    {h : AH} {a : AV} {pts : List (Int × Int)} {rest : List SV} {k : Int} (ha : Arg a 0 pts.length 2) (h0 : 0 < h.next) (hi : pts.length ≠ 0 → h.obj 0 = some (mk (acs .i16 pts ++ rest))) (hsm : ∀ q ∈ pts, Small q) :
    CW M 3 [a, .s (.int .i64 k)] h fun v h' => v = .s (.bool true) ∧ h'.obj 0 = h.obj 0 := by
  refine cw_enter h3 hp3 ?_
  show WP M _ (lay [(p1, .s (.int .i64 k)), (p0, a)] .l) h _
  have hk1 := Int.tmod_lt_of_pos k (show (0 : Int) < 4 by omega)
  have hk2 := Int.lt_tmod_of_pos k (show (0 : Int) < 4 by omega)
  obtain ⟨q, hq, hq4⟩ : ∃ q : Nat, (k.tmod 4 + 4).tmod 4 = (q : Nat) ∧ q < 4 := by
    have h1 := Int.tmod_lt_of_pos (k.tmod 4 + 4) (show (0 : Int) < 4 by omega)
    have h2 := Int.tmod_nonneg 4 (show 0 ≤ k.tmod 4 + 4 by omega)
    exact ⟨((k.tmod 4 + 4).tmod 4).toNat, by omega, by omega⟩
  refine wp_seq ?_
  refine wp_step (st_pure (e_move (rfl : _ = AV.s (.bool false)))) ?_
  refine wp_nil ?_
  refine wp_seq ?_
  refine wp_seq ?_
  refine wp_call args0 ?_
  refine cw_sum hM7 (fun k => rfl) ?_
  refine wp_step (st_pure (e_not (L15 rfl))) ?_
  refine wp_nil ?_
  refine wp_if_f (L16 rfl) (by rfl) ?_
  refine wp_skip ?_
  refine wp_seq ?_
  refine wp_seq ?_
  refine wp_step (st_pure (e_move (L0 rfl))) ?_
  refine wp_step (st_pure (e_len_arg ha (L17 rfl))) ?_
  refine wp_step (st_pure (e_gt (L18 rfl) (rfl : _ = AV.s (.int .i64 (300 : Int))))) ?_
  refine wp_nil ?_
  refine wp_if (L19 rfl) (fun hc => ?_) (fun hc => ?_)
  · skip
    refine wp_seq ?_
    refine wp_step (st_pure (e_move (rfl : _ = AV.s (.bool true)))) ?_
    refine wp_nil ?_
    refine wp_ret ?_
    exact ⟨_, res_one (L4 rfl), rfl, rfl⟩
  · have hlen : pts.length ≤ 300 := by have := of_decide_eq_false hc; omega
    have hb : Bd pts := ⟨hlen, hsm⟩
    refine wp_skip ?_
    refine wp_seq ?_
    refine wp_step (st_pure (e_move (rfl : _ = AV.s .snil))) ?_
    refine wp_nil ?_
    refine wp_seq ?_
    refine wp_step (st_pure (e_move (rfl : _ = AV.s (.int .i64 (0 : Int))))) ?_
    refine wp_step (st_pure (e_move (rfl : _ = AV.s (.int .i64 (0 : Int))))) ?_
    refine wp_step (st_pure (e_move (rfl : _ = AV.s (.int .i64 (0 : Int))))) ?_
    refine wp_step (st_pure (e_move (rfl : _ = AV.s (.int .i64 (0 : Int))))) ?_
    refine wp_nil ?_
    refine wp_seq ?_
    refine wp_step (st_pure (e_move (L1 rfl))) ?_
    refine wp_step (st_pure (e_remz (z := k.tmod 4) (L20 rfl) (rfl : _ = AV.s (.int .i64 (4 : Int))) (by decide) (by rfl))) ?_
    refine wp_step (st_pure (e_add64 (L21 rfl) (rfl : _ = AV.s (.int .i64 (4 : Int))) rfl ⟨by omega, by omega⟩)) ?_
    refine wp_step (st_pure (e_remz (z := (q : Nat)) (L22 rfl) (rfl : _ = AV.s (.int .i64 (4 : Int))) (by decide) (by exact hq))) ?_
    refine wp_step (st_pure (e_move (L23 rfl))) ?_
    refine wp_nil ?_
    refine wp_seq ?_
    refine wp_seq ?_
    refine wp_step (st_pure (e_move (rfl : _ = AV.s (.int .i64 (0 : Int))))) ?_
    refine wp_nil ?_
    refine wp_block ?_
    refine wp_while (i := pts.length) (fun m tm1 h1 => ∃ (j : Nat) (t : Tm) (pa : AV) (ip : Nat), m = pts.length - j ∧ j ≤ pts.length ∧ 0 < h1.next ∧ h1.obj 0 = h.obj 0 ∧ Grow pa ip j 1 ∧ ip ≠ 0 ∧ (j ≠ 0 → ip < h1.next ∧ h1.obj ip = some (mk (pcs (pts.take j)))) ∧ tm1 = lay [(p11, .s (.int .i64 (j : Nat))), (p0, a), (p5, pa), (p6, .s (.int .i64 (sumOf (pts.take j)).1)), (p7, .s (.int .i64 (sumOf (pts.take j)).2)), (p8, .s (.int .i64 (sumOf ((turned q 0 pts).take j)).1)), (p9, .s (.int .i64 (sumOf ((turned q 0 pts).take j)).2)), (p10, .s (.int .i64 (q : Nat))), (p1, .s (.int .i64 k))] t) (fun m tm1 h1 hI => ?_) ?_
    · obtain ⟨j, t, pa, ip, rfl, hjl, hnx, ho0, hg, hip0, hip, rfl⟩ := hI
      refine wp_seq ?_
      refine wp_seq ?_
      refine wp_step (st_pure (e_move (L11 rfl))) ?_
      refine wp_step (st_pure (e_move (L0 rfl))) ?_
      refine wp_step (st_pure (e_len_arg ha (L25 rfl))) ?_
      refine wp_step (st_pure (e_lt (L24 rfl) (L26 rfl))) ?_
      refine wp_nil ?_
      refine wp_if (L27 rfl) (fun hc => ?_) (fun hc => ?_)
      · have hj : j < pts.length := by have := of_decide_eq_true hc; omega
        have hjt : j < (turned q 0 pts).length := by rw [turned_length]; exact hj
        have hpt := pt_small hb hj
        have hbd := take_bd hb j
        have hbd1 := take_bd hb (j + 1)
        rw [sumOf_succ hj] at hbd1
        have hbdt := take_bd (turned_bd (k := q) hb) j
        have hbdt1 := take_bd (turned_bd (k := q) hb) (j + 1)
        have hst := sumOf_succ hjt
        have hget := turned_get q pts 0 j hj
        rw [Nat.zero_add, rot_mod] at hget
        rw [hget] at hst
        have hget2 := acs_get .i16 rest hj
        have hobj : h1.obj 0 = some (mk (acs .i16 pts ++ rest)) := ho0.trans (hi (by omega))
        obtain ⟨m, hm, hm9⟩ : ∃ m, q * j = m ∧ m ≤ 900 := ⟨_, rfl, Nat.le_trans (Nat.mul_le_mul (show q ≤ 3 by omega) (show j ≤ 300 by omega)) (by omega)⟩
        rw [hm] at hst
        obtain ⟨p1, p2, p3, p4⟩ := hpt
        refine wp_skip ?_
        refine wp_seq ?_
        refine wp_block ?_
        refine wp_seq ?_
        refine wp_draw ?_
        refine dwp_step (st_pure (e_move (L0 rfl))) ?_
        refine dwp_step (st_pure (e_move (L11 rfl))) ?_
        refine dwp_step (st_pure (e_idx_arg ha (L30 rfl) (L31 rfl) (by omega))) ?_
        refine dwp_step (st_pure (e_idxA (L32 rfl) (rfl : _ = AV.s (.int .i64 ((0 : Nat) : Int))) (by omega))) ?_
        refine dwp_step (st_read (e_load1 (L33 rfl) hobj hget2.1)) ?_
        refine dwp_step (st_pure (e_i2iz (z := pts[j].1) (L34 rfl) (by exact wrap64 ⟨by omega, by omega⟩))) ?_
        refine dwp_step (st_pure (e_move (L0 rfl))) ?_
        refine dwp_step (st_pure (e_move (L11 rfl))) ?_
        refine dwp_step (st_pure (e_idx_arg ha (L36 rfl) (L37 rfl) (by omega))) ?_
        refine dwp_step (st_pure (e_idxA (L38 rfl) (rfl : _ = AV.s (.int .i64 ((1 : Nat) : Int))) (by omega))) ?_
        refine dwp_step (st_read (e_load1 (L39 rfl) hobj hget2.2)) ?_
        refine dwp_step (st_pure (e_i2iz (z := pts[j].2) (L40 rfl) (by exact wrap64 ⟨by omega, by omega⟩))) ?_
        refine dwp_step (st_pure (e_move (L35 rfl))) ?_
        refine dwp_step (st_pure (e_move (L41 rfl))) ?_
        refine dwp_nil ⟨Chk.none rfl, ?_⟩
        refine wp_seq ?_
        refine wp_step (st_pure (e_move (L5 rfl))) ?_
        refine wp_step (st_pure (e_move (L12 rfl))) ?_
        refine wp_step (st_pure (e_i2f (L43 rfl))) ?_
        refine wp_step (st_pure (e_move (L13 rfl))) ?_
        refine wp_step (st_pure (e_i2f (L45 rfl))) ?_
        refine wp_step (st_pure (e_cpx (L44 rfl) (L46 rfl))) ?_
        refine wp_step (st_alloc (e_row1 (L47 rfl))) ?_
        refine wp_append (i := ip) (l := pcs (pts.take j)) hg (L42 rfl) (fun hj0 => (obj_new_ne _ _ (by have := (hip hj0).1; show ip ≠ h1.next + 14; omega)).trans (hip hj0).2) (by simp [pcs]; omega) (L48 rfl) (obj_new_self _ _) (rfl : _ = [_]) (by simp) (by omega) (by omega) (by omega) (by omega) ?_
        intro h' hn' ho' hk'
        refine wp_step (st_pure (e_move (L49 rfl))) ?_
        refine wp_nil ?_
        refine wp_seq ?_
        refine wp_step (st_pure (e_move (L6 rfl))) ?_
        refine wp_step (st_pure (e_move (L12 rfl))) ?_
        refine wp_step (st_pure (e_add64 (L50 rfl) (L51 rfl) rfl ⟨by omega, by omega⟩)) ?_
        refine wp_step (st_pure (e_move (L7 rfl))) ?_
        refine wp_step (st_pure (e_move (L13 rfl))) ?_
        refine wp_step (st_pure (e_add64 (L53 rfl) (L54 rfl) rfl ⟨by omega, by omega⟩)) ?_
        refine wp_step (st_pure (e_move (L52 rfl))) ?_
        refine wp_step (st_pure (e_move (L55 rfl))) ?_
        refine wp_nil ?_
        refine wp_seq ?_
        refine wp_step (st_pure (e_move (L10 rfl))) ?_
        refine wp_step (st_pure (e_move (L11 rfl))) ?_
        refine wp_step (st_pure (e_mul64 (z := (m : Nat)) (L56 rfl) (L57 rfl) (by show ((q * j : Nat) : Int) = m; rw [hm]) ⟨by omega, by omega⟩)) ?_
        refine wp_step (st_pure (e_remz (z := (m % 4 : Nat)) (L58 rfl) (rfl : _ = AV.s (.int .i64 (4 : Int))) (by decide) (by rfl))) ?_
        refine wp_nil ?_
        refine wp_block ?_
        refine wp_seq ?_
        refine wp_step (st_pure (e_eqI (L59 rfl) (rfl : _ = AV.s (.int .i64 (0 : Int))))) ?_
        refine wp_step (st_pure (e_move (L67 rfl))) ?_
        refine wp_nil ?_
        refine wp_if (L66 rfl) (fun hc => ?_) (fun hc => ?_)
        · have hr : m % 4 = 0 := by have hc : (((m % 4 : Nat) : Int) == 0) = true := hc; simp at hc; omega
          rw [hr] at hst
          have e1 := congrArg Prod.fst hst
          have e2 := congrArg Prod.snd hst
          simp only [rotn] at e1 e2
          refine wp_step (st_pure (e_move (L8 rfl))) ?_
          refine wp_step (st_pure (e_move (L12 rfl))) ?_
          refine wp_step (st_pure (e_add64 (z := (sumOf ((turned q 0 pts).take (j + 1))).1) (L68 rfl) (L69 rfl) (by omega) ⟨by omega, by omega⟩)) ?_
          refine wp_step (st_pure (e_move (L9 rfl))) ?_
          refine wp_step (st_pure (e_move (L13 rfl))) ?_
          refine wp_step (st_pure (e_add64 (z := (sumOf ((turned q 0 pts).take (j + 1))).2) (L71 rfl) (L72 rfl) (by omega) ⟨by omega, by omega⟩)) ?_
          refine wp_step (st_pure (e_move (L70 rfl))) ?_
          refine wp_step (st_pure (e_move (L73 rfl))) ?_
          refine wp_nil ?_
          refine wp_step (st_pure (e_move (L11 rfl))) ?_
          refine wp_step (st_pure (e_add64 (L28 rfl) (rfl : _ = AV.s (.int .i64 (1 : Int))) rfl ⟨by omega, by omega⟩)) ?_
          refine wp_step (st_pure (e_move (L29 rfl))) ?_
          refine wp_nil ?_
          refine ⟨_, ?_, j + 1, _, _, h1.next + 14 + 1, rfl, by omega, ?_, ?_, .inr ⟨by omega, rfl⟩, by omega, fun _ => ⟨?_, ?_⟩, relay ⟨rfl, rfl, rfl, ?_, ?_, ?_, ?_, rfl, rfl, trivial⟩⟩
          · omega
          · rw [hn']; exact Nat.succ_pos _
          · rw [hk' 0 (Nat.succ_pos _) (Ne.symm hip0)]; exact (obj_new_ne _ _ (by show 0 ≠ h1.next + 14; omega)).trans ho0
          · rw [hn']; show h1.next + 14 + 1 < h1.next + 14 + 1 + 1; omega
          · refine Eq.trans ho' ?_; rw [← pcs_succ hj]; rfl
          · rw [sumOf_succ hj]; rfl
          · rw [sumOf_succ hj]; rfl
          · rfl
          · rfl
        · have hn0 : m % 4 ≠ 0 := fun e => by have hc : (((m % 4 : Nat) : Int) == 0) = false := hc; simp at hc; omega
          refine wp_seq ?_
          refine wp_step (st_pure (e_eqI (L59 rfl) (rfl : _ = AV.s (.int .i64 (1 : Int))))) ?_
          refine wp_step (st_pure (e_move (L75 rfl))) ?_
          refine wp_nil ?_
          refine wp_if (L74 rfl) (fun hc => ?_) (fun hc => ?_)
          · have hr : m % 4 = 1 := by have hc : (((m % 4 : Nat) : Int) == 1) = true := hc; simp at hc; omega
            rw [hr] at hst
            have e1 := congrArg Prod.fst hst
            have e2 := congrArg Prod.snd hst
            simp only [rotn, rot] at e1 e2
            refine wp_step (st_pure (e_move (L8 rfl))) ?_
            refine wp_step (st_pure (e_move (L13 rfl))) ?_
            refine wp_step (st_pure (e_sub64 (z := (sumOf ((turned q 0 pts).take (j + 1))).1) (L76 rfl) (L77 rfl) (by omega) ⟨by omega, by omega⟩)) ?_
            refine wp_step (st_pure (e_move (L9 rfl))) ?_
            refine wp_step (st_pure (e_move (L12 rfl))) ?_
            refine wp_step (st_pure (e_add64 (z := (sumOf ((turned q 0 pts).take (j + 1))).2) (L79 rfl) (L80 rfl) (by omega) ⟨by omega, by omega⟩)) ?_
            refine wp_step (st_pure (e_move (L78 rfl))) ?_
            refine wp_step (st_pure (e_move (L81 rfl))) ?_
            refine wp_nil ?_
            refine wp_step (st_pure (e_move (L11 rfl))) ?_
            refine wp_step (st_pure (e_add64 (L28 rfl) (rfl : _ = AV.s (.int .i64 (1 : Int))) rfl ⟨by omega, by omega⟩)) ?_
            refine wp_step (st_pure (e_move (L29 rfl))) ?_
            refine wp_nil ?_
            refine ⟨_, ?_, j + 1, _, _, h1.next + 14 + 1, rfl, by omega, ?_, ?_, .inr ⟨by omega, rfl⟩, by omega, fun _ => ⟨?_, ?_⟩, relay ⟨rfl, rfl, rfl, ?_, ?_, ?_, ?_, rfl, rfl, trivial⟩⟩
            · omega
            · rw [hn']; exact Nat.succ_pos _
            · rw [hk' 0 (Nat.succ_pos _) (Ne.symm hip0)]; exact (obj_new_ne _ _ (by show 0 ≠ h1.next + 14; omega)).trans ho0
            · rw [hn']; show h1.next + 14 + 1 < h1.next + 14 + 1 + 1; omega
            · refine Eq.trans ho' ?_; rw [← pcs_succ hj]; rfl
            · rw [sumOf_succ hj]; rfl
            · rw [sumOf_succ hj]; rfl
            · rfl
            · rfl
          · have hn1 : m % 4 ≠ 1 := fun e => by have hc : (((m % 4 : Nat) : Int) == 1) = false := hc; simp at hc; omega
            refine wp_seq ?_
            refine wp_step (st_pure (e_eqI (L59 rfl) (rfl : _ = AV.s (.int .i64 (2 : Int))))) ?_
            refine wp_step (st_pure (e_move (L83 rfl))) ?_
            refine wp_nil ?_
            refine wp_if (L82 rfl) (fun hc => ?_) (fun hc => ?_)
            · have hr : m % 4 = 2 := by have hc : (((m % 4 : Nat) : Int) == 2) = true := hc; simp at hc; omega
              rw [hr] at hst
              have e1 := congrArg Prod.fst hst
              have e2 := congrArg Prod.snd hst
              simp only [rotn, rot] at e1 e2
              refine wp_step (st_pure (e_move (L8 rfl))) ?_
              refine wp_step (st_pure (e_move (L12 rfl))) ?_
              refine wp_step (st_pure (e_sub64 (z := (sumOf ((turned q 0 pts).take (j + 1))).1) (L84 rfl) (L85 rfl) (by omega) ⟨by omega, by omega⟩)) ?_
              refine wp_step (st_pure (e_move (L9 rfl))) ?_
              refine wp_step (st_pure (e_move (L13 rfl))) ?_
              refine wp_step (st_pure (e_sub64 (z := (sumOf ((turned q 0 pts).take (j + 1))).2) (L87 rfl) (L88 rfl) (by omega) ⟨by omega, by omega⟩)) ?_
              refine wp_step (st_pure (e_move (L86 rfl))) ?_
              refine wp_step (st_pure (e_move (L89 rfl))) ?_
              refine wp_nil ?_
              refine wp_step (st_pure (e_move (L11 rfl))) ?_
              refine wp_step (st_pure (e_add64 (L28 rfl) (rfl : _ = AV.s (.int .i64 (1 : Int))) rfl ⟨by omega, by omega⟩)) ?_
              refine wp_step (st_pure (e_move (L29 rfl))) ?_
              refine wp_nil ?_
              refine ⟨_, ?_, j + 1, _, _, h1.next + 14 + 1, rfl, by omega, ?_, ?_, .inr ⟨by omega, rfl⟩, by omega, fun _ => ⟨?_, ?_⟩, relay ⟨rfl, rfl, rfl, ?_, ?_, ?_, ?_, rfl, rfl, trivial⟩⟩
              · omega
              · rw [hn']; exact Nat.succ_pos _
              · rw [hk' 0 (Nat.succ_pos _) (Ne.symm hip0)]; exact (obj_new_ne _ _ (by show 0 ≠ h1.next + 14; omega)).trans ho0
              · rw [hn']; show h1.next + 14 + 1 < h1.next + 14 + 1 + 1; omega
              · refine Eq.trans ho' ?_; rw [← pcs_succ hj]; rfl
              · rw [sumOf_succ hj]; rfl
              · rw [sumOf_succ hj]; rfl
              · rfl
              · rfl
            · have hn2 : m % 4 ≠ 2 := fun e => by have hc : (((m % 4 : Nat) : Int) == 2) = false := hc; simp at hc; omega
              have hr : m % 4 = 3 := by omega
              rw [hr] at hst
              have e1 := congrArg Prod.fst hst
              have e2 := congrArg Prod.snd hst
              simp only [rotn, rot] at e1 e2
              refine wp_step (st_pure (e_move (L8 rfl))) ?_
              refine wp_step (st_pure (e_move (L13 rfl))) ?_
              refine wp_step (st_pure (e_add64 (z := (sumOf ((turned q 0 pts).take (j + 1))).1) (L60 rfl) (L61 rfl) (by omega) ⟨by omega, by omega⟩)) ?_
              refine wp_step (st_pure (e_move (L9 rfl))) ?_
              refine wp_step (st_pure (e_move (L12 rfl))) ?_
              refine wp_step (st_pure (e_sub64 (z := (sumOf ((turned q 0 pts).take (j + 1))).2) (L63 rfl) (L64 rfl) (by omega) ⟨by omega, by omega⟩)) ?_
              refine wp_step (st_pure (e_move (L62 rfl))) ?_
              refine wp_step (st_pure (e_move (L65 rfl))) ?_
              refine wp_nil ?_
              refine wp_step (st_pure (e_move (L11 rfl))) ?_
              refine wp_step (st_pure (e_add64 (L28 rfl) (rfl : _ = AV.s (.int .i64 (1 : Int))) rfl ⟨by omega, by omega⟩)) ?_
              refine wp_step (st_pure (e_move (L29 rfl))) ?_
              refine wp_nil ?_
              refine ⟨_, ?_, j + 1, _, _, h1.next + 14 + 1, rfl, by omega, ?_, ?_, .inr ⟨by omega, rfl⟩, by omega, fun _ => ⟨?_, ?_⟩, relay ⟨rfl, rfl, rfl, ?_, ?_, ?_, ?_, rfl, rfl, trivial⟩⟩
              · omega
              · rw [hn']; exact Nat.succ_pos _
              · rw [hk' 0 (Nat.succ_pos _) (Ne.symm hip0)]; exact (obj_new_ne _ _ (by show 0 ≠ h1.next + 14; omega)).trans ho0
              · rw [hn']; show h1.next + 14 + 1 < h1.next + 14 + 1 + 1; omega
              · refine Eq.trans ho' ?_; rw [← pcs_succ hj]; rfl
              · rw [sumOf_succ hj]; rfl
              · rw [sumOf_succ hj]; rfl
              · rfl
              · rfl
      · have hj := of_decide_eq_false hc
        obtain rfl : j = pts.length := by omega
        have htl : (turned q 0 pts).take pts.length = turned q 0 pts := by rw [← turned_length q pts 0, List.take_length]
        rw [htl, List.take_length]
        rw [List.take_length] at hip
        refine wp_exit ?_
        refine wp_seq ?_
        refine wp_step (st_pure (e_move (L5 rfl))) ?_
        refine wp_call (args1 (L90 rfl) args0) ?_
        refine (mean_ok h8 hp8 hg.arg (fun e => (hip e).2) hb).mono ?_
        rintro v h2 ⟨rfl, rfl⟩
        refine wp_step (st_pure (e_move (L91 rfl))) ?_
        refine wp_nil ?_
        refine wp_seq ?_
        refine wp_seq ?_
        refine wp_step (st_pure (e_move (L5 rfl))) ?_
        refine wp_step (st_pure (e_move (L1 rfl))) ?_
        refine wp_call (args1 (L92 rfl) (args1 (L93 rfl) args0)) ?_
        refine (turn_ok h9 hp9 hq hg.arg (fun e => (hip e).2) hb).mono ?_
        rintro v h2 ⟨rfl, rfl⟩
        have hbt := take_bd (turned_bd (k := q) hb) pts.length
        rw [htl] at hbt
        have hbp := take_bd hb pts.length
        rw [List.take_length] at hbp
        refine wp_step (st_pure (e_move (L8 rfl))) ?_
        refine wp_step (st_pure (e_i2f (L95 rfl))) ?_
        refine wp_step (st_pure (e_move (L9 rfl))) ?_
        refine wp_step (st_pure (e_i2f (L97 rfl))) ?_
        refine wp_step (st_pure (e_cpx (L96 rfl) (L98 rfl))) ?_
        refine wp_step (st_pure (e_neC (L94 rfl) (L99 rfl))) ?_
        refine wp_nil ?_
        refine wp_if_f (L100 rfl) (by show (!(cmpF .eql (fl _) (fl _) && cmpF .eql (fl _) (fl _))) = false; rw [eql_fl hbt.1 hbt.2.1, eql_fl hbt.2.2.1 hbt.2.2.2]; rfl) ?_
        refine wp_skip ?_
        refine wp_seq ?_
        refine wp_seq ?_
        refine wp_step (st_pure (e_move (L0 rfl))) ?_
        refine wp_step (st_pure (e_len_arg ha (L101 rfl))) ?_
        refine wp_step (st_pure (e_eqI (L102 rfl) (rfl : _ = AV.s (.int .i64 (0 : Int))))) ?_
        refine wp_nil ?_
        refine wp_if (L103 rfl) (fun hc => ?_) (fun hc => ?_)
        · skip
          refine wp_seq ?_
          refine wp_step (st_pure (e_move (L14 rfl))) ?_
          refine wp_step (st_pure (e_eqC (L104 rfl) (rfl : _ = AV.s (.cpx 0 0)))) ?_
          refine wp_step (st_pure (e_move (L105 rfl))) ?_
          refine wp_nil ?_
          refine wp_ret ?_
          refine ⟨_, res_one (L4 rfl), ?_, ho0⟩
          have hnil : pts = [] := by
            have hc : ((pts.length : Int) == 0) = true := hc
            exact List.eq_nil_of_length_eq_zero (by simpa using hc)
          subst hnil
          show AV.s (.bool (cmpF .eql 0 0 && cmpF .eql 0 0)) = _
          rw [show cmpF .eql 0 0 = true from by decide +kernel]; rfl
        · have hne : pts ≠ [] := fun e => by subst e; exact absurd hc (by decide)
          have hr := mean_some hne hb
          have hme := mean_eql hne hb
          refine wp_skip ?_
          refine wp_seq ?_
          refine wp_step (st_pure (e_move (L14 rfl))) ?_
          refine wp_step (st_pure (e_move (L6 rfl))) ?_
          refine wp_step (st_pure (e_i2f (L107 rfl))) ?_
          refine wp_step (st_pure (e_move (L0 rfl))) ?_
          refine wp_step (st_pure (e_len_arg ha (L109 rfl))) ?_
          refine wp_step (st_pure (e_i2f (L110 rfl))) ?_
          refine wp_step (st_pure (e_arF (L108 rfl) (L111 rfl) hr.1)) ?_
          refine wp_step (st_pure (e_move (L7 rfl))) ?_
          refine wp_step (st_pure (e_i2f (L113 rfl))) ?_
          refine wp_step (st_pure (e_move (L0 rfl))) ?_
          refine wp_step (st_pure (e_len_arg ha (L115 rfl))) ?_
          refine wp_step (st_pure (e_i2f (L116 rfl))) ?_
          refine wp_step (st_pure (e_arF (L114 rfl) (L117 rfl) hr.2)) ?_
          refine wp_step (st_pure (e_cpx (L112 rfl) (L118 rfl))) ?_
          refine wp_step (st_pure (e_eqC (L106 rfl) (L119 rfl))) ?_
          refine wp_step (st_pure (e_move (L120 rfl))) ?_
          refine wp_nil ?_
          refine wp_ret ?_
          refine ⟨_, res_one (L4 rfl), ?_, ho0⟩
          show AV.s (.bool (cmpF .eql (mean pts).1 (mean pts).1 && cmpF .eql (mean pts).2 (mean pts).2)) = _
          rw [hme.1, hme.2]; rfl
    · exact ⟨0, _, .s .snil, 1, by omega, by omega, h0, rfl, .inl ⟨rfl, rfl⟩, by omega, fun e => absurd rfl e, relay ⟨rfl, rfl, rfl, rfl, rfl, rfl, rfl, rfl, rfl, trivial⟩⟩

theorem sum_bdB {B : Int} : ∀ {pts : List (Int × Int)}, (∀ q ∈ pts, -B ≤ q.1 ∧ q.1 ≤ B ∧ -B ≤ q.2 ∧ q.2 ≤ B) → -(B * (pts.length : Int)) ≤ (sumOf pts).1 ∧ (sumOf pts).1 ≤ B * (pts.length : Int) ∧ -(B * (pts.length : Int)) ≤ (sumOf pts).2 ∧ (sumOf pts).2 ≤ B * (pts.length : Int)
  | [], _ => by simp [sumOf]
  | q :: l, h => by
    have h1 := sum_bdB (pts := l) fun q hq => h q (by simp [hq])
    obtain ⟨h2, h3, h4, h5⟩ := h q (by simp)
    simp only [sumOf, List.length_cons]
    rw [show ((l.length + 1 : Nat) : Int) = (l.length : Int) + 1 by omega, Int.mul_add, Int.mul_one]
    omega
def mapi (f : Nat → Int × Int → Int × Int) : Nat → List (Int × Int) → List (Int × Int)
  | _, [] => []
  | j, q :: l => f j q :: mapi f (j + 1) l
theorem mapi_length (f : Nat → Int × Int → Int × Int) : ∀ (l : List (Int × Int)) (j : Nat), (mapi f j l).length = l.length
  | [], _ => rfl
  | _ :: l, j => by simp [mapi, mapi_length f l (j + 1)]
theorem mapi_get (f : Nat → Int × Int → Int × Int) : ∀ (l : List (Int × Int)) (j i : Nat) (hi : i < l.length), (mapi f j l)[i]'(by rw [mapi_length]; exact hi) = f (j + i) l[i]
  | [], _, i, hi => by simp at hi
  | q :: l, j, 0, _ => rfl
  | q :: l, j, i + 1, hi => by
    have := mapi_get f l (j + 1) i (by simpa using hi)
    simp only [mapi, List.getElem_cons_succ]
    rw [this, show j + 1 + i = j + (i + 1) by omega]
def four (j : Nat) (q : Int × Int) : Int × Int := if j % 4 = 0 then (4 * q.1, 4 * q.2) else (0, 0)
theorem four_bd {pts : List (Int × Int)} (hb : Bd pts) (j : Nat) : -48000000 ≤ (sumOf ((mapi four 0 pts).take j)).1 ∧ (sumOf ((mapi four 0 pts).take j)).1 ≤ 48000000 ∧ -48000000 ≤ (sumOf ((mapi four 0 pts).take j)).2 ∧ (sumOf ((mapi four 0 pts).take j)).2 ≤ 48000000 := by
  have h := sum_bdB (B := 160000) (pts := (mapi four 0 pts).take j) fun q hq => by
    obtain ⟨i, hi, rfl⟩ := List.getElem_of_mem (List.mem_of_mem_take hq)
    rw [mapi_length] at hi
    rw [mapi_get four pts 0 i hi]
    obtain ⟨h1, h2, h3, h4⟩ := pt_small hb hi
    unfold four
    split
    · simp only []; omega
    · simp
  have h2 := hb.1
  rw [List.length_take, mapi_length] at h
  omega
theorem sum_four : ∀ (pts : List (Int × Int)) (j : Nat), (sumOf (turned 0 j pts)).1 + (sumOf (turned 1 j pts)).1 + (sumOf (turned 2 j pts)).1 + (sumOf (turned 3 j pts)).1 = (sumOf (mapi four j pts)).1 ∧
    (sumOf (turned 0 j pts)).2 + (sumOf (turned 1 j pts)).2 + (sumOf (turned 2 j pts)).2 + (sumOf (turned 3 j pts)).2 = (sumOf (mapi four j pts)).2
  | [], j => by simp [turned, mapi, sumOf]
  | q :: l, j => by
    have ih := sum_four l (j + 1)
    simp only [turned, mapi, sumOf]
    have hj : j % 4 = 0 ∨ j % 4 = 1 ∨ j % 4 = 2 ∨ j % 4 = 3 := by omega
    rcases hj with e | e | e | e <;> rw [e] <;> simp [four, e, rotn, rot] <;> omega
theorem mul4 {q : Int × Int} (h : Small q) : ∃ p t u v, arithF .mul 4616189618054758400 (fl q.1) = some p ∧ arithF .mul 0 (fl q.2) = some t ∧ arithF .sub p t = some (fl (4 * q.1)) ∧ arithF .mul 4616189618054758400 (fl q.2) = some u ∧ arithF .mul 0 (fl q.1) = some v ∧ arithF .add u v = some (fl (4 * q.2)) := by
  obtain ⟨h1, h2, h3, h4⟩ := h
  have f4 : fl 4 = 4616189618054758400 := by decide +kernel
  have f0 : fl 0 = 0 := by decide +kernel
  have m4 : ∀ z : Int, -40000 ≤ z → z ≤ 40000 → arithF .mul 4616189618054758400 (fl z) = some (fl (4 * z)) := by
    intro z hz hz'
    by_cases h0 : z = 0
    · subst h0; decide +kernel
    · obtain ⟨w, e1, e2, e3⟩ := mul_is (is_small (z := 4) (by omega) (by omega)) (is_small (z := z) (by omega) (by omega)) (by omega) (by omega) (by omega)
      rw [← f4, e1, e3 (by omega)]; rfl
  have m0 : ∀ z : Int, -40000 ≤ z → z ≤ 40000 → ∃ w, arithF .mul 0 (fl z) = some w ∧ Is w 0 0 := by
    intro z hz hz'
    obtain ⟨w, e1, e2, e3⟩ := mul_is (is_small (z := 0) (by omega) (by omega)) (is_small (z := z) (by omega) (by omega)) (by omega) (by omega) (by omega)
    rw [f0] at e1
    rw [Int.zero_mul] at e2
    exact ⟨w, e1, e2⟩
  obtain ⟨t, ht, ht'⟩ := m0 q.2 h3 h4
  obtain ⟨v, hv, hv'⟩ := m0 q.1 h1 h2
  refine ⟨_, t, _, v, m4 _ h1 h2, ht, ?_, m4 _ h3 h4, hv, ?_⟩
  · have := sub_is (x := fl (4 * q.1)) rfl (by omega) ht' (by omega) (by omega) (by omega)
    rwa [Int.sub_zero] at this
  · have := add_is (x := fl (4 * q.2)) rfl (by omega) hv' (by omega) (by omega) (by omega)
    rwa [Int.add_zero] at this
theorem add_big {a b : Int} (h1 : -50000000 ≤ a) (h2 : a ≤ 50000000) (h3 : -50000000 ≤ b) (h4 : b ≤ 50000000) : arithF .add (fl a) (fl b) = some (fl (a + b)) :=
  add_is rfl (by omega) (is_dy (by omega) (by omega) (by omega)) (by omega) (by omega) (by omega)
theorem eql_big {a : Int} (h1 : -50000000 ≤ a) (h2 : a ≤ 50000000) : cmpF .eql (fl a) (fl a) = true :=
  eql_is (is_dy (by omega) (by omega) (by omega)) (is_dy (by omega) (by omega) (by omega))

theorem whole_run {M : Mach} (hM7 : M.sums 7 = some awakeS) (h5 : M.sums 5 = none) (hp5 : M.prog 5 = some c5) (h9 : M.sums 9 = none) (hp9 : M.prog 9 = some c9)
    {h : AH} {a : AV} {pts : List (Int × Int)} {rest : List SV} (ha : Arg a 0 pts.length 2) (h0 : 0 < h.next) (hi : pts.length ≠ 0 → h.obj 0 = some (mk (acs .i16 pts ++ rest))) (hsm : ∀ q ∈ pts, Small q) :
    CW M 5 [a] h fun v h' => v = .s (.bool true) ∧ h'.obj 0 = h.obj 0 := by
  refine cw_enter h5 hp5 ?_
  show WP M _ (lay [(p0, a)] .l) h _
  refine wp_seq ?_
  refine wp_step (st_pure (e_move (rfl : _ = AV.s (.bool false)))) ?_
  refine wp_nil ?_
  refine wp_seq ?_
  refine wp_seq ?_
  refine wp_call args0 ?_
  refine cw_sum hM7 (fun k => rfl) ?_
  refine wp_step (st_pure (e_not (L8 rfl))) ?_
  refine wp_nil ?_
  refine wp_if_f (L9 rfl) (by rfl) ?_
  refine wp_skip ?_
  refine wp_seq ?_
  refine wp_seq ?_
  refine wp_step (st_pure (e_move (L0 rfl))) ?_
  refine wp_step (st_pure (e_len_arg ha (L10 rfl))) ?_
  refine wp_step (st_pure (e_gt (L11 rfl) (rfl : _ = AV.s (.int .i64 (300 : Int))))) ?_
  refine wp_nil ?_
  refine wp_if (L12 rfl) (fun hc => ?_) (fun hc => ?_)
  · skip
    refine wp_seq ?_
    refine wp_step (st_pure (e_move (rfl : _ = AV.s (.bool true)))) ?_
    refine wp_nil ?_
    refine wp_ret ?_
    exact ⟨_, res_one (L2 rfl), rfl, rfl⟩
  · have hlen : pts.length ≤ 300 := by have := of_decide_eq_false hc; omega
    have hb : Bd pts := ⟨hlen, hsm⟩
    refine wp_skip ?_
    refine wp_seq ?_
    refine wp_step (st_pure (e_move (rfl : _ = AV.s .snil))) ?_
    refine wp_nil ?_
    refine wp_seq ?_
    refine wp_step (st_pure (e_move (rfl : _ = AV.s (.cpx 0 0)))) ?_
    refine wp_nil ?_
    refine wp_seq ?_
    refine wp_seq ?_
    refine wp_step (st_pure (e_move (rfl : _ = AV.s (.int .i64 (0 : Int))))) ?_
    refine wp_nil ?_
    refine wp_block ?_
    refine wp_while (i := pts.length) (fun m tm1 h1 => ∃ (j : Nat) (t : Tm) (pa : AV) (ip : Nat), m = pts.length - j ∧ j ≤ pts.length ∧ 0 < h1.next ∧ h1.obj 0 = h.obj 0 ∧ Grow pa ip j 1 ∧ ip ≠ 0 ∧ (j ≠ 0 → ip < h1.next ∧ h1.obj ip = some (mk (pcs (pts.take j)))) ∧ tm1 = lay [(p5, .s (.int .i64 (j : Nat))), (p0, a), (p3, pa), (p4, .s (.cpx (fl (sumOf ((mapi four 0 pts).take j)).1) (fl (sumOf ((mapi four 0 pts).take j)).2)))] t) (fun m tm1 h1 hI => ?_) ?_
    · obtain ⟨j, t, pa, ip, rfl, hjl, hnx, ho0, hg, hip0, hip, rfl⟩ := hI
      refine wp_seq ?_
      refine wp_seq ?_
      refine wp_step (st_pure (e_move (L5 rfl))) ?_
      refine wp_step (st_pure (e_move (L0 rfl))) ?_
      refine wp_step (st_pure (e_len_arg ha (L14 rfl))) ?_
      refine wp_step (st_pure (e_lt (L13 rfl) (L15 rfl))) ?_
      refine wp_nil ?_
      refine wp_if (L16 rfl) (fun hc => ?_) (fun hc => ?_)
      · have hj : j < pts.length := by have := of_decide_eq_true hc; omega
        have hjt : j < (mapi four 0 pts).length := by rw [mapi_length]; exact hj
        have hpt := pt_small hb hj
        have hbd := four_bd hb j
        have hst := sumOf_succ hjt
        rw [mapi_get four pts 0 j hj, Nat.zero_add] at hst
        have hget2 := acs_get .i16 rest hj
        have hobj : h1.obj 0 = some (mk (acs .i16 pts ++ rest)) := ho0.trans (hi (by omega))
        refine wp_skip ?_
        refine wp_seq ?_
        refine wp_block ?_
        refine wp_seq ?_
        refine wp_draw ?_
        refine dwp_step (st_pure (e_move (L0 rfl))) ?_
        refine dwp_step (st_pure (e_move (L5 rfl))) ?_
        refine dwp_step (st_pure (e_idx_arg ha (L19 rfl) (L20 rfl) (by omega))) ?_
        refine dwp_step (st_pure (e_idxA (L21 rfl) (rfl : _ = AV.s (.int .i64 ((0 : Nat) : Int))) (by omega))) ?_
        refine dwp_step (st_read (e_load1 (L22 rfl) hobj hget2.1)) ?_
        refine dwp_step (st_pure (e_i2f (L23 rfl))) ?_
        refine dwp_step (st_pure (e_move (L0 rfl))) ?_
        refine dwp_step (st_pure (e_move (L5 rfl))) ?_
        refine dwp_step (st_pure (e_idx_arg ha (L25 rfl) (L26 rfl) (by omega))) ?_
        refine dwp_step (st_pure (e_idxA (L27 rfl) (rfl : _ = AV.s (.int .i64 ((1 : Nat) : Int))) (by omega))) ?_
        refine dwp_step (st_read (e_load1 (L28 rfl) hobj hget2.2)) ?_
        refine dwp_step (st_pure (e_i2f (L29 rfl))) ?_
        refine dwp_step (st_pure (e_cpx (L24 rfl) (L30 rfl))) ?_
        refine dwp_step (st_pure (e_move (L31 rfl))) ?_
        refine dwp_nil ⟨Chk.none rfl, ?_⟩
        refine wp_seq ?_
        refine wp_step (st_pure (e_move (L3 rfl))) ?_
        refine wp_step (st_pure (e_move (L6 rfl))) ?_
        refine wp_step (st_alloc (e_row1 (L33 rfl))) ?_
        refine wp_append (i := ip) (l := pcs (pts.take j)) hg (L32 rfl) (fun hj0 => (obj_new_ne _ _ (by have := (hip hj0).1; show ip ≠ h1.next + 14; omega)).trans (hip hj0).2) (by simp [pcs]; omega) (L34 rfl) (obj_new_self _ _) (rfl : _ = [_]) (by simp) (by omega) (by omega) (by omega) (by omega) ?_
        intro h' hn' ho' hk'
        refine wp_step (st_pure (e_move (L35 rfl))) ?_
        refine wp_nil ?_
        refine wp_seq ?_
        refine wp_step (st_pure (e_move (L5 rfl))) ?_
        refine wp_step (st_pure (e_remz (z := (j % 4 : Nat)) (L36 rfl) (rfl : _ = AV.s (.int .i64 (4 : Int))) (by decide) (by rfl))) ?_
        refine wp_step (st_pure (e_eqI (L37 rfl) (rfl : _ = AV.s (.int .i64 (0 : Int))))) ?_
        refine wp_nil ?_
        refine wp_if (L38 rfl) (fun hc => ?_) (fun hc => ?_)
        · have hr : j % 4 = 0 := by have hc : (((j % 4 : Nat) : Int) == 0) = true := hc; simp at hc; omega
          simp only [four, if_pos hr] at hst
          obtain ⟨w1, w2, w3, w4, e1, e2, e3, e4, e5, e6⟩ := mul4 hpt
          obtain ⟨q1, q2, q3, q4⟩ := hpt
          refine wp_step (st_pure (e_move (L4 rfl))) ?_
          refine wp_step (st_pure (e_move (L6 rfl))) ?_
          refine wp_step (st_pure (e_mulC (rfl : _ = AV.s (.cpx 4616189618054758400 0)) (L40 rfl) e1 e2 e3 e4 e5 e6)) ?_
          refine wp_step (st_pure (e_arC (L39 rfl) (L41 rfl) (add_big (by omega) (by omega) (by omega) (by omega)) (add_big (by omega) (by omega) (by omega) (by omega)))) ?_
          refine wp_step (st_pure (e_move (L42 rfl))) ?_
          refine wp_nil ?_
          refine wp_step (st_pure (e_move (L5 rfl))) ?_
          refine wp_step (st_pure (e_add64 (L17 rfl) (rfl : _ = AV.s (.int .i64 (1 : Int))) rfl ⟨by omega, by omega⟩)) ?_
          refine wp_step (st_pure (e_move (L18 rfl))) ?_
          refine wp_nil ?_
          refine ⟨_, ?_, j + 1, _, _, h1.next + 14 + 1, rfl, by omega, ?_, ?_, .inr ⟨by omega, rfl⟩, by omega, fun _ => ⟨?_, ?_⟩, relay ⟨rfl, rfl, rfl, ?_, trivial⟩⟩
          · omega
          · rw [hn']; exact Nat.succ_pos _
          · rw [hk' 0 (Nat.succ_pos _) (Ne.symm hip0)]; exact (obj_new_ne _ _ (by show 0 ≠ h1.next + 14; omega)).trans ho0
          · rw [hn']; show h1.next + 14 + 1 < h1.next + 14 + 1 + 1; omega
          · refine Eq.trans ho' ?_; rw [← pcs_succ hj]; rfl
          · rw [hst]; rfl
        · have hr : j % 4 ≠ 0 := fun e => by have hc : (((j % 4 : Nat) : Int) == 0) = false := hc; simp at hc; omega
          simp only [four, if_neg hr, Int.add_zero] at hst
          refine wp_skip ?_
          refine wp_step (st_pure (e_move (L5 rfl))) ?_
          refine wp_step (st_pure (e_add64 (L17 rfl) (rfl : _ = AV.s (.int .i64 (1 : Int))) rfl ⟨by omega, by omega⟩)) ?_
          refine wp_step (st_pure (e_move (L18 rfl))) ?_
          refine wp_nil ?_
          refine ⟨_, ?_, j + 1, _, _, h1.next + 14 + 1, rfl, by omega, ?_, ?_, .inr ⟨by omega, rfl⟩, by omega, fun _ => ⟨?_, ?_⟩, relay ⟨rfl, rfl, rfl, ?_, trivial⟩⟩
          · omega
          · rw [hn']; exact Nat.succ_pos _
          · rw [hk' 0 (Nat.succ_pos _) (Ne.symm hip0)]; exact (obj_new_ne _ _ (by show 0 ≠ h1.next + 14; omega)).trans ho0
          · rw [hn']; show h1.next + 14 + 1 < h1.next + 14 + 1 + 1; omega
          · refine Eq.trans ho' ?_; rw [← pcs_succ hj]; rfl
          · rw [hst]; rfl
      · have hj := of_decide_eq_false hc
        obtain rfl : j = pts.length := by omega
        have htl : (mapi four 0 pts).take pts.length = mapi four 0 pts := by rw [← mapi_length four pts 0, List.take_length]
        have hfb := four_bd hb pts.length
        rw [htl] at hfb ⊢
        rw [List.take_length] at hip
        have ht0 := take_bd (turned_bd (k := 0) hb) pts.length
        have ht1 := take_bd (turned_bd (k := 1) hb) pts.length
        have ht2 := take_bd (turned_bd (k := 2) hb) pts.length
        have ht3 := take_bd (turned_bd (k := 3) hb) pts.length
        have hte : ∀ k, (turned k 0 pts).take pts.length = turned k 0 pts := fun k => by rw [← turned_length k pts 0, List.take_length]
        rw [hte] at ht0 ht1 ht2 ht3
        obtain ⟨hs1, hs2⟩ := sum_four pts 0
        refine wp_exit ?_
        refine wp_seq ?_
        refine wp_step (st_pure (e_move (L3 rfl))) ?_
        refine wp_call (args1 (L43 rfl) (args1 (rfl : _ = AV.s (.int .i64 (0 : Int))) args0)) ?_
        refine (turn_ok (q := 0) h9 hp9 rfl hg.arg (fun e => (hip e).2) hb).mono ?_
        rintro v h2 ⟨rfl, rfl⟩
        refine wp_step (st_pure (e_move (L3 rfl))) ?_
        refine wp_call (args1 (L45 rfl) (args1 (rfl : _ = AV.s (.int .i64 (1 : Int))) args0)) ?_
        refine (turn_ok (q := 1) h9 hp9 rfl hg.arg (fun e => (hip e).2) hb).mono ?_
        rintro v h2 ⟨rfl, rfl⟩
        refine wp_step (st_pure (e_arC (L44 rfl) (L46 rfl) (add_big (by omega) (by omega) (by omega) (by omega)) (add_big (by omega) (by omega) (by omega) (by omega)))) ?_
        refine wp_step (st_pure (e_move (L3 rfl))) ?_
        refine wp_call (args1 (L48 rfl) (args1 (rfl : _ = AV.s (.int .i64 (2 : Int))) args0)) ?_
        refine (turn_ok (q := 2) h9 hp9 rfl hg.arg (fun e => (hip e).2) hb).mono ?_
        rintro v h2 ⟨rfl, rfl⟩
        refine wp_step (st_pure (e_arC (L47 rfl) (L49 rfl) (add_big (by omega) (by omega) (by omega) (by omega)) (add_big (by omega) (by omega) (by omega) (by omega)))) ?_
        refine wp_step (st_pure (e_move (L3 rfl))) ?_
        refine wp_call (args1 (L51 rfl) (args1 (rfl : _ = AV.s (.int .i64 (3 : Int))) args0)) ?_
        refine (turn_ok (q := 3) h9 hp9 rfl hg.arg (fun e => (hip e).2) hb).mono ?_
        rintro v h2 ⟨rfl, rfl⟩
        refine wp_step (st_pure (e_arC (L50 rfl) (L52 rfl) (add_big (by omega) (by omega) (by omega) (by omega)) (add_big (by omega) (by omega) (by omega) (by omega)))) ?_
        refine wp_step (st_pure (e_move (L53 rfl))) ?_
        refine wp_nil ?_
        refine wp_seq ?_
        refine wp_step (st_pure (e_move (L7 rfl))) ?_
        refine wp_step (st_pure (e_move (L4 rfl))) ?_
        refine wp_step (st_pure (e_eqC (L54 rfl) (L55 rfl))) ?_
        refine wp_step (st_pure (e_move (L56 rfl))) ?_
        refine wp_nil ?_
        refine wp_ret ?_
        refine ⟨_, res_one (L2 rfl), ?_, ho0⟩
        show AV.s (.bool (cmpF .eql (fl _) (fl _) && cmpF .eql (fl _) (fl _))) = _
        rw [hs1, hs2, eql_big (by omega) (by omega), eql_big (by omega) (by omega)]; rfl
    · exact ⟨0, _, .s .snil, 1, by omega, by omega, h0, rfl, .inl ⟨rfl, rfl⟩, by omega, fun e => absurd rfl e, relay ⟨rfl, rfl, rfl, by rfl, trivial⟩⟩

/-- the points in a round, so many -/
def cyc (pts : List (Int × Int)) (d : Int × Int) : Nat → List (Int × Int)
  | 0 => []
  | j + 1 => cyc pts d j ++ [((pts.getD (j % pts.length) (0, 0)).1 + d.1, (pts.getD (j % pts.length) (0, 0)).2 + d.2)]
theorem cyc_length (pts : List (Int × Int)) (d : Int × Int) : ∀ j, (cyc pts d j).length = j
  | 0 => rfl
  | j + 1 => by simp [cyc, cyc_length pts d j]
theorem cyc_mem {pts : List (Int × Int)} {d : Int × Int} {B C : Int} (hp : 0 < pts.length) (h : ∀ q ∈ pts, -B ≤ q.1 ∧ q.1 ≤ B ∧ -B ≤ q.2 ∧ q.2 ≤ B) (hd : -C ≤ d.1 ∧ d.1 ≤ C ∧ -C ≤ d.2 ∧ d.2 ≤ C) : ∀ j, ∀ q ∈ cyc pts d j, -(B + C) ≤ q.1 ∧ q.1 ≤ B + C ∧ -(B + C) ≤ q.2 ∧ q.2 ≤ B + C
  | 0, q, hq => by cases hq
  | j + 1, q, hq => by
    rcases List.mem_append.1 hq with hq | hq
    · exact cyc_mem hp h hd j q hq
    · rw [List.mem_singleton] at hq
      have hm : j % pts.length < pts.length := Nat.mod_lt _ hp
      have he : pts.getD (j % pts.length) (0, 0) = pts[j % pts.length] := by simp [List.getD, hm]
      have := h pts[j % pts.length] (List.getElem_mem _)
      subst hq
      rw [he]
      simp only []
      omega
theorem sum_cyc (pts : List (Int × Int)) (d : Int × Int) : ∀ j, (sumOf (cyc pts d j)).1 = (sumOf (cyc pts (0, 0) j)).1 + (j : Int) * d.1 ∧ (sumOf (cyc pts d j)).2 = (sumOf (cyc pts (0, 0) j)).2 + (j : Int) * d.2
  | 0 => by simp [cyc, sumOf]
  | j + 1 => by
    obtain ⟨h1, h2⟩ := sum_cyc pts d j
    simp only [cyc, sumOf_append, sumOf]
    rw [h1, h2, show ((j + 1 : Nat) : Int) = (j : Int) + 1 by omega, Int.add_mul, Int.add_mul]
    omega
theorem sum_rep (d : Int × Int) : ∀ n, sumOf (List.replicate n d) = ((n : Int) * d.1, (n : Int) * d.2)
  | 0 => by simp [sumOf]
  | n + 1 => by
    rw [List.replicate_succ, sumOf, sum_rep d n]
    simp only [Prod.mk.injEq]
    rw [show ((n + 1 : Nat) : Int) = (n : Int) + 1 by omega, Int.add_mul, Int.add_mul]
    omega
theorem pcs_cyc (pts : List (Int × Int)) (d : Int × Int) (j : Nat) (hj : j % pts.length < pts.length) : pcs (cyc pts d j) ++ [.cpx (fl (pts[j % pts.length].1 + d.1)) (fl (pts[j % pts.length].2 + d.2))] = pcs (cyc pts d (j + 1)) := by
  show _ = pcs (cyc pts d j ++ [_])
  have he : pts.getD (j % pts.length) (0, 0) = pts[j % pts.length] := by simp [List.getD, hj]
  unfold pcs; rw [List.map_append, he]; rfl
theorem pcs_rep (d : Int × Int) (j : Nat) : pcs (List.replicate j d) ++ [.cpx (fl d.1) (fl d.2)] = pcs (List.replicate (j + 1) d) := by
  rw [List.replicate_succ']; unfold pcs; rw [List.map_append]; rfl

/-- a mean of sixty-four -/
theorem quo64 {z : Int} (h1 : -100000 ≤ z) (h2 : z ≤ 100000) : arithF .quo (fl z) (fl 64) = some (dy z (-6)) := by
  have := dy_scale (z := z) (e := 0) 6 (by omega) (by omega) (by omega)
  rw [show (0 : Int) - ((6 : Nat) : Int) = -6 by omega, show z * 2 ^ 6 = ((64 : Nat) : Int) * z by omega] at this
  show arithF .quo (dy z 0) (fl 64) = _
  rw [← this]
  exact div_is (n := 64) (by omega) (by omega) (by omega) (by omega) (by omega)
theorem add64 {a d : Int} (h1 : -100000 ≤ a) (h2 : a ≤ 100000) (h3 : -300 ≤ d) (h4 : d ≤ 300) : arithF .add (dy a (-6)) (fl d) = some (dy (a + 64 * d) (-6)) := by
  have := dy_scale (z := d) (e := 0) 6 (by omega) (by omega) (by omega)
  rw [show (0 : Int) - ((6 : Nat) : Int) = -6 by omega, show d * 2 ^ 6 = 64 * d by omega] at this
  show arithF .add _ (dy d 0) = _
  rw [← this]
  exact add_is rfl (by omega) (is_dy (by omega) (by omega) (by omega)) (by omega) (by omega) (by omega)
theorem mean_val {pts : List (Int × Int)} {n : Nat} (h : pts.length = n) (h0 : n ≠ 0) (hb : Bd pts) : arithF .quo (fl (sumOf pts).1) (fl n) = some (mean pts).1 ∧ arithF .quo (fl (sumOf pts).2) (fl n) = some (mean pts).2 := by
  subst h; exact mean_some (fun e => h0 (by rw [e]; rfl)) hb
def Small8 (q : Int × Int) : Prop := -128 ≤ q.1 ∧ q.1 ≤ 128 ∧ -128 ≤ q.2 ∧ q.2 ≤ 128


theorem mul_small {n : Nat} {d : Int} (h : n ≤ 200) (h1 : -128 ≤ d) (h2 : d ≤ 128) : ((n : Int) * d).natAbs < 2 ^ 53 := by
  rw [Int.natAbs_mul, Int.natAbs_natCast]
  have : n * d.natAbs ≤ 200 * 128 := Nat.mul_le_mul h (by omega)
  omega
theorem eql_dy {z : Int} (h1 : -100000 ≤ z) (h2 : z ≤ 100000) : cmpF .eql (dy z (-6)) (dy z (-6)) = true := eql_is (is_dy (by omega) (by omega) (by omega)) (is_dy (by omega) (by omega) (by omega))

theorem means_nil {M : Mach} (hM7 : M.sums 7 = some awakeS) (h6 : M.sums 6 = none) (hp6 : M.prog 6 = some c6) (h8 : M.sums 8 = none) (hp8 : M.prog 8 = some c8)
    {h : AH} {a : AV} {pts : List (Int × Int)} {d : Int × Int} {rest : List SV} (ha : Arg a 0 pts.length 2) (h0 : 0 < h.next) (hi : pts.length ≠ 0 → h.obj 0 = some (mk (acs .i8 pts ++ rest))) (hsm : ∀ q ∈ pts, Small8 q) (hd : Small8 d) (hn0 : pts.length = 0) :
    CW M 6 [a, .agg [.int .i8 d.1, .int .i8 d.2]] h fun v h' => v = .s (.bool true) ∧ h'.obj 0 = h.obj 0 := by
  refine cw_enter h6 hp6 ?_
  show WP M _ (lay [(p1, .agg [.int .i8 d.1, .int .i8 d.2]), (p0, a)] .l) h _
  refine wp_seq ?_
  refine wp_step (st_alloc (e_boxN (L1 rfl))) ?_
  refine wp_step (st_pure (e_move (rfl : _ = AV.s (.bool false)))) ?_
  refine wp_nil ?_
  refine wp_seq ?_
  refine wp_seq ?_
  refine wp_call args0 ?_
  refine cw_sum hM7 (fun k => rfl) ?_
  refine wp_step (st_pure (e_not (L12 rfl))) ?_
  refine wp_nil ?_
  refine wp_if_f (L13 rfl) (by rfl) ?_
  refine wp_skip ?_
  refine wp_seq ?_
  refine wp_seq ?_
  refine wp_step (st_pure (e_move (L0 rfl))) ?_
  refine wp_step (st_pure (e_len_arg ha (L14 rfl))) ?_
  refine wp_step (st_pure (e_eqI (L15 rfl) (rfl : _ = AV.s (.int .i64 (0 : Int))))) ?_
  refine wp_step (st_pure (e_move (L16 rfl))) ?_
  refine wp_no (gs_lay (p := p17) rfl) (by rw [hn0]; decide) rfl ?_
  refine wp_no (gs_lay (p := p17) rfl) (by rw [hn0]; decide) rfl ?_
  refine wp_no (gs_lay (p := p17) rfl) (by rw [hn0]; decide) rfl ?_
  refine wp_step (st_pure (e_pick_t (L17 rfl) (by rw [hn0]; rfl) (rfl : _ = AV.s (.bool true)))) ?_
  refine wp_nil ?_
  refine wp_if_t (L21 rfl) (by rfl) ?_
  refine wp_seq ?_
  refine wp_step (st_pure (e_move (rfl : _ = AV.s (.bool true)))) ?_
  refine wp_nil ?_
  refine wp_ret ?_
  exact ⟨_, res_one (L4 rfl), rfl, obj_new_ne _ _ (by omega)⟩
theorem means_some {M : Mach} (hM7 : M.sums 7 = some awakeS) (h6 : M.sums 6 = none) (hp6 : M.prog 6 = some c6) (h8 : M.sums 8 = none) (hp8 : M.prog 8 = some c8)
    {h : AH} {a : AV} {pts : List (Int × Int)} {d : Int × Int} {rest : List SV} (ha : Arg a 0 pts.length 2) (h0 : 0 < h.next) (hi : pts.length ≠ 0 → h.obj 0 = some (mk (acs .i8 pts ++ rest))) (hsm : ∀ q ∈ pts, Small8 q) (hd : Small8 d) (hn0 : pts.length ≠ 0) :
    CW M 6 [a, .agg [.int .i8 d.1, .int .i8 d.2]] h fun v h' => v = .s (.bool true) ∧ h'.obj 0 = h.obj 0 := by
  refine cw_enter h6 hp6 ?_
  show WP M _ (lay [(p1, .agg [.int .i8 d.1, .int .i8 d.2]), (p0, a)] .l) h _
  refine wp_seq ?_
  refine wp_step (st_alloc (e_boxN (L1 rfl))) ?_
  refine wp_step (st_pure (e_move (rfl : _ = AV.s (.bool false)))) ?_
  refine wp_nil ?_
  refine wp_seq ?_
  refine wp_seq ?_
  refine wp_call args0 ?_
  refine cw_sum hM7 (fun k => rfl) ?_
  refine wp_step (st_pure (e_not (L12 rfl))) ?_
  refine wp_nil ?_
  refine wp_if_f (L13 rfl) (by rfl) ?_
  refine wp_skip ?_
  refine wp_seq ?_
  refine wp_seq ?_
  refine wp_step (st_pure (e_move (L0 rfl))) ?_
  refine wp_step (st_pure (e_len_arg ha (L14 rfl))) ?_
  refine wp_step (st_pure (e_eqI (L15 rfl) (rfl : _ = AV.s (.int .i64 (0 : Int))))) ?_
  refine wp_step (st_pure (e_move (L16 rfl))) ?_
  refine wp_yes (gs_lay (p := p17) rfl) (by simpa using hn0) (st_pure (e_move (L0 rfl))) ?_
  refine wp_yes (gs_lay (p := p17) rfl) (by simpa using hn0) (st_pure (e_len_arg ha (L18 rfl))) ?_
  refine wp_yes (gs_lay (p := p17) rfl) (by simpa using hn0) (st_pure (e_gt (L19 rfl) (rfl : _ = AV.s (.int .i64 (200 : Int))))) ?_
  refine wp_step (st_pure (e_pick_f (L17 rfl) (by simpa using hn0) (L20 rfl))) ?_
  refine wp_nil ?_
  refine wp_if (L21 rfl) (fun hc => ?_) (fun hc => ?_)
  · skip
    refine wp_seq ?_
    refine wp_step (st_pure (e_move (rfl : _ = AV.s (.bool true)))) ?_
    refine wp_nil ?_
    refine wp_ret ?_
    exact ⟨_, res_one (L4 rfl), rfl, obj_new_ne _ _ (by omega)⟩
  · have hlen : pts.length ≤ 200 := by have := of_decide_eq_false hc; omega
    refine wp_skip ?_
    refine wp_seq ?_
    refine wp_step (st_pure (e_move (rfl : _ = AV.s .snil))) ?_
    refine wp_step (st_pure (e_move (rfl : _ = AV.s .snil))) ?_
    refine wp_nil ?_
    refine wp_seq ?_
    refine wp_step (st_pure (e_idxA (L3 rfl) (rfl : _ = AV.s (.int .i64 ((0 : Nat) : Int))) (by omega))) ?_
    refine wp_step (st_read (e_load1 (L22 rfl) (obj_new_self _ _) rfl)) ?_
    refine wp_step (st_pure (e_i2f (L23 rfl))) ?_
    refine wp_step (st_pure (e_idxA (L3 rfl) (rfl : _ = AV.s (.int .i64 ((1 : Nat) : Int))) (by omega))) ?_
    refine wp_step (st_read (e_load1 (L25 rfl) (obj_new_self _ _) rfl)) ?_
    refine wp_step (st_pure (e_i2f (L26 rfl))) ?_
    refine wp_step (st_pure (e_cpx (L24 rfl) (L27 rfl))) ?_
    refine wp_step (st_pure (e_move (L28 rfl))) ?_
    refine wp_nil ?_
    refine wp_seq ?_
    refine wp_seq ?_
    refine wp_step (st_pure (e_move (rfl : _ = AV.s (.int .i64 (0 : Int))))) ?_
    refine wp_nil ?_
    refine wp_block ?_
    refine wp_while (i := 64) (fun m tm1 h1 => ∃ (j : Nat) (t : Tm) (pa pb : AV) (ip iq : Nat), m = 64 - j ∧ j ≤ 64 ∧ 0 < h1.next ∧ h1.obj 0 = h.obj 0 ∧ Grow pa ip j 1 ∧ Grow pb iq j 1 ∧ ip ≠ 0 ∧ iq ≠ 0 ∧ ip ≠ iq ∧ ip < h1.next + 10 ∧ iq < h1.next + 10 ∧ (j ≠ 0 → ip < h1.next ∧ iq < h1.next ∧ h1.obj ip = some (mk (pcs (cyc pts (0, 0) j))) ∧ h1.obj iq = some (mk (pcs (cyc pts d j)))) ∧ tm1 = lay [(p8, .s (.int .i64 (j : Nat))), (p0, a), (p5, pa), (p6, pb), (p7, .s (.cpx (fl d.1) (fl d.2)))] t) (fun m tm1 h1 hI => ?_) ?_
    · obtain ⟨j, t, pa, pb, ip, iq, rfl, hjl, hnx, ho0, hg, hg2, hip0, hiq0, hpq, hipl, hiql, hip, rfl⟩ := hI
      refine wp_seq ?_
      refine wp_seq ?_
      refine wp_step (st_pure (e_move (L8 rfl))) ?_
      refine wp_step (st_pure (e_lt (L29 rfl) (rfl : _ = AV.s (.int .i64 (64 : Int))))) ?_
      refine wp_nil ?_
      refine wp_if (L30 rfl) (fun hc => ?_) (fun hc => ?_)
      · have hj : j < 64 := by have := of_decide_eq_true hc; omega
        have hm : j % pts.length < pts.length := Nat.mod_lt _ (by omega)
        have hget2 := acs_get .i8 rest hm
        have hobj : h1.obj 0 = some (mk (acs .i8 pts ++ rest)) := ho0.trans (hi (by omega))
        obtain ⟨q1, q2, q3, q4⟩ := hsm _ (List.getElem_mem hm)
        obtain ⟨d1, d2, d3, d4⟩ := hd
        refine wp_skip ?_
        refine wp_seq ?_
        refine wp_block ?_
        refine wp_seq ?_
        refine wp_draw ?_
        refine dwp_step (st_pure (e_move (L0 rfl))) ?_
        refine dwp_step (st_pure (e_move (L8 rfl))) ?_
        refine dwp_step (st_pure (e_move (L0 rfl))) ?_
        refine dwp_step (st_pure (e_len_arg ha (L35 rfl))) ?_
        refine dwp_step (st_pure (e_remz (z := (j % pts.length : Nat)) (L34 rfl) (L36 rfl) (by omega) (by rfl))) ?_
        refine dwp_step (st_pure (e_idx_arg ha (L33 rfl) (L37 rfl) (by omega))) ?_
        refine dwp_step (st_pure (e_idxA (L38 rfl) (rfl : _ = AV.s (.int .i64 ((0 : Nat) : Int))) (by omega))) ?_
        refine dwp_step (st_read (e_load1 (L39 rfl) hobj hget2.1)) ?_
        refine dwp_step (st_pure (e_i2f (L40 rfl))) ?_
        refine dwp_step (st_pure (e_move (L0 rfl))) ?_
        refine dwp_step (st_pure (e_move (L8 rfl))) ?_
        refine dwp_step (st_pure (e_move (L0 rfl))) ?_
        refine dwp_step (st_pure (e_len_arg ha (L44 rfl))) ?_
        refine dwp_step (st_pure (e_remz (z := (j % pts.length : Nat)) (L43 rfl) (L45 rfl) (by omega) (by rfl))) ?_
        refine dwp_step (st_pure (e_idx_arg ha (L42 rfl) (L46 rfl) (by omega))) ?_
        refine dwp_step (st_pure (e_idxA (L47 rfl) (rfl : _ = AV.s (.int .i64 ((1 : Nat) : Int))) (by omega))) ?_
        refine dwp_step (st_read (e_load1 (L48 rfl) hobj hget2.2)) ?_
        refine dwp_step (st_pure (e_i2f (L49 rfl))) ?_
        refine dwp_step (st_pure (e_cpx (L41 rfl) (L50 rfl))) ?_
        refine dwp_step (st_pure (e_move (L51 rfl))) ?_
        refine dwp_nil ⟨Chk.none rfl, ?_⟩
        refine wp_step (st_pure (e_move (L5 rfl))) ?_
        refine wp_step (st_pure (e_move (L9 rfl))) ?_
        refine wp_step (st_alloc (e_row1 (L53 rfl))) ?_
        refine wp_append (i := ip) (l := pcs (cyc pts (0, 0) j)) hg (L52 rfl) (fun hj0 => (obj_new_ne _ _ (by have := (hip hj0).1; show ip ≠ h1.next + 20; omega)).trans (hip hj0).2.2.1) (by simp [pcs, cyc_length]) (L54 rfl) (obj_new_self _ _) (rfl : _ = [_]) (by simp) (by omega) (by omega) (by omega) (by omega) ?_
        intro h' hn' ho' hk'
        have hn1 : h'.next = h1.next + 20 + 2 := hn'
        refine wp_step (st_pure (e_move (L6 rfl))) ?_
        refine wp_step (st_pure (e_move (L9 rfl))) ?_
        refine wp_step (st_pure (e_move (L7 rfl))) ?_
        refine wp_step (st_pure (e_arC (L57 rfl) (L58 rfl) (add_fl (by omega) (by omega) (is_small (by omega) (by omega)) (by omega) (by omega)) (add_fl (by omega) (by omega) (is_small (by omega) (by omega)) (by omega) (by omega)))) ?_
        refine wp_step (st_alloc (e_row1 (L59 rfl))) ?_
        refine wp_append (i := iq) (l := pcs (cyc pts d j)) hg2 (L56 rfl) (fun hj0 => (obj_new_ne _ _ (by have := (hip hj0).2.1; omega)).trans ((hk' iq (by have := (hip hj0).2.1; show iq < h1.next + 20 + 1; omega) (Ne.symm hpq)).trans ((obj_new_ne _ _ (by have := (hip hj0).2.1; show iq ≠ h1.next + 20; omega)).trans (hip hj0).2.2.2))) (by simp [pcs, cyc_length]) (L60 rfl) (obj_new_self _ _) (rfl : _ = [_]) (by simp) (by omega) (by omega) (by omega) (by omega) ?_
        intro h2 hn2 ho2 hk2
        have hn3 : h'.next + 1 = h1.next + 20 + 3 := by omega
        have hn4 : h2.next = h1.next + 20 + 4 := by rw [hn2]; show h'.next + 1 + 1 = _; omega
        have hv2 : AV.s (.sl (tp (h'.next + 1)) 0 (j + 1) none 1) = AV.s (.sl (tp (h1.next + 20 + 3)) 0 (j + 1) none 1) := by rw [hn3]
        refine wp_step (st_pure (e_move (L55 rfl))) ?_
        refine wp_step (st_pure (e_move (L61 rfl))) ?_
        refine wp_nil ?_
        refine wp_step (st_pure (e_move (L8 rfl))) ?_
        refine wp_step (st_pure (e_add64 (L31 rfl) (rfl : _ = AV.s (.int .i64 (1 : Int))) rfl ⟨by omega, by omega⟩)) ?_
        refine wp_step (st_pure (e_move (L32 rfl))) ?_
        refine wp_nil ?_
        refine ⟨_, ?_, j + 1, _, _, _, h1.next + 20 + 1, h1.next + 20 + 3, rfl, by omega, ?_, ?_, .inr ⟨by omega, rfl⟩, .inr ⟨by omega, hv2⟩, by omega, by omega, by omega, ?_, ?_, fun _ => ⟨?_, ?_, ?_, ?_⟩, relay ⟨rfl, rfl, rfl, rfl, rfl, trivial⟩⟩
        · omega
        · omega
        · rw [hk2 0 (by show 0 < h'.next + 1; omega) (Ne.symm hiq0)]
          refine (obj_new_ne _ _ (by omega)).trans ?_
          rw [hk' 0 (by show 0 < h1.next + 20 + 1; omega) (Ne.symm hip0)]
          exact (obj_new_ne _ _ (by show 0 ≠ h1.next + 20; omega)).trans ho0
        · omega
        · omega
        · omega
        · omega
        · rw [hk2 (h1.next + 20 + 1) (by show h1.next + 20 + 1 < h'.next + 1; omega) (by omega)]
          refine (obj_new_ne _ _ (by omega)).trans ?_
          refine Eq.trans ho' ?_
          rw [← pcs_cyc pts (0, 0) j hm]
          show some (mk (_ ++ [SV.cpx (fl _) (fl _)])) = some (mk (_ ++ [SV.cpx (fl (_ + 0)) (fl (_ + 0))]))
          rw [Int.add_zero, Int.add_zero]
        · rw [← hn3]; refine Eq.trans ho2 ?_; rw [← pcs_cyc pts d j hm]
      · have hj := of_decide_eq_false hc
        obtain rfl : j = 64 := by omega
        obtain ⟨hip1, hiq1, hip2, hiq2⟩ := hip (by omega)
        refine wp_exit ?_
        refine wp_seq ?_
        refine wp_step (st_pure (e_move (rfl : _ = AV.s .snil))) ?_
        refine wp_nil ?_
        refine wp_seq ?_
        refine wp_seq ?_
        refine wp_step (st_pure (e_move (rfl : _ = AV.s (.int .i64 (0 : Int))))) ?_
        refine wp_nil ?_
        refine wp_block ?_
        refine wp_while (i := pts.length) (fun m tm1 h1 => ∃ (j : Nat) (t : Tm) (pc : AV) (ir : Nat), h1.obj 0 = h.obj 0 ∧ ir ≠ 0 ∧ m = pts.length - j ∧ j ≤ pts.length ∧ Grow pc ir j 1 ∧ ip < h1.next ∧ iq < h1.next ∧ h1.obj ip = some (mk (pcs (cyc pts (0, 0) 64))) ∧ h1.obj iq = some (mk (pcs (cyc pts d 64))) ∧ ir ≠ ip ∧ ir ≠ iq ∧ (j ≠ 0 → ir < h1.next ∧ h1.obj ir = some (mk (pcs (List.replicate j d)))) ∧ tm1 = lay [(p11, .s (.int .i64 (j : Nat))), (p0, a), (p5, pa), (p6, pb), (p7, .s (.cpx (fl d.1) (fl d.2))), (p10, pc)] t) (fun m tm1 h1 hI => ?_) ?_
        · obtain ⟨j, t, pc, ir, hz0, hir0, rfl, hjl, hg3, hip1, hiq1, hip2, hiq2, hr1, hr2, hir, rfl⟩ := hI
          refine wp_seq ?_
          refine wp_seq ?_
          refine wp_step (st_pure (e_move (L11 rfl))) ?_
          refine wp_step (st_pure (e_move (L0 rfl))) ?_
          refine wp_step (st_pure (e_len_arg ha (L63 rfl))) ?_
          refine wp_step (st_pure (e_lt (L62 rfl) (L64 rfl))) ?_
          refine wp_nil ?_
          refine wp_if (L65 rfl) (fun hc => ?_) (fun hc => ?_)
          · have hj : j < pts.length := by have := of_decide_eq_true hc; omega
            refine wp_skip ?_
            refine wp_seq ?_
            refine wp_block ?_
            refine wp_step (st_pure (e_move (L10 rfl))) ?_
            refine wp_step (st_pure (e_move (L7 rfl))) ?_
            refine wp_step (st_alloc (e_row1 (L69 rfl))) ?_
            refine wp_append (i := ir) (l := pcs (List.replicate j d)) hg3 (L68 rfl) (fun hj0 => (obj_new_ne _ _ (by have := (hir hj0).1; omega)).trans (hir hj0).2) (by simp [pcs]) (L70 rfl) (obj_new_self _ _) (rfl : _ = [_]) (by simp) (by omega) (by omega) (by omega) (by omega) ?_
            intro h' hn' ho' hk'
            have hn1 : h'.next = h1.next + 2 := hn'
            refine wp_step (st_pure (e_move (L71 rfl))) ?_
            refine wp_nil ?_
            refine wp_step (st_pure (e_move (L11 rfl))) ?_
            refine wp_step (st_pure (e_add64 (L66 rfl) (rfl : _ = AV.s (.int .i64 (1 : Int))) rfl ⟨by omega, by omega⟩)) ?_
            refine wp_step (st_pure (e_move (L67 rfl))) ?_
            refine wp_nil ?_
            refine ⟨_, ?_, j + 1, _, _, h1.next + 1, ?_, by omega, rfl, by omega, .inr ⟨by omega, rfl⟩, ?_, ?_, ?_, ?_, by omega, by omega, fun _ => ⟨?_, ?_⟩, relay ⟨rfl, rfl, rfl, rfl, rfl, rfl, trivial⟩⟩
            · omega
            · rw [hk' 0 (by show 0 < h1.next + 1; omega) (by omega)]; exact (obj_new_ne _ _ (by omega)).trans hz0
            · omega
            · omega
            · rw [hk' ip (by show ip < h1.next + 1; omega) (Ne.symm hr1)]; exact (obj_new_ne _ _ (by omega)).trans hip2
            · rw [hk' iq (by show iq < h1.next + 1; omega) (Ne.symm hr2)]; exact (obj_new_ne _ _ (by omega)).trans hiq2
            · omega
            · refine Eq.trans ho' ?_; rw [← pcs_rep d j]
          · have hj := of_decide_eq_false hc
            obtain rfl : j = pts.length := by omega
            obtain ⟨d1, d2, d3, d4⟩ := hd
            have hbP : Bd (cyc pts (0, 0) 64) := ⟨by rw [cyc_length]; omega, fun q hq => by
              have := cyc_mem (B := 128) (C := 0) (d := (0, 0)) (by omega) hsm (by simp) 64 q hq
              unfold Small; omega⟩
            have hbQ : Bd (cyc pts d 64) := ⟨by rw [cyc_length]; omega, fun q hq => by
              have := cyc_mem (B := 128) (C := 128) (d := d) (by omega) hsm ⟨d1, d2, d3, d4⟩ 64 q hq
              unfold Small; omega⟩
            have hbS : Bd (List.replicate pts.length d) := ⟨by rw [List.length_replicate]; omega, fun q hq => by
              obtain rfl := List.eq_of_mem_replicate hq
              unfold Small; omega⟩
            have hsP := sum_bdB (B := 128) fun q hq => by
              have := cyc_mem (B := 128) (C := 0) (d := (0, 0)) (by omega) hsm (by simp) 64 q hq
              omega
            have hsQ := sum_bdB (B := 256) fun q hq => by
              have := cyc_mem (B := 128) (C := 128) (d := d) (by omega) hsm ⟨d1, d2, d3, d4⟩ 64 q hq
              omega
            rw [cyc_length] at hsP hsQ
            have hcyc := sum_cyc pts d 64
            have hmP := mean_val (n := 64) (cyc_length pts (0, 0) 64) (by omega) hbP
            have hmQ := mean_val (n := 64) (cyc_length pts d 64) (by omega) hbQ
            have hmS := mean_val (n := pts.length) (List.length_replicate (n := pts.length) (a := d)) (by omega) hbS
            have eP1 := Option.some.inj (hmP.1.symm.trans (quo64 (by omega) (by omega)))
            have eP2 := Option.some.inj (hmP.2.symm.trans (quo64 (by omega) (by omega)))
            have eQ1 := Option.some.inj (hmQ.1.symm.trans (quo64 (by omega) (by omega)))
            have eQ2 := Option.some.inj (hmQ.2.symm.trans (quo64 (by omega) (by omega)))
            rw [sum_rep] at hmS
            have eS1 := Option.some.inj (hmS.1.symm.trans (div_is (a := d.1) (e := 0) (by omega) (by omega) (mul_small hlen d1 d2) (by omega) (by omega)))
            have eS2 := Option.some.inj (hmS.2.symm.trans (div_is (a := d.2) (e := 0) (by omega) (by omega) (mul_small hlen d3 d4) (by omega) (by omega)))
            have hA1 : (sumOf (cyc pts (0, 0) 64)).1 + 64 * d.1 = (sumOf (cyc pts d 64)).1 := by have := hcyc.1; omega
            have hA2 : (sumOf (cyc pts (0, 0) 64)).2 + 64 * d.2 = (sumOf (cyc pts d 64)).2 := by have := hcyc.2; omega
            refine wp_exit ?_
            refine wp_seq ?_
            refine wp_step (st_pure (e_move (L6 rfl))) ?_
            refine wp_call (args1 (L72 rfl) args0) ?_
            refine (mean_ok h8 hp8 (pts := cyc pts d 64) (by rw [cyc_length]; exact hg2.arg) (fun e => hiq2) hbQ).mono ?_
            rintro v h2 ⟨rfl, rfl⟩
            refine wp_step (st_pure (e_move (L5 rfl))) ?_
            refine wp_call (args1 (L74 rfl) args0) ?_
            refine (mean_ok h8 hp8 (pts := cyc pts (0, 0) 64) (by rw [cyc_length]; exact hg.arg) (fun e => hip2) hbP).mono ?_
            rintro v h2 ⟨rfl, rfl⟩
            refine wp_step (st_pure (e_move (L7 rfl))) ?_
            refine wp_step (st_pure (e_arC (L75 rfl) (L76 rfl) (by rw [eP1]; exact add64 (by omega) (by omega) (by omega) (by omega)) (by rw [eP2]; exact add64 (by omega) (by omega) (by omega) (by omega)))) ?_
            refine wp_step (st_pure (e_eqC (L73 rfl) (L77 rfl))) ?_
            refine wp_step (st_pure (e_move (L78 rfl))) ?_
            refine wp_yes (gs_lay (p := p79) rfl) (by rw [eQ1, eQ2, hA1, hA2, eql_dy (by omega) (by omega), eql_dy (by omega) (by omega)]; rfl) (st_pure (e_move (L10 rfl))) ?_
            refine wp_call_yes (gs_lay (p := p79) rfl) (by rw [eQ1, eQ2, hA1, hA2, eql_dy (by omega) (by omega), eql_dy (by omega) (by omega)]; rfl) (args1 (L80 rfl) args0) ?_
            refine (mean_ok h8 hp8 (pts := List.replicate pts.length d) (by rw [List.length_replicate]; exact hg3.arg) (fun e => (hir (by rw [List.length_replicate] at e; exact e)).2) hbS).mono ?_
            rintro v h2 ⟨rfl, rfl⟩
            refine wp_yes (gs_lay (p := p79) rfl) (by rw [eQ1, eQ2, hA1, hA2, eql_dy (by omega) (by omega), eql_dy (by omega) (by omega)]; rfl) (st_pure (e_move (L7 rfl))) ?_
            refine wp_yes (gs_lay (p := p79) rfl) (by rw [eQ1, eQ2, hA1, hA2, eql_dy (by omega) (by omega), eql_dy (by omega) (by omega)]; rfl) (st_pure (e_eqC (L81 rfl) (L82 rfl))) ?_
            refine wp_step (st_pure (e_pick_t (L79 rfl) (by rw [eQ1, eQ2, hA1, hA2, eql_dy (by omega) (by omega), eql_dy (by omega) (by omega)]; rfl) (L83 rfl))) ?_
            refine wp_step (st_pure (e_move (L84 rfl))) ?_
            refine wp_nil ?_
            refine wp_ret ?_
            refine ⟨_, res_one (L4 rfl), ?_, hz0⟩
            show AV.s (.bool (cmpF .eql _ (fl _) && cmpF .eql _ (fl _))) = _
            rw [eS1, eS2, eql_fl (by omega) (by omega), eql_fl (by omega) (by omega)]; rfl
        · exact ⟨0, _, .s .snil, h1.next, ho0, by omega, by omega, by omega, .inl ⟨rfl, rfl⟩, hip1, hiq1, hip2, hiq2, by omega, by omega, fun e => absurd rfl e, relay ⟨rfl, rfl, rfl, rfl, rfl, rfl, trivial⟩⟩
    · exact ⟨0, _, .s .snil, .s .snil, 1, 2, by omega, by omega, Nat.succ_pos _, obj_new_ne _ _ (by omega), .inl ⟨rfl, rfl⟩, .inl ⟨rfl, rfl⟩, by omega, by omega, by omega, by rw [next_new]; omega, by rw [next_new]; omega, fun e => absurd rfl e, relay ⟨rfl, rfl, rfl, rfl, rfl, trivial⟩⟩
theorem means_run {M : Mach} (hM7 : M.sums 7 = some awakeS) (h6 : M.sums 6 = none) (hp6 : M.prog 6 = some c6) (h8 : M.sums 8 = none) (hp8 : M.prog 8 = some c8)
    {h : AH} {a : AV} {pts : List (Int × Int)} {d : Int × Int} {rest : List SV} (ha : Arg a 0 pts.length 2) (h0 : 0 < h.next) (hi : pts.length ≠ 0 → h.obj 0 = some (mk (acs .i8 pts ++ rest))) (hsm : ∀ q ∈ pts, Small8 q) (hd : Small8 d) :
    CW M 6 [a, .agg [.int .i8 d.1, .int .i8 d.2]] h fun v h' => v = .s (.bool true) ∧ h'.obj 0 = h.obj 0 := by
  by_cases hn0 : pts.length = 0
  · exact means_nil hM7 h6 hp6 h8 hp8 ha h0 hi hsm hd hn0
  · exact means_some hM7 h6 hp6 h8 hp8 ha h0 hi hsm hd hn0

theorem pairs_of (kd : IntKind) : ∀ (zs : List Int) (n : Nat), n * 2 ≤ zs.length → ∃ (pts : List (Int × Int)) (rest : List SV), pts.length = n ∧ zs.map (SV.int kd) = acs kd pts ++ rest ∧ ∀ q ∈ pts, q.1 ∈ zs ∧ q.2 ∈ zs
  | zs, 0, _ => ⟨[], zs.map (SV.int kd), rfl, rfl, fun q hq => by cases hq⟩
  | [], n + 1, h => by simp at h
  | [_], n + 1, h => by simp at h; omega
  | a :: b :: zs, n + 1, h => by
    obtain ⟨pts, rest, h1, h2, h3⟩ := pairs_of kd zs n (by simp at h; omega)
    refine ⟨(a, b) :: pts, rest, by simp [h1], ?_, fun q hq => ?_⟩
    · simp only [List.map_cons, h2, acs, List.flatMap_cons, List.cons_append, List.nil_append]
    · rcases List.mem_cons.1 hq with rfl | hq
      · simp
      · obtain ⟨g1, g2⟩ := h3 q hq
        exact ⟨by simp [g1], by simp [g2]⟩

end Go.Bb.Gauge
