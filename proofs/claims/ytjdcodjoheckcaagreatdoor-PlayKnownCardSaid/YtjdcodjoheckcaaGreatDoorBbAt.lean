/-
  poly.At, which ranges over slices.Backward, in the model: what it answers by the tables' cells. Conditions: the tables' cells are whole numbers.
-/
import Derived.Test.YtjdcodjoheckcaaGreatDoorBbField
import Derived.Test.YtjdcodjoheckcaaGreatDoorBbAtS
import Derived.Test.YtjdcodjoheckcaaGreatDoorChecked
import Derived.RangeFuncBox
import Derived.RangeFuncLeaves
import Derived.RangeFuncCalls
import Derived.Shelf.Abstract
import Derived.WalkKit
import Derived.OwnWalkIn
import Derived.TacticsInMore
import Derived.LoopNIn
import Derived.LoopIn
import Derived.CallsIn
namespace Go.Proofs.YtjdcodjoheckcaaGreatDoor
open Go.RowKit Go.Shelf Go.Bb
set_option linter.unusedVariables false

attribute [local go_sem] Oper.semAt_some

/-- what lay below n₀, and the block Bs, is as it was -/
structure Keep (n₀ Bs : Nat) (A B : World) : Prop where
  size : A.heap.size ≤ B.heap.size
  os : B.os = A.os
  output : B.output = A.output
  block : ∀ b, b < n₀ → B.heap[b]? = A.heap[b]?
  box : B.heap[Bs]? = A.heap[Bs]?
theorem Keep.refl (n₀ Bs : Nat) (A : World) : Keep n₀ Bs A A := ⟨Nat.le_refl _, rfl, rfl, fun _ _ => rfl, rfl⟩
theorem Keep.trans {n₀ Bs : Nat} {A B C : World} (h : Keep n₀ Bs A B) (k : Keep n₀ Bs B C) : Keep n₀ Bs A C :=
  ⟨Nat.le_trans h.size k.size, k.os.trans h.os, k.output.trans h.output, fun b hb => (k.block b hb).trans (h.block b hb), k.box.trans h.box⟩
theorem Keep.putObj {n₀ Bs : Nat} {A : World} {l : Nat} {o o' : Obj} (hl : n₀ ≤ l) (hB : Bs ≠ l) (_ : A.heap[l]? = some o) : Keep n₀ Bs A (A.putObj l o') :=
  ⟨by simp, rfl, rfl, fun b hb => World.putObj_heap_other (by omega), World.putObj_heap_other hB⟩
theorem Keep.setCell {n₀ Bs : Nat} {A : World} {a : Addr} (hl : n₀ ≤ a.block) (hB : Bs ≠ a.block) (v : Value) : Keep n₀ Bs A (A.setCell a v) :=
  ⟨by simp [World.setCell], rfl, rfl, fun b hb => Below.heap_setCell _ _ _ _ (by omega), Below.heap_setCell _ _ _ _ hB⟩
theorem Keep.grown {n₀ Bs : Nat} {A B C : World} {row : Option Nat} (h : Keep n₀ Bs A B) (hg : B.grownBy C row) (hn : n₀ ≤ B.heap.size) (hBs : Bs < B.heap.size) (hr : ∀ k, row = some k → n₀ ≤ k ∧ Bs ≠ k) : Keep n₀ Bs A C :=
  h.trans ⟨hg.size, hg.os, hg.output, fun b hb => hg.block b (by omega) (fun e => by have := (hr b e.symm).1; omega), hg.block Bs hBs (fun e => (hr Bs e.symm).2 rfl)⟩
theorem Keep.cell {n₀ Bs : Nat} {A B : World} (h : Keep n₀ Bs A B) {p : Addr} (hp : p.block < n₀) : B.cell? p = A.cell? p := World.cell?_of_block (w := A) (h.block p.block hp)
theorem Keep.boxed {n₀ Bs : Nat} {A B : World} (h : Keep n₀ Bs A B) (o : Nat) : B.cell? ⟨Bs, o, none⟩ = A.cell? ⟨Bs, o, none⟩ := World.cell?_of_block (w := A) (a := ⟨Bs, o, none⟩) h.box
theorem Keep.of_below {n₀ Bs : Nat} {A B : World} (h : Below A.heap.size A B) (hn : n₀ ≤ A.heap.size) (hB : Bs < A.heap.size) : Keep n₀ Bs A B :=
  ⟨h.size, h.os, h.output, fun b hb => h.block b (by omega), h.block Bs hB⟩

/-- what has come when k rounds are over -/
def downto {α : Type} (f : Nat → α) (k : Nat) : List α := (List.range k).map f
theorem downto_succ {α : Type} (f : Nat → α) (k : Nat) : downto f (k + 1) = downto f k ++ [f k] := by simp [downto, List.range_succ]
theorem downto_length {α : Type} (f : Nat → α) (k : Nat) : (downto f k).length = k := by simp [downto]

/-- the values that come: from the last down -/
def valAt (zs : List Nat) (j : Nat) : Nat × Nat := (zs.length - 1 - j, zs[zs.length - 1 - j]?.getD 0)
abbrev encP : Nat × Nat → Array Value := fun x => #[.int .i64 (x.1 : Nat), .int .u16 ((x.2 % 65536 : Nat) : Int)]

set_option maxRecDepth 100000 in
set_option maxHeartbeats 2000000 in
theorem backward1_in (F : Fence) (n : Nat) (h7 : F.fn 269) (hro : F.round = none) (hn : 1 ≤ n) (l Bs n₀ b off len cap : Nat) (zs : List Nat) (hzl : zs.length = len) (hzs : ∀ z ∈ zs, z < 65536) (hreach : len * 8 ≤ 140737488351232) (hb : b < n₀) (J Jx : List (Nat × Nat) → World → Prop)
    (hY : ∀ pre x W, J pre W → pre.length < len → YieldAt F (n - 1) Tryz.prog l (encP x) W fun e W' =>
      (e = .returned (.bool true) ∧ J (pre ++ [x]) W' ∧ Keep n₀ Bs W W') ∨ (e = .returned (.bool false) ∧ Jx (pre ++ [x]) W'))
    (W : World) (hBs : W.cell? ⟨Bs, 0, none⟩ = some (.slice (some ⟨b, off, none⟩) len cap)) (hc : ∀ j, j < len → W.cell? ⟨b, off + j, none⟩ = some (.int .u16 ((zs[j]?.getD 0 : Nat) : Int))) (h0 : J [] W) :
    CallsIn F n Tryz.prog 269 #[.func (.yield l) #[] #[], .pointer (some ⟨Bs, 0, none⟩)] W fun e W' => (∃ v, e = .returned v) ∧
      ((∃ ys, ys = downto (valAt zs) len ∧ J ys W') ∨ (∃ pre, (∃ k, k ≤ len ∧ pre = downto (valAt zs) k) ∧ Jx pre W')) := by
  refine callsIn_of_wp Tryz.func269 rfl h7 ?_ hro
  simp only [Tryz.ntmps269, List.size_toArray, List.length_cons, List.length_nil, Nat.reduceAdd, Nat.reduceSub, Array.replicate_succ, Array.replicate_zero, List.push_toArray, List.append_toArray, List.nil_append, List.cons_append]
  have hw1 : IntKind.i64.wrap ((len : Int) - 1) = (len : Int) - 1 := by simp only [IntKind.wrap, IntKind.signed, IntKind.bits]; simp; omega
  gi_wp2
  gi_loopw [3] (fun i wr => ∃ k : Nat, k ≤ len ∧ i = .int .i64 ((len : Int) - 1 - k) ∧ J (downto (valAt zs) k) wr ∧ Keep n₀ Bs W wr)
    (fun i _ => (intOf i + 1).toNat)
  case atStart => exact ⟨0, Nat.zero_le _, by simp, h0, Keep.refl _ _ _⟩
  case round =>
    obtain ⟨k, hk, rfl, hJs, hnx⟩ := hrel
    have hbx := (hnx.boxed 0).trans hBs
    by_cases hlt : k < len
    · have hidx : ((len : Int) - 1 - k) = ((len - 1 - k : Nat) : Int) := by omega
      have hcx : wr.cell? ⟨b, off + (len - 1 - k), none⟩ = some (.int .u16 ((zs[len - 1 - k]?.getD 0 : Nat) : Int)) := (hnx.cell (p := ⟨b, off + (len - 1 - k), none⟩) hb).trans (hc _ (by omega))
      have hv : valAt zs k = (len - 1 - k, zs[len - 1 - k]?.getD 0) := by unfold valAt; rw [hzl]
      have hz : zs[len - 1 - k]?.getD 0 % 65536 = zs[len - 1 - k]?.getD 0 := by
        rw [List.getElem?_eq_getElem (by omega)]
        exact Nat.mod_eq_of_lt (hzs _ (List.getElem_mem _))
      obtain ⟨fn, tmps, assign, body, hy, hR⟩ := hY _ (valAt zs k) wr hJs (by rw [downto_length]; exact hlt)
      rw [hv] at hy
      dsimp only [encP] at hy
      rw [hz] at hy
      rw [hidx]
      have hge : decide ((0 : Int) ≤ ((len - 1 - k : Nat) : Int)) = true := by simp
      have hsub : IntKind.i64.wrap (((len - 1 - k : Nat) : Int) - 1) = (len : Int) - 1 - ((k + 1 : Nat) : Int) := by simp only [IntKind.wrap, IntKind.signed, IntKind.bits]; simp; omega
      gi_wp2
      refine hR.mono ?_
      rintro e W3 (⟨rfl, hJ3, hk3⟩ | ⟨rfl, hJx3⟩)
      · gi_wp2
        go_roundw
        case rel => exact ⟨k + 1, by omega, rfl, by rw [downto_succ]; exact hJ3, hnx.trans hk3⟩
        case measure => simp [intOf]; omega
      · gi_wp2
        refine bodyPost_ret (results_none rfl _ _ _) rfl ?_
        exact ⟨⟨_, rfl⟩, .inr ⟨_, ⟨k + 1, by omega, (downto_succ _ _).symm⟩, hJx3⟩⟩
    · obtain rfl : k = len := by omega
      have hge : decide ((0 : Int) ≤ (k : Int) - 1 - k) = false := by simp; omega
      gi_wp2
      go_end0
      exact ⟨⟨_, rfl⟩, .inl ⟨_, rfl, hJs⟩⟩

set_option maxRecDepth 100000 in
set_option maxHeartbeats 1000000 in
theorem backward1_nil_in (F : Fence) (n : Nat) (h7 : F.fn 269) (hro : F.round = none) (l Bs : Nat) (J : List (Nat × Nat) → World → Prop) (W : World) (a : Option Addr) (cap : Nat) (hBs : W.cell? ⟨Bs, 0, none⟩ = some (.slice a 0 cap)) (h0 : J [] W) :
    CallsIn F n Tryz.prog 269 #[.func (.yield l) #[] #[], .pointer (some ⟨Bs, 0, none⟩)] W fun e W' => (∃ v, e = .returned v) ∧ J [] W' := by
  refine callsIn_of_wp Tryz.func269 rfl h7 ?_ hro
  simp only [Tryz.ntmps269, List.size_toArray, List.length_cons, List.length_nil, Nat.reduceAdd, Nat.reduceSub, Array.replicate_succ, Array.replicate_zero, List.push_toArray, List.append_toArray, List.nil_append, List.cons_append]
  gi_wp2
  gi_loopw [3] (fun i wr => i = .int .i64 (-1) ∧ J [] wr) (fun _ _ => 0)
  case atStart => exact ⟨rfl, h0⟩
  case round =>
    obtain ⟨rfl, hJs⟩ := hrel
    gi_wp2
    go_end0
    exact ⟨⟨_, rfl⟩, hJs⟩

set_option maxHeartbeats 1000000 in
theorem backward_in (F : Fence) (n : Nat) (h5 : F.fn 257) (hro : F.round = none) (a : Option Addr) (len cap : Nat) (w : World) :
    CallsIn F n Tryz.prog 257 #[.slice a len cap] w fun e w' => e = .returned (.func (.func 269) #[] #[.pointer (some ⟨w.heap.size, 0, none⟩)]) ∧ w' = w.alloc (.cells #[.slice a len cap] 83) := by
  refine callsIn_of_wp Tryz.func257 rfl h5 ?_ hro
  simp only [Tryz.ntmps257, List.size_toArray, List.length_cons, List.length_nil, Nat.reduceAdd, Nat.reduceSub, Array.replicate_succ, Array.replicate_zero, List.push_toArray, List.append_toArray, List.nil_append, List.cons_append]
  gi_wp2
  go_ret
  exact ⟨rfl, rfl⟩

/-- the slice value sv holds the symbols zs, in a block below n₀; or it is nil and there are none -/
def Syms (n₀ : Nat) (W : World) (sv : Value) (zs : List Nat) : Prop :=
  (∃ a cap, sv = .slice a 0 cap ∧ zs = []) ∨ ∃ b off cap, sv = .slice (some ⟨b, off, none⟩) zs.length cap ∧ b < n₀ ∧ ∀ j, j < zs.length → W.cell? ⟨b, off + j, none⟩ = some (.int .u16 ((zs[j]?.getD 0 : Nat) : Int))
theorem Syms.keep {n₀ : Nat} {A B : World} (h : ∀ b, b < n₀ → B.heap[b]? = A.heap[b]?) {sv : Value} {zs : List Nat} : Syms n₀ A sv zs → Syms n₀ B sv zs
  | .inl e => .inl e
  | .inr ⟨b, off, cap, e, hb, hc⟩ => .inr ⟨b, off, cap, e, hb, fun j hj => (World.cell?_of_block (w := A) (a := ⟨b, off + j, none⟩) (h b hb)).trans (hc j hj)⟩

theorem backward_stops (F : Fence) (n : Nat) (h7 : F.fn 269) (hro : F.round = none) (hn : 1 ≤ n) (Bs n₀ : Nat) (sv : Value) (zs : List Nat) (hzs : ∀ z ∈ zs, z < 65536) (hreach : zs.length * 8 ≤ 140737488351232) (w : World) (hBs : Bs < w.heap.size) (hn₀ : n₀ ≤ w.heap.size)
    (hc : w.cell? ⟨Bs, 0, none⟩ = some sv) (hI : Syms n₀ w sv zs) :
    SeqStopsK F n Tryz.prog 269 #[.pointer (some ⟨Bs, 0, none⟩)] encP (Keep n₀ Bs) (fun ys => ys = downto (valAt zs) zs.length) (fun pre => ∃ k, k ≤ zs.length ∧ pre = downto (valAt zs) k) zs.length w := fun l J Jx W hW _ _ hY h0 => by
  have hc' := (hW.cell (p := ⟨Bs, 0, none⟩) hBs).trans hc
  rcases hI.keep (fun b hb => hW.block b (by omega)) with ⟨a, cap, rfl, rfl⟩ | ⟨b, off, cap, rfl, hb, hcs⟩
  · exact (backward1_nil_in F n h7 hro l Bs J W a cap hc' h0).mono fun e W' ⟨he, hj⟩ => ⟨he, .inl ⟨_, rfl, hj⟩⟩
  · exact backward1_in F n h7 hro hn l Bs n₀ b off zs.length cap zs rfl hzs hreach hb J Jx hY W hc' hcs h0

/-- nothing that was there is changed -/
structure Same0 (A B : World) : Prop where
  size : A.heap.size ≤ B.heap.size
  os : B.os = A.os
  output : B.output = A.output
  block : ∀ b, b < A.heap.size → B.heap[b]? = A.heap[b]?
theorem Same0.keep {n₀ Bs : Nat} {A B : World} (h : Same0 A B) (hn : n₀ ≤ A.heap.size) (hB : Bs < A.heap.size) : Keep n₀ Bs A B := ⟨h.size, h.os, h.output, fun b hb => h.block b (by omega), h.block Bs hB⟩
theorem Same0.others {A B : World} (h : Same0 A B) : KeepsOthers A B := ⟨h.size, fun k o hk _ => (h.block k (Array.getElem?_eq_some_iff.1 hk).1).trans hk⟩
theorem Same0.cell {A B : World} (h : Same0 A B) {b o : Nat} {v : Value} (hv : A.cell? ⟨b, o, none⟩ = some v) : B.cell? ⟨b, o, none⟩ = some v := by
  have hb : b < A.heap.size := by
    rcases Nat.lt_or_ge b A.heap.size with h | h
    · exact h
    · simp [World.cell?, Array.getElem?_eq_none h] at hv
  exact (World.cell?_of_block (w := A) (a := ⟨b, o, none⟩) (h.block b hb)).trans hv
theorem Same0.frozen {A B : World} (h : Same0 A B) {b o : Nat} (hb : b < A.heap.size) : B.frozen? ⟨b, o, none⟩ = A.frozen? ⟨b, o, none⟩ := World.frozen?_of_block (w := A) (a := ⟨b, o, none⟩) (h.block b hb)

theorem hr_same {ρ : Emb} {G : Heap} {n : Nat} {A B : World} (h : HR ρ G n A) (hb : ∀ b, b < A.heap.size → B.heap[b]? = A.heap[b]?) : HR ρ G n B :=
  ⟨h.fresh, fun p o hp => by obtain ⟨l, h1, h2⟩ := h.live p o hp; exact ⟨l, h1, by rw [hb _ (h.block_lt hp h1)]; exact h2⟩, h.inj⟩

theorem calls_same {M : Mach} (hE : ExtOk Tryz.prog) (hm : Tryz.prog.follows .mixedOrders = true) (hp : ProgOk Tryz.prog M.prog) (hsum : SumsOk Tryz.prog M.sums) {f : Nat} {args : List AV} {h : AH} {Q : AV → AH → Prop} (hw : CW M f args h Q)
    {ρ : Emb} {w : World} {cargs : Array Value} (hr : HR ρ (heapOf h) h.next w) (ha : All2 (VR ρ) args cargs.toList) (hro : ∀ p o, heapOf h p = some o → o.wr = false) :
    Calls Tryz.prog f cargs w fun e w' => ∃ v h' ρ' cv, Q v h' ∧ e = .returned cv ∧ VR ρ' v cv ∧ Same0 w w' := by
  refine (CW.calls hE hm hp hsum hw hr ha).mono ?_
  rintro e w' ⟨v, h', ρ', cv, hq, rfl, q1, _, q3⟩
  exact ⟨v, h', ρ', cv, hq, rfl, q1, q3.size, q3.os, q3.output, fun b hb => q3.keep b hb fun p o l hp hwr => by rw [hro p o hp] at hwr; cases hwr⟩

/-- what is known of the tables in a world -/
structure Tab (ρ : Emb) (hT : AH) (W : World) (id1 id2 : Path) (t1 t2 : T SV) : Prop where
  hr : HR ρ (heapOf hT) hT.next W
  ro : ∀ p o, heapOf hT p = some o → o.wr = false
  i1 : ∃ o m, T.get id1 hT.g = some o ∧ o.look = some (t1, m)
  i2 : ∃ o m, T.get id2 hT.g = some o ∧ o.look = some (t2, m)
  c1 : chkT .u16 1024 1023 1023 t1 = true
  c2 : chkT .i64 1023 1024 1024 t2 = true
theorem Tab.same {ρ : Emb} {hT : AH} {A B : World} {id1 id2 : Path} {t1 t2 : T SV} (h : Tab ρ hT A id1 id2 t1 t2) (hb : ∀ b, b < A.heap.size → B.heap[b]? = A.heap[b]?) : Tab ρ hT B id1 id2 t1 t2 :=
  ⟨hr_same h.hr hb, h.ro, h.i1, h.i2, h.c1, h.c2⟩
theorem Tab.old {ρ : Emb} {hT : AH} {A : World} {id1 id2 : Path} {t1 t2 : T SV} (h : Tab ρ hT A id1 id2 t1 t2) {id : Path} {o : AO} (hi : T.get id hT.g = some o) : ∀ j, hT.next ≤ j → id ≠ tp j := fun j hj e => by
  obtain ⟨l, h1, _⟩ := h.hr.live id o hi
  rw [e, h.hr.fresh j hj] at h1; cases h1

theorem mul_same {M : Mach} (hE : ExtOk Tryz.prog) (hm : Tryz.prog.follows .mixedOrders = true) (hp : ProgOk Tryz.prog M.prog) (hsum : SumsOk Tryz.prog M.sums) (f : Fld.Fns M) {ρ : Emb} {hT : AH} {W : World} {id1 id2 : Path} {t1 t2 : T SV} (h : Tab ρ hT W id1 id2 t1 t2)
    {cap1 cap2 : Option Nat} {tv : Value} (htv : VR ρ (Fld.tabS id1 0 1023 cap1 1 id2 0 1024 cap2 1) tv) (a b : Nat) :
    Calls Tryz.prog 241 #[tv, .int .u16 (a : Nat), .int .u16 (b : Nat)] W fun e W' => e = .returned (.int .u16 (mulN t1 t2 a b : Nat)) ∧ Same0 W W' := by
  obtain ⟨o1, m1, hi1, hl1⟩ := h.i1
  obtain ⟨o2, m2, hi2, hl2⟩ := h.i2
  have g2 : ∀ i, i < 1024 → T.get (tp (0 + i)) t2 = some (.int .i64 (natAt t2 i : Nat)) ∧ natAt t2 i < 1023 := fun i hi => by rw [Nat.zero_add]; exact chkT_get _ _ _ _ _ (Nat.le_refl _) h.c2 i hi
  have g1 : ∀ i, i < 1023 → T.get (tp (0 + i)) t1 = some (.int .u16 (natAt t1 i : Nat)) ∧ natAt t1 i < 1024 := fun i hi => by rw [Nat.zero_add]; exact chkT_get _ _ _ _ _ (Nat.le_refl _) h.c1 i hi
  have ha := Nat.mod_lt a (show 0 < 1024 by omega)
  have hb := Nat.mod_lt b (show 0 < 1024 by omega)
  have ga := g2 _ ha
  have gb := g2 _ hb
  obtain ⟨la, ela, hla⟩ : ∃ la, (if a % 1024 = 0 then 0 else natAt t2 (a % 1024)) = la ∧ la < 1023 := ⟨_, rfl, by split <;> omega⟩
  obtain ⟨lb, elb, hlb⟩ : ∃ lb, (if b % 1024 = 0 then 0 else natAt t2 (b % 1024)) = lb ∧ lb < 1023 := ⟨_, rfl, by split <;> omega⟩
  have hcw := Fld.mul_cw (M := M) (h := hT) (off1 := 0) (off2 := 0) (cap1 := cap1) (cap2 := cap2) (a := a) (b := b) (la := la) (lb := lb) (z := ((natAt t1 ((la + lb) % 1023) : Nat) : Int)) f (h.old hi1) hi1 hl1 (h.old hi2) hi2 hl2
    (fun e => by rw [← ela, if_neg e]; exact ga.1) (fun e => by rw [← ela, if_pos e]) (fun e => by rw [← elb, if_neg e]; exact gb.1) (fun e => by rw [← elb, if_pos e]) (by omega) (by omega)
    (fun _ _ => (g1 _ (Nat.mod_lt _ (by omega))).1)
  refine (calls_same hE hm hp hsum hcw h.hr (.cons htv (.cons (.s (.int _ _)) (.cons (.s (.int _ _)) .nil))) h.ro).mono ?_
  rintro e W' ⟨v, h', ρ', cv, ⟨rfl, _⟩, rfl, q1, q2⟩
  refine ⟨?_, q2⟩
  rw [q1.int]
  unfold mulN
  by_cases hz : a % 1024 = 0 ∨ b % 1024 = 0
  · rw [if_pos hz, if_pos hz]; rfl
  · rw [if_neg hz, if_neg hz, ← ela, ← elb, if_neg (by omega), if_neg (by omega)]

theorem add_same {M : Mach} (hE : ExtOk Tryz.prog) (hm : Tryz.prog.follows .mixedOrders = true) (hp : ProgOk Tryz.prog M.prog) (hsum : SumsOk Tryz.prog M.sums) (f : Fld.Fns M) (a b : Nat) (ha : a < 65536) (hb : b < 65536) (W : World) :
    Calls Tryz.prog 244 #[.int .u16 (a : Nat), .int .u16 (b : Nat)] W fun e W' => e = .returned (.int .u16 ((Nat.xor a b) % 1024 : Nat)) ∧ Same0 W W' := by
  refine (calls_same hE hm hp hsum (Fld.add_cw (M := M) (h := ⟨.l, 0⟩) f (a := a) (b := b) ha hb) (hr_start W) (.cons (.s (.int _ _)) (.cons (.s (.int _ _)) .nil)) (fun p o hp => by unfold heapOf at hp; rw [get_leaf] at hp; cases hp)).mono ?_
  rintro e W' ⟨v, h', ρ', cv, ⟨rfl, _⟩, rfl, q1, q2⟩
  exact ⟨by rw [q1.int], q2⟩

/-- the sum, when so much has come -/
noncomputable def sumOf (t1 t2 : T SV) (x : Nat) (pre : List (Nat × Nat)) : Nat := horner t1 t2 x (pre.map fun p => p.2 % 65536)
theorem sumOf_snoc (t1 t2 : T SV) (x : Nat) (pre : List (Nat × Nat)) (y : Nat × Nat) : sumOf t1 t2 x (pre ++ [y]) = Nat.xor (mulN t1 t2 (sumOf t1 t2 x pre) x) (y.2 % 65536) % 1024 := by
  unfold sumOf; rw [List.map_append]; exact horner_snoc _ _ _ _ _
theorem sumOf_all (t1 t2 : T SV) (x : Nat) (zs : List Nat) (hzs : ∀ z ∈ zs, z < 65536) : sumOf t1 t2 x (downto (valAt zs) zs.length) = horner t1 t2 x zs.reverse := by
  unfold sumOf
  congr 1
  apply List.ext_getElem
  · simp [downto]
  · intro i h1 h2
    have hi : i < zs.length := by simpa [downto] using h1
    have : zs[zs.length - 1 - i] < 65536 := hzs _ (List.getElem_mem _)
    have e : zs[zs.length - 1 - i]?.getD 0 = zs[zs.length - 1 - i] := by rw [List.getElem?_eq_getElem (by omega)]; rfl
    simp [downto, valAt]
    omega

set_option maxRecDepth 100000 in
set_option maxHeartbeats 4000000 in
theorem at_in {M : Mach} (hE : ExtOk Tryz.prog) (hm : Tryz.prog.follows .mixedOrders = true) (hp : ProgOk Tryz.prog M.prog) (hsum : SumsOk Tryz.prog M.sums) (f : Fld.Fns M) {ρ : Emb} {hT : AH} {w : World} {id1 id2 : Path} {t1 t2 : T SV} (h : Tab ρ hT w id1 id2 t1 t2)
    {cap1 cap2 : Option Nat} {s1 s2 : Value} (htv : VR ρ (Fld.tabS id1 0 1023 cap1 1 id2 0 1024 cap2 1) (.agg #[s1, s2])) (a : Option Addr) (len cap : Nat) (zs : List Nat) (hzs : ∀ z ∈ zs, z < 65536) (hreach : zs.length * 8 ≤ 140737488351232) (hI : Syms w.heap.size w (.slice a len cap) zs) (x : Nat) (n : Nat) (hn : 3 ≤ n) :
    CallsIn Fence.wide n Tryz.prog 234 #[.agg #[s1, s2], .slice a len cap, .int .u16 (x : Nat)] w fun e W' => e = .returned (.int .u16 (horner t1 t2 x zs.reverse : Nat)) ∧ Keep w.heap.size (w.heap.size + 3) (((((w.alloc (.cells #[s1, s2] 85)).alloc (.cells #[.int .u16 (x : Nat)] 47)).alloc (.cells #[.int .u16 0] 47)).alloc (.cells #[.slice a len cap] 83))) W' := by
  have h1 : 1 ≤ n := by omega
  have hro : Fence.wide.round = none := rfl
  refine callsIn_of_wp_marks Tryz.func234 rfl trivial ?_ hro
  simp only [Tryz.ntmps234, List.size_toArray, List.length_cons, List.length_nil, Nat.reduceAdd, Nat.reduceSub, Array.replicate_succ, Array.replicate_zero, List.push_toArray, List.append_toArray, List.nil_append, List.cons_append]
  gi_wp2_with (refine ⟨trivial, ?_⟩; gi_at_call 257; refine (backward_in Fence.wide (n - 1) trivial hro _ _ _ _).mono ?_; rintro e w' ⟨rfl, rfl⟩)
  obtain ⟨S, hS⟩ : ∃ S, w.heap.size = S := ⟨_, rfl⟩
  obtain ⟨w4, hw4⟩ : ∃ w4, ((((w.alloc (.cells #[s1, s2] 85)).alloc (.cells #[.int .u16 (x : Nat)] 47)).alloc (.cells #[.int .u16 0] 47)).alloc (.cells #[.slice a len cap] 83)) = w4 := ⟨_, rfl⟩
  rw [hw4]
  have k4 : w4.heap.size = S + 4 := by rw [← hw4, ← hS]; simp
  have hx4 : ∀ b, w4.heap[b]? = if b = S + 3 then some (.cells #[.slice a len cap] 83) else if b = S + 2 then some (.cells #[.int .u16 0] 47) else if b = S + 1 then some (.cells #[.int .u16 (x : Nat)] 47) else if b = S then some (.cells #[s1, s2] 85) else w.heap[b]? := by
    intro b
    rw [← hw4, heap_alloc, heap_alloc, heap_alloc, heap_alloc]
    simp only [World.size_alloc, hS]
  have hold : ∀ b, b < S → w4.heap[b]? = w.heap[b]? := fun b hb => by
    rw [hx4, if_neg (by omega), if_neg (by omega), if_neg (by omega), if_neg (by omega)]
  have b0 : w4.cell? ⟨S, 0, none⟩ = some s1 := by
    have := hx4 S
    rw [if_neg (by omega), if_neg (by omega), if_neg (by omega), if_pos rfl] at this
    simp [World.cell?, this]
  have b0' : w4.cell? ⟨S, 1, none⟩ = some s2 := by
    have := hx4 S
    rw [if_neg (by omega), if_neg (by omega), if_neg (by omega), if_pos rfl] at this
    simp [World.cell?, this]
  have b1 : w4.cell? ⟨S + 1, 0, none⟩ = some (.int .u16 (x : Nat)) := by
    have := hx4 (S + 1)
    rw [if_neg (by omega), if_neg (by omega), if_pos rfl] at this
    simp [World.cell?, this]
  have b2 : w4.cell? ⟨S + 2, 0, none⟩ = some (.int .u16 0) := by
    have := hx4 (S + 2)
    rw [if_neg (by omega), if_pos rfl] at this
    simp [World.cell?, this]
  have f2 : w4.frozen? ⟨S + 2, 0, none⟩ = false := by
    have := hx4 (S + 2)
    rw [if_neg (by omega), if_pos rfl] at this
    simp [World.frozen?, this]
  have b3 : w4.cell? ⟨S + 3, 0, none⟩ = some (.slice a len cap) := by
    have := hx4 (S + 3)
    rw [if_pos rfl] at this
    simp [World.cell?, this]
  simp only [hS]
  rw [hS] at hI
  refine wpIn_rangeFunc_ownG hro h1 (gf := 269) (lb := #[.pointer (some ⟨S + 1 + 1 + 1, 0, none⟩)]) rfl trivial (enters_of Tryz.func269 (by kernel_rfl) rfl)
    (backward_stops Fence.wide (n - 1) trivial hro (by omega) (S + 3) S _ zs hzs hreach w4 (by omega) (by omega) b3 (hI.keep hold)) (fun h k => Keep.trans h k) (fun W l o o' hl ho _ _ => Keep.putObj (by omega) (by omega) ho) (Below.refl _ _) (fun _ => rfl)
    (fun pre W => (W.cell? ⟨S + 2, 0, none⟩ = some (.int .u16 (sumOf t1 t2 x pre : Nat)) ∧ W.frozen? ⟨S + 2, 0, none⟩ = false ∧ W.cell? ⟨S, 0, none⟩ = some s1 ∧ W.cell? ⟨S, 1, none⟩ = some s2 ∧ W.cell? ⟨S + 1, 0, none⟩ = some (.int .u16 (x : Nat))) ∧ Keep S (S + 3) w4 W)
    (fun _ _ _ => False)
    (OwnFrom.and (Own.from (fun s A B row hs hg hr => ⟨cell_kept hs.1 hg hr, (frozen_kept hs.1 hg hr).trans hs.2.1, cell_kept hs.2.2.1 hg hr, cell_kept hs.2.2.2.1 hg hr, cell_kept hs.2.2.2.2 hg hr⟩) _)
      (fun s A B row hs hg hr => hs.grown hg (by have := hs.size; omega) (by have := hs.size; omega) (fun k e => by have := (hr k e).1; omega)))
    (fun _ _ _ _ _ hs _ _ => hs)
    ⟨⟨b2, f2, b0, b0', b1⟩, Keep.refl _ _ _⟩
    (fun y => { tmps := #[.agg #[s1, s2], .slice a len cap, .int .u16 (x : Nat), .pointer (some ⟨S, 0, none⟩), undef, .pointer (some ⟨S + 1, 0, none⟩), .int .u16 0, .pointer (some ⟨S + 1 + 1, 0, none⟩), undef, .int .u16 ((y.2 % 65536 : Nat) : Int), .slice a len cap, .func (.func 269) #[] #[.pointer (some ⟨S + 1 + 1 + 1, 0, none⟩)], .int .i64 (y.1 : Nat), .int .u16 ((y.2 % 65536 : Nat) : Int), undef, undef, undef, undef, undef, undef, undef], defers := [] }) ?assign ?body ?done ?stop
  case assign =>
    intro l y W K hK
    gi_wp2
    exact hK
  case body =>
    rintro l pre y W ⟨⟨hc, hf, ht1, ht2, hx⟩, hB⟩ _
    have hlt := horner_lt t1 t2 x (pre.map fun p => p.2 % 65536)
    have hsz := hB.size
    have hT2 : Tab ρ hT W id1 id2 t1 t2 := h.same fun b hb => (hB.block b (by omega)).trans (hold b (by omega))
    have hml := mulN_lt (t2 := t2) hT2.c1 (sumOf t1 t2 x pre) x
    have hy : y.2 % 65536 < 65536 := Nat.mod_lt _ (by omega)
    gi_wp2_with (fail)
    refine ⟨trivial, fun h => (by cases h), (CallsIn.inRound l (callsIn_wide.2 (mul_same hE hm hp hsum f hT2 htv (sumOf t1 t2 x pre) x))).mono ?_⟩
    rintro e W1 ⟨rfl, hs1⟩
    gi_wp2_with (fail)
    refine ⟨trivial, fun h => (by cases h), (CallsIn.inRound l (callsIn_wide.2 (add_same hE hm hp hsum f (mulN t1 t2 (sumOf t1 t2 x pre) x) (y.2 % 65536) (by omega) hy _))).mono ?_⟩
    rintro e W2 ⟨rfl, hs2⟩
    have hsz1 := hs1.size
    have hsz2 := hs2.size
    have hc2 := hs2.cell (hs1.cell hc)
    have hf2 := (hs2.frozen (b := S + 2) (o := 0) (by omega)).trans ((hs1.frozen (by omega)).trans hf)
    have k2 : KeepsOthers W W2 := hs1.others.trans hs2.others
    have q2 : Keep S (S + 3) W W2 := (hs1.keep (by omega) (by omega)).trans (hs2.keep (by omega) (by omega))
    gi_wp2
    have hset : ∀ v, Keep S (S + 3) W2 (W2.setCell ⟨S + 1 + 1, 0, none⟩ v) := fun v => Keep.setCell (by show S ≤ S + 1 + 1; omega) (by show S + 3 ≠ S + 1 + 1; omega) _
    have oth : ∀ v b o, b ≠ S + 2 → (W2.setCell ⟨S + 1 + 1, 0, none⟩ v).cell? ⟨b, o, none⟩ = W2.cell? ⟨b, o, none⟩ := fun v b o hb => World.cell?_of_block (w := W2) (a := ⟨b, o, none⟩) (Below.heap_setCell _ _ _ _ (by show b ≠ S + 1 + 1; omega))
    refine ⟨(k2.trans (KeepsOthers.setCell _ _ _)).from _, q2.trans (hset _), ⟨?_, ?_, ?_, ?_, ?_⟩, (hB.trans q2).trans (hset _)⟩
    · rw [sumOf_snoc]; exact World.cell?_setCell_same' _ _ _ (by rw [hc2]; rfl)
    · rw [World.frozen?_setCell]; exact hf2
    · exact (oth _ _ _ (by omega)).trans (hs2.cell (hs1.cell ht1))
    · exact (oth _ _ _ (by omega)).trans (hs2.cell (hs1.cell ht2))
    · exact (oth _ _ _ (by omega)).trans (hs2.cell (hs1.cell hx))
  case done =>
    rintro D ys W hD rfl ⟨⟨hc, _⟩, hB⟩ hK
    gi_wp2
    refine ⟨by simp, .inl ⟨_, _, rfl, run_takeDeferred hK, ?_⟩⟩
    refine ⟨_, results_tmp rfl _ _ _, by rw [sumOf_all t1 t2 x zs hzs]; rfl, ?_⟩
    rw [hw4, hS]
    exact hB.trans (Keep.putObj (by omega) (by omega) hK)
  case stop =>
    rintro D c pre W _ _ h _
    exact h.elim

theorem or_ro {ρ : Emb} {l : Go.Bb.Loc} {b : Option Obj} {o : AO} {t : T SV} {m : Nat} (h : OR ρ l b o) (hl : o.look = some (t, m)) : OR ρ l b (.ro t m) := by
  cases o with
  | cells t' m' => cases hl; obtain ⟨c, T, fz, h1, h2, h3, _⟩ := h; exact ⟨c, T, fz, h1, h2, h3⟩
  | map => cases hl
  | ro t' m' => cases hl; exact h
  | iter => cases hl
  | lit => cases hl

set_option maxRecDepth 100000 in
/-- poly.At, as a summary -/
theorem at_ok {M : Mach} (hE : ExtOk Tryz.prog) (hm : Tryz.prog.follows .mixedOrders = true) (hp : ProgOk Tryz.prog M.prog) (hsum : SumsOk Tryz.prog M.sums) (f : Fld.Fns M) :
    CallsOk Tryz.prog (fun g args h k => if g = 234 then atS args h k else none) := by
  intro g args h k r hk
  simp only [] at hk
  by_cases hg : g = 234
  · subst hg
    simp only [if_true] at hk
    obtain ⟨t, p, id1, cap1, id2, cap2, o1, t1, m1, o2, t2, m2, x, zs, rfl, rfl, g1, l1, g2, l2, c1, c2, hx, hzs, hz8, hpz, hret⟩ := atS_some hk
    refine ⟨_, h, hret, (enters_of Tryz.func234 (by kernel_rfl) rfl), fun ρ w cargs hr ha => ?_⟩
    obtain ⟨tv, pv, xv, rfl, v1, v2, v3⟩ : ∃ tv pv xv, cargs = #[tv, pv, xv] ∧ VR ρ (.agg [.sl id1 0 1023 cap1 1, .sl id2 0 1024 cap2 1]) tv ∧ VR ρ p pv ∧ VR ρ (.s (.int .u16 (x : Nat))) xv := by
      obtain ⟨l⟩ := cargs
      cases ha with
      | cons a1 ha => cases ha with
        | cons a2 ha => cases ha with
          | cons a3 ha => cases ha with
            | nil => exact ⟨_, _, _, rfl, a1, a2, a3⟩
    obtain rfl := v3.int
    obtain ⟨s1, s2, rfl⟩ : ∃ s1 s2, tv = .agg #[s1, s2] := by
      obtain ⟨cs, rfl, hcs⟩ := v1.agg'
      obtain ⟨l⟩ := cs
      cases hcs with
      | cons a1 hcs => cases hcs with
        | cons a2 hcs => cases hcs with
          | nil => exact ⟨_, _, rfl⟩
    have hnone : ∀ id o, T.get id h.g = some o → ∃ l, ρ id = some l ∧ OR ρ l w.heap[l.block]? o := fun id o ho => hr.live id o ho
    -- the tables alone, to be read alone
    let hT : AH := ⟨(T.put id1 (T.put id2 (.l : T AO) (some (.ro t2 m2))) (some (.ro t1 m1))), h.next⟩
    have hTg : ∀ p o, heapOf hT p = some o → (p = id1 ∧ o = .ro t1 m1) ∨ (p = id2 ∧ o = .ro t2 m2) := by
      intro p o hpo
      have hpo' : T.get p (T.put id1 (T.put id2 (.l : T AO) (some (.ro t2 m2))) (some (.ro t1 m1))) = some o := hpo
      rcases path_cases p id1 with rfl | h1
      · rw [get_put_same] at hpo'; cases hpo'; exact .inl ⟨rfl, rfl⟩
      · rw [get_put_other _ _ _ _ h1] at hpo'
        rcases path_cases p id2 with rfl | h2
        · rw [get_put_same] at hpo'; cases hpo'; exact .inr ⟨rfl, rfl⟩
        · rw [get_put_other _ _ _ _ h2, get_leaf] at hpo'; cases hpo'
    have hTab : Tab ρ hT w id1 id2 t1 t2 := by
      refine ⟨⟨hr.fresh, fun p o hpo => ?_, fun p q o o' l l' hp hq hw => ?_⟩, fun p o hpo => ?_, ⟨_, m1, get_put_same _ _ _, rfl⟩, ?_, c1, c2⟩
      · rcases hTg p o hpo with ⟨rfl, rfl⟩ | ⟨rfl, rfl⟩
        · obtain ⟨l, q1, q2⟩ := hnone _ _ g1; exact ⟨l, q1, or_ro q2 l1⟩
        · obtain ⟨l, q1, q2⟩ := hnone _ _ g2; exact ⟨l, q1, or_ro q2 l2⟩
      · rcases hTg p o hp with ⟨rfl, rfl⟩ | ⟨rfl, rfl⟩ <;> rcases hTg q o' hq with ⟨rfl, rfl⟩ | ⟨rfl, rfl⟩ <;> rcases hw with hw | hw <;> cases hw
      · rcases hTg p o hpo with ⟨rfl, rfl⟩ | ⟨rfl, rfl⟩ <;> rfl
      · rcases path_cases id2 id1 with rfl | h2
        · rw [g1] at g2; cases g2; rw [l1] at l2; cases l2
          exact ⟨_, m1, get_put_same _ _ _, rfl⟩
        · exact ⟨_, m2, (get_put_other _ _ _ _ h2).trans (get_put_same _ _ _), rfl⟩
    obtain ⟨pa, plen, pcap, rfl, hsy⟩ : ∃ pa plen pcap, pv = .slice pa plen pcap ∧ Syms w.heap.size w (.slice pa plen pcap) zs := by
      rcases hpz with ⟨rfl, rfl⟩ | ⟨id, off, len, cap, z, rfl, hzl, hcells⟩
      · obtain rfl := v2.snil
        exact ⟨none, 0, 0, rfl, .inl ⟨_, _, rfl, rfl⟩⟩
      · obtain ⟨lc, n, hlc, rfl, _⟩ := v2.sl
        refine ⟨_, len, n, rfl, ?_⟩
        rcases hcells with rfl | ⟨o, t, m, g3, l3, hj⟩
        · exact .inl ⟨_, _, rfl, List.eq_nil_of_length_eq_zero hzl⟩
        · subst hzl
          obtain ⟨l', q1, q2⟩ := hnone _ _ g3
          rw [hlc] at q1; cases q1
          obtain ⟨c, T, fz, q3, q4⟩ := q2.look l3
          refine .inr ⟨lc.block, lc.base + off, n, rfl, ?_, fun j hjl => ?_⟩
          · rcases Nat.lt_or_ge lc.block w.heap.size with h | h
            · exact h
            · rw [Array.getElem?_eq_none h] at q3; cases q3
          · obtain ⟨cv, q5, q6⟩ := q4 _ _ (hj j hjl)
            cases q6
            rw [show lc.base + off + j = lc.base + (off + j) by omega]
            simp [World.cell?, q3, q5]
    refine (callsIn_wide.1 (at_in hE hm hp hsum f hTab v1 pa plen pcap zs hzs hz8 hsy x 3 (Nat.le_refl _))).mono ?_
    rintro e W' ⟨rfl, hk⟩
    have hsame : ∀ b, b < w.heap.size → W'.heap[b]? = w.heap[b]? := fun b hb => (hk.block b hb).trans (by
      simp only [heap_alloc, World.size_alloc]
      rw [if_neg (by omega), if_neg (by omega), if_neg (by omega), if_neg (by omega)])
    have hsz : w.heap.size ≤ W'.heap.size := by have := hk.size; simp at this; omega
    refine ⟨ρ, _, rfl, .s (.int _ _), hr_same hr hsame, ?_⟩
    exact ⟨.refl _, hsz, fun b hb _ => hsame b hb, fun p o l hp hw hl _ => ⟨p, o, l, hp, hw, hl, rfl, Nat.le_refl _, Nat.le_refl _⟩, fun p o hp => .inl ⟨o, hp⟩, Nat.le_refl _, hk.os, hk.output,
      fun a ha _ => World.frozen?_of_block (w := w) (hsame _ ha), fun _ h _ => h,
      fun b c Ty fr hb _ => ⟨c, by rw [hsame b (by
        rcases Nat.lt_or_ge b w.heap.size with h | h
        · exact h
        · rw [Array.getElem?_eq_none h] at hb; cases hb)]; exact hb, rfl, fun _ _ => rfl⟩, fun p o l hp _ hl => .inl ⟨hp, hl⟩, fun p o l hp ht hl _ => ⟨p, o, l, hp, ht, hl, rfl⟩⟩
  · rw [if_neg hg] at hk; cases hk

/-- the tables alone, to be read alone -/
theorem tabs_ro {ρ : Emb} {h : AH} {w : World} (hr : HR ρ (heapOf h) h.next w) {id1 id2 : Path} {o1 o2 : AO} {t1 t2 : T SV} {m1 m2 : Nat} (g1 : T.get id1 h.g = some o1) (l1 : o1.look = some (t1, m1)) (g2 : T.get id2 h.g = some o2) (l2 : o2.look = some (t2, m2)) :
    ∃ hT : AH, HR ρ (heapOf hT) hT.next w ∧ (∀ p o, heapOf hT p = some o → o.wr = false) ∧ (∃ o m, T.get id1 hT.g = some o ∧ o.look = some (t1, m)) ∧ ∃ o m, T.get id2 hT.g = some o ∧ o.look = some (t2, m) := by
  let hT : AH := ⟨(T.put id1 (T.put id2 (.l : T AO) (some (.ro t2 m2))) (some (.ro t1 m1))), h.next⟩
  have hTg : ∀ p o, heapOf hT p = some o → (p = id1 ∧ o = .ro t1 m1) ∨ (p = id2 ∧ o = .ro t2 m2) := by
    intro p o hpo
    have hpo' : T.get p (T.put id1 (T.put id2 (.l : T AO) (some (.ro t2 m2))) (some (.ro t1 m1))) = some o := hpo
    rcases path_cases p id1 with rfl | h1
    · rw [get_put_same] at hpo'; cases hpo'; exact .inl ⟨rfl, rfl⟩
    · rw [get_put_other _ _ _ _ h1] at hpo'
      rcases path_cases p id2 with rfl | h2
      · rw [get_put_same] at hpo'; cases hpo'; exact .inr ⟨rfl, rfl⟩
      · rw [get_put_other _ _ _ _ h2, get_leaf] at hpo'; cases hpo'
  have hnone : ∀ id o, T.get id h.g = some o → ∃ l, ρ id = some l ∧ OR ρ l w.heap[l.block]? o := fun id o ho => hr.live id o ho
  refine ⟨hT, ⟨hr.fresh, fun p o hpo => ?_, fun p q o o' l l' hp hq hw => ?_⟩, fun p o hpo => ?_, ⟨_, m1, get_put_same _ _ _, rfl⟩, ?_⟩
  · rcases hTg p o hpo with ⟨rfl, rfl⟩ | ⟨rfl, rfl⟩
    · obtain ⟨l, q1, q2⟩ := hnone _ _ g1; exact ⟨l, q1, or_ro q2 l1⟩
    · obtain ⟨l, q1, q2⟩ := hnone _ _ g2; exact ⟨l, q1, or_ro q2 l2⟩
  · rcases hTg p o hp with ⟨rfl, rfl⟩ | ⟨rfl, rfl⟩ <;> rcases hTg q o' hq with ⟨rfl, rfl⟩ | ⟨rfl, rfl⟩ <;> rcases hw with hw | hw <;> cases hw
  · rcases hTg p o hpo with ⟨rfl, rfl⟩ | ⟨rfl, rfl⟩ <;> rfl
  · rcases path_cases id2 id1 with rfl | h2
    · rw [g1] at g2; cases g2; rw [l1] at l2; cases l2
      exact ⟨_, m1, get_put_same _ _ _, rfl⟩
    · exact ⟨_, m2, (get_put_other _ _ _ _ h2).trans (get_put_same _ _ _), rfl⟩

theorem ext_same {ρ : Emb} {h : AH} {w w' : World} (hs : Same0 w w') : Ext ρ (heapOf h) h.next w ρ (heapOf h) h.next w' :=
  ⟨.refl _, hs.size, fun b hb _ => hs.block b hb, fun p o l hp hw hl _ => ⟨p, o, l, hp, hw, hl, rfl, Nat.le_refl _, Nat.le_refl _⟩, fun p o hp => .inl ⟨o, hp⟩, Nat.le_refl _, hs.os, hs.output,
    fun a ha _ => World.frozen?_of_block (w := w) (hs.block _ ha), fun _ h _ => h,
    fun b c Ty fr hb _ => ⟨c, by rw [hs.block b (by
      rcases Nat.lt_or_ge b w.heap.size with h | h
      · exact h
      · rw [Array.getElem?_eq_none h] at hb; cases hb)]; exact hb, rfl, fun _ _ => rfl⟩, fun p o l hp _ hl => .inl ⟨hp, hl⟩, fun p o l hp ht hl _ => ⟨p, o, l, hp, ht, hl, rfl⟩⟩

set_option maxRecDepth 100000 in
/-- (Tables).Mul, as a summary -/
theorem mul_ok {M : Mach} (hE : ExtOk Tryz.prog) (hm : Tryz.prog.follows .mixedOrders = true) (hp : ProgOk Tryz.prog M.prog) (hsum : SumsOk Tryz.prog M.sums) (f : Fld.Fns M) :
    CallsOk Tryz.prog (fun g args h k => if g = 241 then mulS args h k else none) := by
  intro g args h k r hk
  simp only [] at hk
  by_cases hg : g = 241
  · subst hg
    simp only [if_true] at hk
    obtain ⟨id1, off1, cap1, id2, off2, cap2, o1, t1, m1, o2, t2, m2, a, b, la, lb, z, rfl, g1, l1, g2, l2, b1, b2, b3, b4, b5, b6, b7, hret⟩ := mulS_some hk
    refine ⟨_, h, hret, (enters_of Tryz.func241 (by kernel_rfl) rfl), fun ρ w cargs hr ha => ?_⟩
    obtain ⟨hT, hTr, hro, ⟨o1', m1', hi1, hl1⟩, o2', m2', hi2, hl2⟩ := tabs_ro hr g1 l1 g2 l2
    have old : ∀ id o, T.get id hT.g = some o → ∀ j, hT.next ≤ j → id ≠ tp j := fun id o hi j hj e => by
      obtain ⟨l, h1, _⟩ := hTr.live id o hi
      rw [e, hTr.fresh j hj] at h1; cases h1
    have hcw := Fld.mul_cw (M := M) (h := hT) (off1 := off1) (off2 := off2) (cap1 := cap1) (cap2 := cap2) (a := a) (b := b) (la := la) (lb := lb) (z := z) f (old _ _ hi1) hi1 hl1 (old _ _ hi2) hi2 hl2 b3 b4 b5 b6 b1 b2 b7
    refine (calls_same hE hm hp hsum hcw hTr ha hro).mono ?_
    rintro e W' ⟨v, h', ρ', cv, ⟨rfl, _⟩, rfl, q1, hs⟩
    exact ⟨ρ, cv, rfl, by rw [q1.int]; exact .s (.int _ _), hr_same hr hs.block, ext_same hs⟩
  · rw [if_neg hg] at hk; cases hk
end Go.Proofs.YtjdcodjoheckcaaGreatDoor
