/-
  What poly.At answers, as a summary of the abstract machine: by the tables' cells, which are looked at first.
-/
import Derived.Test.YtjdcodjoheckcaaGreatDoorBbSym
namespace Go.Bb

/-- a whole number of a kind, below a bound? -/
noncomputable def intB (kd : IntKind) (lim : Nat) (v : SV) : Bool :=
  SV.rec (motive := fun _ => Bool) (fun _ => false) (fun k z => andB (sameK k kd) (Int.rec (motive := fun _ => Bool) (fun n => Nat.ble (Nat.succ n) lim) (fun _ => false) z)) (fun _ => false) (fun _ _ => false) false (fun _ _ => false) false (fun _ _ _ _ _ => false) false (fun _ => false) (fun _ _ => false) false (fun _ => false) v
/-- so many cells of a row are whole numbers of a kind, below a bound -/
noncomputable def chkT (kd : IntKind) (lim : Nat) (f : Nat) : Nat → T SV → Bool :=
  Nat.rec (motive := fun _ => Nat → T SV → Bool) (fun _ _ => true)
    (fun _ ih n t => Nat.rec (motive := fun _ => Bool) true (fun m _ =>
      T.rec (motive := fun _ => Bool) false (fun v a b _ _ => Option.rec (motive := fun _ => Bool) false (fun s => andB (intB kd lim s) (andB (ih (Nat.div (Nat.succ m) 2) a) (ih (Nat.div m 2) b))) v) t) n) f
noncomputable def natAt (t : T SV) (i : Nat) : Nat := match T.get (tp i) t with
  | some (.int _ (.ofNat v)) => v
  | _ => 0

theorem intB_some {kd : IntKind} {lim : Nat} {v : SV} (h : intB kd lim v = true) : ∃ n : Nat, v = .int kd (n : Nat) ∧ n < lim := by
  cases v with
  | int k z =>
    have h' : andB (sameK k kd) (Int.rec (motive := fun _ => Bool) (fun n => Nat.ble (Nat.succ n) lim) (fun _ => false) z) = true := h
    rw [andB_eq, Bool.and_eq_true] at h'
    obtain rfl := (sameK_eq _ _).1 h'.1
    cases z with
    | ofNat n => exact ⟨n, rfl, Nat.le_of_ble_eq_true h'.2⟩
    | negSucc n => have := h'.2; cases this
  | _ => cases h

theorem chkT_get (kd : IntKind) (lim : Nat) : ∀ (f n : Nat) (t : T SV), n ≤ f → chkT kd lim f n t = true → ∀ i, i < n → T.get (tp i) t = some (.int kd (natAt t i : Nat)) ∧ natAt t i < lim
  | 0, n, t, hf, _, i, hi => by omega
  | f + 1, 0, t, _, _, i, hi => by omega
  | f + 1, n + 1, t, hf, h, i, hi => by
    cases t with
    | l => cases h
    | n v a b =>
      cases v with
      | none => cases h
      | some s =>
        have h' : andB (intB kd lim s) (andB (chkT kd lim f ((n + 1) / 2) a) (chkT kd lim f (n / 2) b)) = true := h
        rw [andB_eq, andB_eq, Bool.and_eq_true, Bool.and_eq_true] at h'
        obtain ⟨h1, h3, h4⟩ := h'
        obtain ⟨v, rfl, hv⟩ := intB_some h1
        rcases tp_pos i with ⟨q, rfl, hq⟩ | ⟨q, rfl, hq⟩ | rfl
        · have := chkT_get kd lim f _ a (by omega) h3 q (by omega)
          unfold natAt at this ⊢
          rw [hq]; exact this
        · have := chkT_get kd lim f _ b (by omega) h4 q (by omega)
          unfold natAt at this ⊢
          rw [hq]; exact this
        · exact ⟨rfl, hv⟩

/-- the product by the tables -/
noncomputable def mulN (t1 t2 : T SV) (a b : Nat) : Nat := if a % 1024 = 0 ∨ b % 1024 = 0 then 0 else natAt t1 ((natAt t2 (a % 1024) + natAt t2 (b % 1024)) % 1023)
/-- the value at a place: the last factor first -/
noncomputable def horner (t1 t2 : T SV) (x : Nat) (l : List Nat) : Nat := l.foldl (fun s a => Nat.xor (mulN t1 t2 s x) a % 1024) 0
theorem horner_snoc (t1 t2 : T SV) (x : Nat) (l : List Nat) (a : Nat) : horner t1 t2 x (l ++ [a]) = Nat.xor (mulN t1 t2 (horner t1 t2 x l) x) a % 1024 := by simp [horner]
theorem horner_lt (t1 t2 : T SV) (x : Nat) (l : List Nat) : horner t1 t2 x l < 1024 := by
  rcases List.eq_nil_or_concat l with rfl | ⟨l, a, rfl⟩
  · show 0 < 1024; omega
  · rw [List.concat_eq_append, horner_snoc]; exact Nat.mod_lt _ (by omega)
theorem mulN_lt {t1 t2 : T SV} (c1 : chkT .u16 1024 1023 1023 t1 = true) (a b : Nat) : mulN t1 t2 a b < 1024 := by
  unfold mulN
  split
  · omega
  · exact (chkT_get _ _ _ _ _ (Nat.le_refl _) c1 _ (Nat.mod_lt _ (by omega))).2

/-! ### As the kernel runs it -/
noncomputable def natK (t : T SV) (i : Nat) (k : Nat → R) : R := pathK i fun p => Option.rec (motive := fun _ => R) none (fun v => intS (fun _ z => Int.rec (motive := fun _ => R) (fun n => forceN n k) (fun _ => none) z) v) (T.get p t)
theorem natK_eq {kd : IntKind} {t : T SV} {i : Nat} {k : Nat → R} (h : T.get (tp i) t = some (.int kd (natAt t i : Nat))) : natK t i k = k (natAt t i) := by
  unfold natK
  rw [pathK_eq, h]
  exact forceN_eq _ k
noncomputable def mul3K (t1 t2 : T SV) (am bm : Nat) (k : Nat → R) : R := Nat.rec (motive := fun _ => R) (k 0) (fun _ _ => natK t2 am fun la => natK t2 bm fun lb => forceN (Nat.mod (Nat.add la lb) 1023) fun e => natK t1 e k) bm
noncomputable def mul2K (t1 t2 : T SV) (am b : Nat) (k : Nat → R) : R := Nat.rec (motive := fun _ => R) (k 0) (fun _ _ => forceN (Nat.mod b 1024) fun bm => mul3K t1 t2 am bm k) am
noncomputable def mulK (t1 t2 : T SV) (a b : Nat) (k : Nat → R) : R := forceN (Nat.mod a 1024) fun am => mul2K t1 t2 am b k
theorem mulK_eq {t1 t2 : T SV} (c1 : chkT .u16 1024 1023 1023 t1 = true) (c2 : chkT .i64 1023 1024 1024 t2 = true) (a b : Nat) (k : Nat → R) : mulK t1 t2 a b k = k (mulN t1 t2 a b) := by
  have g1 := chkT_get _ _ _ _ _ (Nat.le_refl _) c1
  have g2 := chkT_get _ _ _ _ _ (Nat.le_refl _) c2
  have ha := Nat.mod_lt a (show 0 < 1024 by omega)
  have hb := Nat.mod_lt b (show 0 < 1024 by omega)
  unfold mulK mulN
  rw [forceN_eq]
  show mul2K t1 t2 (a % 1024) b k = _
  by_cases h1 : a % 1024 = 0
  · rw [if_pos (.inl h1), h1]; rfl
  · obtain ⟨am, ham⟩ : ∃ m, a % 1024 = m + 1 := ⟨a % 1024 - 1, by omega⟩
    rw [ham]
    show forceN (Nat.mod b 1024) (fun bm => mul3K t1 t2 (am + 1) bm k) = _
    rw [forceN_eq]
    show mul3K t1 t2 (am + 1) (b % 1024) k = _
    by_cases h2 : b % 1024 = 0
    · rw [if_pos (.inr h2), h2]; rfl
    · obtain ⟨bm, hbm⟩ : ∃ m, b % 1024 = m + 1 := ⟨b % 1024 - 1, by omega⟩
      rw [hbm, if_neg (by omega)]
      show natK t2 (am + 1) (fun la => natK t2 (bm + 1) fun lb => forceN (Nat.mod (Nat.add la lb) 1023) fun e => natK t1 e k) = _
      rw [natK_eq (g2 _ (by omega)).1, natK_eq (g2 _ (by omega)).1, forceN_eq]
      show natK t1 ((natAt t2 (am + 1) + natAt t2 (bm + 1)) % 1023) k = _
      rw [natK_eq (g1 _ (Nat.mod_lt _ (by omega))).1]
noncomputable def hornerK (t1 t2 : T SV) (x : Nat) (l : List Nat) : Nat → (Nat → R) → R :=
  List.rec (motive := fun _ => Nat → (Nat → R) → R) (fun s k => k s) (fun a _ ih s k => mulK t1 t2 s x fun m => forceN (Nat.mod (Nat.xor m a) 1024) fun s => ih s k) l
theorem hornerK_eq {t1 t2 : T SV} (c1 : chkT .u16 1024 1023 1023 t1 = true) (c2 : chkT .i64 1023 1024 1024 t2 = true) (x : Nat) : ∀ (l : List Nat) (s : Nat) (k : Nat → R), hornerK t1 t2 x l s k = k (l.foldl (fun s a => Nat.xor (mulN t1 t2 s x) a % 1024) s)
  | [], _, _ => rfl
  | a :: l, s, k => by
    show mulK t1 t2 s x (fun m => forceN (Nat.mod (Nat.xor m a) 1024) fun s => hornerK t1 t2 x l s k) = _
    rw [mulK_eq c1 c2, forceN_eq, hornerK_eq c1 c2 x l]; rfl
/-- the symbols of some cells, the last first -/
noncomputable def revK (l : List SV) : List Nat → (List Nat → R) → R :=
  List.rec (motive := fun _ => List Nat → (List Nat → R) → R) (fun acc k => k acc) (fun v _ ih acc k => iteR (intB .u16 65536 v) (intS (fun _ z => Int.rec (motive := fun _ => R) (fun n => ih (n :: acc) k) (fun _ => none) z) v) none) l
theorem revK_some : ∀ {l : List SV} {acc : List Nat} {k : List Nat → R} {r : AV × AH}, revK l acc k = some r → ∃ zs : List Nat, l = zs.map (fun n => SV.int .u16 (n : Nat)) ∧ (∀ z ∈ zs, z < 65536) ∧ k (zs.reverse ++ acc) = some r
  | [], acc, k, r, h => ⟨[], rfl, fun z hz => (by cases hz), h⟩
  | v :: l, acc, k, r, h => by
    obtain ⟨hb, h1⟩ := guard_some (b := intB .u16 65536 v) h
    obtain ⟨n, rfl, hn⟩ := intB_some hb
    have h2 : revK l (n :: acc) k = some r := h1
    obtain ⟨zs, rfl, h3, h4⟩ := revK_some h2
    exact ⟨n :: zs, rfl, fun z hz => by
      rcases List.mem_cons.1 hz with rfl | hz
      · exact hn
      · exact h3 z hz, by simpa using h4⟩

/-- the tables, with their cells -/
noncomputable def tabK (h : AH) (v : AV) (k : T SV → T SV → R) : R := onAgg v fun cs =>
  List.rec (motive := fun _ => R) none (fun s1 cs _ => List.rec (motive := fun _ => R) none (fun s2 cs _ => List.rec (motive := fun _ => R)
    (onSl (.s s1) none fun id1 off1 n1 _ z1 => onSl (.s s2) none fun id2 off2 n2 _ z2 =>
      iteR (andB (andB (andB (Nat.beq off1 0) (Nat.beq n1 1023)) (Nat.beq z1 1)) (andB (andB (Nat.beq off2 0) (Nat.beq n2 1024)) (Nat.beq z2 1)))
        (cellsK h id1 fun t1 _ => cellsK h id2 fun t2 _ => iteR (andB (chkT .u16 1024 1023 1023 t1) (chkT .i64 1023 1024 1024 t2)) (k t1 t2) none) none)
    (fun _ _ _ => none) cs) cs) cs

noncomputable def atS : List AV → AH → (AV → AH → R) → R := fun args h ret =>
  List.rec (motive := fun _ => R) none (fun t args _ => List.rec (motive := fun _ => R) none (fun p args _ => List.rec (motive := fun _ => R) none (fun x args _ => List.rec (motive := fun _ => R)
    (tabK h t fun t1 t2 => onInt x fun kd z => iteR (sameK kd .u16) (Int.rec (motive := fun _ => R) (fun x =>
      iteR (Nat.ble (Nat.succ x) 65536) (onSl p (ret (.s (.int .u16 (.ofNat 0))) h) fun id off len _ _ => iteR (Nat.ble (Nat.mul len 8) 140737488351232)
        (getK h id off len fun l => revK l [] fun zs => hornerK t1 t2 x zs 0 fun s => ret (.s (.int .u16 (.ofNat s))) h) none) none) (fun _ => none) z) none)
    (fun _ _ _ => none) args) args) args) args

theorem list1 {α : Type} {l : List α} {f : α → R} {r : AV × AH} (h : List.rec (motive := fun _ => R) none (fun x xs _ => List.rec (motive := fun _ => R) (f x) (fun _ _ _ => none) xs) l = some r) : ∃ x, l = [x] ∧ f x = some r := by
  match l, h with
  | [x], h => exact ⟨x, rfl, h⟩

/-- what the tables that were looked at are -/
theorem tabK_some {h : AH} {v : AV} {k : T SV → T SV → R} {r : AV × AH} (hh : tabK h v k = some r) : ∃ id1 cap1 id2 cap2 o1 t1 m1 o2 t2 m2, v = .agg [.sl id1 0 1023 cap1 1, .sl id2 0 1024 cap2 1] ∧
    T.get id1 h.g = some o1 ∧ o1.look = some (t1, m1) ∧ T.get id2 h.g = some o2 ∧ o2.look = some (t2, m2) ∧ chkT .u16 1024 1023 1023 t1 = true ∧ chkT .i64 1023 1024 1024 t2 = true ∧ k t1 t2 = some r := by
  obtain ⟨cs, rfl, h1⟩ := onAgg_some hh
  match cs, h1 with
  | [s1, s2], h1 =>
    have h2 : onSl (.s s1) none (fun id1 off1 n1 _ z1 => onSl (.s s2) none fun id2 off2 n2 _ z2 =>
      iteR (andB (andB (andB (Nat.beq off1 0) (Nat.beq n1 1023)) (Nat.beq z1 1)) (andB (andB (Nat.beq off2 0) (Nat.beq n2 1024)) (Nat.beq z2 1)))
        (cellsK h id1 fun t1 _ => cellsK h id2 fun t2 _ => iteR (andB (chkT .u16 1024 1023 1023 t1) (chkT .i64 1023 1024 1024 t2)) (k t1 t2) none) none) = some r := h1
    rcases onSl_some h2 with ⟨_, h3⟩ | ⟨id1, off1, n1, cap1, z1, e1, h3⟩
    · exact none_some h3
    rcases onSl_some h3 with ⟨_, h4⟩ | ⟨id2, off2, n2, cap2, z2, e2, h4⟩
    · exact none_some h4
    cases e1; cases e2
    obtain ⟨hb, h5⟩ := guard_some h4
    simp only [andB_eq, Bool.and_eq_true, Nat.beq_eq] at hb
    obtain ⟨⟨⟨rfl, rfl⟩, rfl⟩, ⟨rfl, rfl⟩, rfl⟩ := hb
    obtain ⟨o1, t1, m1, g1, l1, h6⟩ := cellsK_some h5
    obtain ⟨o2, t2, m2, g2, l2, h7⟩ := cellsK_some h6
    obtain ⟨hc, h8⟩ := guard_some h7
    rw [andB_eq, Bool.and_eq_true] at hc
    exact ⟨id1, cap1, id2, cap2, o1, t1, m1, o2, t2, m2, rfl, g1, l1, g2, l2, hc.1, hc.2, h8⟩

theorem atS_some {args : List AV} {h : AH} {ret : AV → AH → R} {r : AV × AH} (hh : atS args h ret = some r) : ∃ t p id1 cap1 id2 cap2 o1 t1 m1 o2 t2 m2, ∃ (x : Nat) (zs : List Nat), args = [t, p, .s (.int .u16 (x : Nat))] ∧ t = .agg [.sl id1 0 1023 cap1 1, .sl id2 0 1024 cap2 1] ∧
    T.get id1 h.g = some o1 ∧ o1.look = some (t1, m1) ∧ T.get id2 h.g = some o2 ∧ o2.look = some (t2, m2) ∧ chkT .u16 1024 1023 1023 t1 = true ∧ chkT .i64 1023 1024 1024 t2 = true ∧ x < 65536 ∧ (∀ z ∈ zs, z < 65536) ∧ zs.length * 8 ≤ 140737488351232 ∧
    ((p = .s .snil ∧ zs = []) ∨ ∃ id off len cap z, p = .s (.sl id off len cap z) ∧ zs.length = len ∧ (len = 0 ∨ ∃ o t m, T.get id h.g = some o ∧ o.look = some (t, m) ∧ ∀ j, j < len → T.get (tp (off + j)) t = some (.int .u16 ((zs[j]?.getD 0 : Nat) : Int)))) ∧
    ret (.s (.int .u16 (horner t1 t2 x zs.reverse : Nat))) h = some r := by
  match args, hh with
  | [t, p, xv], hh =>
    have h1 : tabK h t (fun t1 t2 => onInt xv fun kd z => iteR (sameK kd .u16) (Int.rec (motive := fun _ => R) (fun x =>
      iteR (Nat.ble (Nat.succ x) 65536) (onSl p (ret (.s (.int .u16 (.ofNat 0))) h) fun id off len _ _ => iteR (Nat.ble (Nat.mul len 8) 140737488351232)
        (getK h id off len fun l => revK l [] fun zs => hornerK t1 t2 x zs 0 fun s => ret (.s (.int .u16 (.ofNat s))) h) none) none) (fun _ => none) z) none) = some r := hh
    obtain ⟨id1, cap1, id2, cap2, o1, t1, m1, o2, t2, m2, rfl, g1, l1, g2, l2, c1, c2, h2⟩ := tabK_some h1
    obtain ⟨kx, z, rfl, h3⟩ := onInt_some h2
    obtain ⟨hk, h3'⟩ := guard_some h3
    clear h3
    obtain rfl := (sameK_eq _ _).1 hk
    obtain ⟨x, rfl⟩ : ∃ x : Nat, z = (x : Nat) := by
      cases z with
      | ofNat n => exact ⟨n, rfl⟩
      | negSucc n => exact none_some h3'
    obtain ⟨hx, h4⟩ := guard_some (b := Nat.ble (Nat.succ x) 65536) h3'
    have hx' : x < 65536 := Nat.le_of_ble_eq_true hx
    rcases onSl_some h4 with ⟨rfl, h5⟩ | ⟨id, off, len, cap, z, rfl, h5⟩
    · exact ⟨_, _, id1, cap1, id2, cap2, o1, t1, m1, o2, t2, m2, x, [], rfl, rfl, g1, l1, g2, l2, c1, c2, hx', fun z hz => (by cases hz), by simp, .inl ⟨rfl, rfl⟩, h5⟩
    · obtain ⟨hl, h6⟩ := guard_some h5
      have hl' : len * 8 ≤ 140737488351232 := Nat.le_of_ble_eq_true hl
      have fin : ∀ l : List SV, revK l [] (fun zs => hornerK t1 t2 x zs 0 fun s => ret (.s (.int .u16 (.ofNat s))) h) = some r → ∃ zs : List Nat, l = zs.map (fun n => SV.int .u16 (n : Nat)) ∧ (∀ z ∈ zs, z < 65536) ∧ ret (.s (.int .u16 (horner t1 t2 x zs.reverse : Nat))) h = some r := by
        intro l hr
        obtain ⟨zs, e1, e2, e3⟩ := revK_some hr
        rw [hornerK_eq c1 c2, List.append_nil] at e3
        exact ⟨zs, e1, e2, e3⟩
      rcases getK_some h6 with ⟨rfl, h7⟩ | ⟨o, t, m, l, g3, l3, _, hlen, hget, h7⟩
      · obtain ⟨zs, e1, e2, e3⟩ := fin [] h7
        have : zs = [] := by cases zs with
          | nil => rfl
          | cons => cases e1
        subst this
        exact ⟨_, _, id1, cap1, id2, cap2, o1, t1, m1, o2, t2, m2, x, [], rfl, rfl, g1, l1, g2, l2, c1, c2, hx', e2, by simp, .inr ⟨id, off, 0, cap, z, rfl, rfl, .inl rfl⟩, e3⟩
      · obtain ⟨zs, e1, e2, e3⟩ := fin l h7
        subst e1
        have hzl : zs.length = len := by simpa using hlen
        refine ⟨_, _, id1, cap1, id2, cap2, o1, t1, m1, o2, t2, m2, x, zs, rfl, rfl, g1, l1, g2, l2, c1, c2, hx', e2, by omega, .inr ⟨id, off, len, cap, z, rfl, hzl, .inr ⟨o, t, m, g3, l3, fun j hj => ?_⟩⟩, e3⟩
        rw [hget j hj, List.getElem?_map, List.getElem?_eq_getElem (by omega)]
        rfl

/-! ### (Tables).Mul, by the cells alone that it looks at -/
noncomputable def logK (t2 : T SV) (off m : Nat) (k : Nat → R) : R :=
  Nat.rec (motive := fun _ => R) (k 0) (fun _ _ => forceN (Nat.add off m) fun q => cellK t2 q fun v => intS (fun kd z => iteR (sameK kd .i64) (Int.rec (motive := fun _ => R) (fun n => iteR (Nat.ble n 3999) (k n) none) (fun _ => none) z) none) v) m
theorem logK_some {t2 : T SV} {off m : Nat} {k : Nat → R} {r : AV × AH} (h : logK t2 off m k = some r) : ∃ la : Nat, k la = some r ∧ la < 4000 ∧ (m ≠ 0 → T.get (tp (off + m)) t2 = some (.int .i64 (la : Nat))) ∧ (m = 0 → la = 0) := by
  cases m with
  | zero => exact ⟨0, h, by omega, fun e => absurd rfl e, fun _ => rfl⟩
  | succ m =>
    have h' : (forceN (Nat.add off (m + 1)) fun q => cellK t2 q fun v => intS (fun kd z => iteR (sameK kd .i64) (Int.rec (motive := fun _ => R) (fun n => iteR (Nat.ble n 3999) (k n) none) (fun _ => none) z) none) v) = some r := h
    rw [forceN_eq] at h'
    obtain ⟨v, hv, h1⟩ := cellK_some h'
    cases v with
    | int kd z =>
      obtain ⟨hk, h2⟩ := guard_some (b := sameK kd .i64) (t := Int.rec (motive := fun _ => R) (fun n => iteR (Nat.ble n 3999) (k n) none) (fun _ => none) z) h1
      obtain rfl := (sameK_eq _ _).1 hk
      cases z with
      | negSucc n => exact none_some h2
      | ofNat n =>
        obtain ⟨hn, h3⟩ := guard_some (b := Nat.ble n 3999) (t := k n) h2
        have : n ≤ 3999 := Nat.le_of_ble_eq_true hn
        exact ⟨n, h3, by omega, fun _ => hv, fun e => by omega⟩
    | _ => exact none_some h1
noncomputable def mul4K (t1 : T SV) (off1 la lb bm : Nat) (k : Int → R) : R :=
  Nat.rec (motive := fun _ => R) (k (.ofNat 0)) (fun _ _ => forceN (Nat.mod (Nat.add la lb) 1023) fun e => forceN (Nat.add off1 e) fun q => cellK t1 q fun v => intS (fun kd z => iteR (sameK kd .u16) (k z) none) v) bm
noncomputable def mul5K (t1 : T SV) (off1 la lb am bm : Nat) (k : Int → R) : R := Nat.rec (motive := fun _ => R) (k (.ofNat 0)) (fun _ _ => mul4K t1 off1 la lb bm k) am
theorem mul5K_some {t1 : T SV} {off1 la lb am bm : Nat} {k : Int → R} {r : AV × AH} (h : mul5K t1 off1 la lb am bm k = some r) :
    ∃ z : Int, k (if am = 0 ∨ bm = 0 then 0 else z) = some r ∧ (am ≠ 0 → bm ≠ 0 → T.get (tp (off1 + (la + lb) % 1023)) t1 = some (.int .u16 z)) := by
  cases am with
  | zero => exact ⟨0, by rw [if_pos (.inl rfl)]; exact h, fun e => absurd rfl e⟩
  | succ am =>
    cases bm with
    | zero => exact ⟨0, by rw [if_pos (.inr rfl)]; exact h, fun _ e => absurd rfl e⟩
    | succ bm =>
      have h' : (forceN (Nat.mod (Nat.add la lb) 1023) fun e => forceN (Nat.add off1 e) fun q => cellK t1 q fun v => intS (fun kd z => iteR (sameK kd .u16) (k z) none) v) = some r := h
      rw [forceN_eq, forceN_eq] at h'
      obtain ⟨v, hv, h1⟩ := cellK_some h'
      cases v with
      | int kd z =>
        obtain ⟨hk, h2⟩ := guard_some (b := sameK kd .u16) (t := k z) h1
        obtain rfl := (sameK_eq _ _).1 hk
        exact ⟨z, by rw [if_neg (by omega)]; exact h2, fun _ _ => hv⟩
      | _ => exact none_some h1
noncomputable def u16K (v : AV) (k : Nat → R) : R := onInt v fun kd z => iteR (sameK kd .u16) (Int.rec (motive := fun _ => R) k (fun _ => none) z) none
theorem u16K_some {v : AV} {k : Nat → R} {r : AV × AH} (h : u16K v k = some r) : ∃ a : Nat, v = .s (.int .u16 (a : Nat)) ∧ k a = some r := by
  obtain ⟨kd, z, rfl, h1⟩ := onInt_some h
  obtain ⟨hk, h2⟩ := guard_some h1
  obtain rfl := (sameK_eq _ _).1 hk
  cases z with
  | ofNat n => exact ⟨n, rfl, h2⟩
  | negSucc n => exact none_some h2
noncomputable def tab2K (h : AH) (v : AV) (k : Nat → T SV → Nat → T SV → R) : R := onAgg v fun cs =>
  List.rec (motive := fun _ => R) none (fun s1 cs _ => List.rec (motive := fun _ => R) none (fun s2 cs _ => List.rec (motive := fun _ => R)
    (onSl (.s s1) none fun id1 off1 n1 _ z1 => onSl (.s s2) none fun id2 off2 n2 _ z2 =>
      iteR (andB (andB (Nat.beq n1 1023) (Nat.beq z1 1)) (andB (Nat.beq n2 1024) (Nat.beq z2 1)))
        (cellsK h id1 fun t1 _ => cellsK h id2 fun t2 _ => k off1 t1 off2 t2) none)
    (fun _ _ _ => none) cs) cs) cs
theorem tab2K_some {h : AH} {v : AV} {k : Nat → T SV → Nat → T SV → R} {r : AV × AH} (hh : tab2K h v k = some r) : ∃ id1 off1 cap1 id2 off2 cap2 o1 t1 m1 o2 t2 m2, v = .agg [.sl id1 off1 1023 cap1 1, .sl id2 off2 1024 cap2 1] ∧
    T.get id1 h.g = some o1 ∧ o1.look = some (t1, m1) ∧ T.get id2 h.g = some o2 ∧ o2.look = some (t2, m2) ∧ k off1 t1 off2 t2 = some r := by
  obtain ⟨cs, rfl, h1⟩ := onAgg_some hh
  match cs, h1 with
  | [s1, s2], h1 =>
    have h2 : onSl (.s s1) none (fun id1 off1 n1 _ z1 => onSl (.s s2) none fun id2 off2 n2 _ z2 =>
      iteR (andB (andB (Nat.beq n1 1023) (Nat.beq z1 1)) (andB (Nat.beq n2 1024) (Nat.beq z2 1)))
        (cellsK h id1 fun t1 _ => cellsK h id2 fun t2 _ => k off1 t1 off2 t2) none) = some r := h1
    rcases onSl_some h2 with ⟨_, h3⟩ | ⟨id1, off1, n1, cap1, z1, e1, h3⟩
    · exact none_some h3
    rcases onSl_some h3 with ⟨_, h4⟩ | ⟨id2, off2, n2, cap2, z2, e2, h4⟩
    · exact none_some h4
    cases e1; cases e2
    obtain ⟨hb, h5⟩ := guard_some h4
    simp only [andB_eq, Bool.and_eq_true, Nat.beq_eq] at hb
    obtain ⟨⟨rfl, rfl⟩, rfl, rfl⟩ := hb
    obtain ⟨o1, t1, m1, g1, l1, h6⟩ := cellsK_some h5
    obtain ⟨o2, t2, m2, g2, l2, h7⟩ := cellsK_some h6
    exact ⟨id1, off1, cap1, id2, off2, cap2, o1, t1, m1, o2, t2, m2, rfl, g1, l1, g2, l2, h7⟩
noncomputable def mulS : List AV → AH → (AV → AH → R) → R := fun args h ret =>
  List.rec (motive := fun _ => R) none (fun t args _ => List.rec (motive := fun _ => R) none (fun a args _ => List.rec (motive := fun _ => R) none (fun b args _ => List.rec (motive := fun _ => R)
    (tab2K h t fun off1 t1 off2 t2 => u16K a fun a => u16K b fun b => forceN (Nat.mod a 1024) fun am => forceN (Nat.mod b 1024) fun bm =>
      logK t2 off2 am fun la => logK t2 off2 bm fun lb => mul5K t1 off1 la lb am bm fun z => ret (.s (.int .u16 z)) h)
    (fun _ _ _ => none) args) args) args) args
theorem mulS_some {args : List AV} {h : AH} {ret : AV → AH → R} {r : AV × AH} (hh : mulS args h ret = some r) : ∃ id1 off1 cap1 id2 off2 cap2 o1 t1 m1 o2 t2 m2, ∃ (a b la lb : Nat) (z : Int), args = [.agg [.sl id1 off1 1023 cap1 1, .sl id2 off2 1024 cap2 1], .s (.int .u16 (a : Nat)), .s (.int .u16 (b : Nat))] ∧
    T.get id1 h.g = some o1 ∧ o1.look = some (t1, m1) ∧ T.get id2 h.g = some o2 ∧ o2.look = some (t2, m2) ∧ la < 4000 ∧ lb < 4000 ∧
    (a % 1024 ≠ 0 → T.get (tp (off2 + a % 1024)) t2 = some (.int .i64 (la : Nat))) ∧ (a % 1024 = 0 → la = 0) ∧ (b % 1024 ≠ 0 → T.get (tp (off2 + b % 1024)) t2 = some (.int .i64 (lb : Nat))) ∧ (b % 1024 = 0 → lb = 0) ∧
    (a % 1024 ≠ 0 → b % 1024 ≠ 0 → T.get (tp (off1 + (la + lb) % 1023)) t1 = some (.int .u16 z)) ∧
    ret (.s (.int .u16 (if a % 1024 = 0 ∨ b % 1024 = 0 then 0 else z))) h = some r := by
  match args, hh with
  | [t, av, bv], hh =>
    obtain ⟨id1, off1, cap1, id2, off2, cap2, o1, t1, m1, o2, t2, m2, rfl, g1, l1, g2, l2, h1⟩ := tab2K_some (v := t) hh
    obtain ⟨a, rfl, h2⟩ := u16K_some h1
    obtain ⟨b, rfl, h3⟩ := u16K_some h2
    rw [forceN_eq, forceN_eq] at h3
    obtain ⟨la, h4, b1, b2, b3⟩ := logK_some h3
    obtain ⟨lb, h5, b4, b5, b6⟩ := logK_some h4
    obtain ⟨z, h6, b7⟩ := mul5K_some h5
    exact ⟨id1, off1, cap1, id2, off2, cap2, o1, t1, m1, o2, t2, m2, a, b, la, lb, z, rfl, g1, l1, g2, l2, b1, b4, b2, b3, b5, b6, b7, h6⟩
end Go.Bb
