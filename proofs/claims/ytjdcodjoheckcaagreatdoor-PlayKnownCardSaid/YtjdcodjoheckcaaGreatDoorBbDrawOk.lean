/-
  A region that draws its order comes to what its one order comes to.
-/
import Derived.Test.YtjdcodjoheckcaaGreatDoorBbOrders
namespace Go.Bb
variable {P : Program}

theorem HR.more {ρ : Emb} {G : Heap} {n n' : Nat} {w : World} (h : HR ρ G n w) (hn : n ≤ n') : HR ρ G n' w := ⟨fun i hi => h.fresh i (Nat.le_trans hn hi), h.live, h.inj⟩
theorem Ext.more {ρ ρ' : Emb} {G G' : Heap} {n n' n2 : Nat} {w w' : World} (h : Ext ρ G n w ρ' G' n' w') (hn : n' ≤ n2) : Ext ρ G n w ρ' G' n2 w' :=
  ⟨h.sub, h.size, h.keep, h.own, h.dom, Nat.le_trans h.next hn, h.os, h.output, h.froz, h.emb, h.typed, h.old, h.lit⟩

theorem draw_ok (hE : ExtOk P) (hm : P.follows .mixedOrders = true) : DrawOk P := by
  intro prog sums run hcall nt id ops hdst tm h k r hh
  have hd : drawOf P ops = drawOf2 ops (befores ops.toList []) (writesOf (ops.toList.map (operOf P ops)) ops.size) (writers ops.toList 0)
      (drawList (ops.toList.map (operOf P ops)) (befores ops.toList []) (writesOf (ops.toList.map (operOf P ops)) ops.size) ops.size) := rfl
  rw [hd] at hh
  generalize hwsd : writesOf (ops.toList.map (operOf P ops)) ops.size = ws at hh
  generalize hLd : drawList (ops.toList.map (operOf P ops)) (befores ops.toList []) ws ops.size = L at hh
  unfold drawOf2 at hh
  cases hb : (chkD ops (befores ops.toList []) ws (writers ops.toList 0) ops.size L 0 0 && distinct (writers ops.toList 0)) with
  | false => rw [hb] at hh; exact none_some hh
  | true =>
    rw [hb] at hh
    rw [Bool.and_eq_true] at hb
    obtain ⟨hchk, hdis⟩ := hb
    have hh' : (onH h fun g b => forceN (Nat.add b ops.size) fun nx => drawK L (callK prog sums run) b tm ⟨g, nx⟩ [⟨g, nx⟩] fun tm h' hs => checkK tm hs.reverse L (k .normal tm h')) = some r := hh
    rw [onH_eq, forceN_eq] at hh'
    -- where the operations of the list are from
    have hLm : ∀ x ∈ L, ∃ o, ops[x.place]? = some o ∧ x.oper = operOf P ops o := by
      intro x hx
      rw [← hLd] at hx
      have := mem_drawList hx
      rw [List.getElem?_map, Option.map_eq_some_iff] at this
      obtain ⟨o, ho, he⟩ := this
      exact ⟨o, by simpa using ho, he.symm⟩
    have hat : At ops ws h.next tm 0 0 tm ⟨h.g, Nat.add h.next ops.size⟩ [⟨h.g, Nat.add h.next ops.size⟩] (fun _ => none) :=
      ⟨fun _ _ => rfl, fun j hj => by simp at hj, rfl, (Hx_none fun _ _ => rfl).symm, rfl, fun _ _ => rfl, fun _ hj => hj.elim⟩
    obtain ⟨tmf, hf, news, A, h1, h2, h3, h4, h5, h6, h7, h8⟩ := trace hE hcall hdis L 0 0 tm _ _ _ _ r hLm hchk hat hh'
    obtain ⟨h9, hreads⟩ := checkK_some hE hLm h1
    have hlen : (news ++ [(⟨h.g, Nat.add h.next ops.size⟩ : AH)]).length = ws.length + 1 := by simp at h2 ⊢; omega
    have hcov : ∀ i, i < ops.size → ∃ x ∈ L, x.place = i := fun i hi => by
      rcases chk_cover hchk i hi with h | h
      · simp at h
      · exact h
    have hK : Known P ops ws h.next nt tm tmf (hsAt (news ++ [⟨h.g, Nat.add h.next ops.size⟩])) A := by
      refine ⟨fun r i hr => ?_, fun r r' i i' hlt hr hr' => chk_row hchk r r' i i' (Nat.zero_le _) hlt hr hr', fun j hj => ?_, fun i o ho d hd => hdst o (by simpa using Array.mem_of_getElem? ho) d hd, fun i o ho => ?_⟩
      · rw [← hwsd] at hr; exact (mem_writesOf hr).1
      · rcases h4 j hj with h | ⟨x, hx, rfl⟩
        · simp at h
        · obtain ⟨o, ho, _⟩ := hLm x hx; exact (Array.getElem?_eq_some_iff.1 ho).1
      · obtain ⟨x, hx, rfl⟩ := hcov i (Array.getElem?_eq_some_iff.1 ho).1
        obtain ⟨v, tmx, hv, hseen, hstrict, hfact⟩ := h6 x hx o ho
        have hnw : x.oper.step.writes = false → ∀ r : Nat, ws[r]? ≠ some x.place := by
          intro hw r hr
          rw [← hwsd] at hr
          obtain ⟨_, o', ho', hw'⟩ := mem_writesOf hr
          rw [← hLd] at hx
          rw [mem_drawList hx] at ho'; cases ho'
          rw [hw] at hw'; cases hw'
        refine ⟨v, tmx, hv, hseen, ?_⟩
        cases hfact with
        | write r hw hr ha hc q1 q2 q3 => exact .write r hr ha hc q1 q2 q3
        | no hw ha q1 q2 => exact .no (hnw hw) ha q1 q2
        | val hw ha q1 q2 => exact .val (hnw hw) ha q1 q2
        | new hw ob ha q1 q2 => exact .new (hnw hw) ob ha q1 q2
        | read hw ha q1 d ro hs hdd hro hc J hJ q2 q3 =>
          obtain ⟨hhi, hbeh, hlohi⟩ := chk_all hchk x hx hw
          refine .read (hnw hw) ha q1 x.mark.lo x.mark.hi hbeh hhi fun k hkl hlo hhi => ?_
          have hsplit : x.mark.lo = x.mark.hi ∨ (SameLooks ops o tmx tmf ∧ (¬ GYes ops o tmf ∨ ∀ h' ∈ ((news ++ [(⟨h.g, Nat.add h.next ops.size⟩ : AH)]).reverse.drop x.mark.lo).take (x.mark.hi - x.mark.lo + 1), ReadRel P o tmf h' (gs d tmf))) := by
            rcases hstrict (by rw [hs]; rfl) with h | h
            · exact .inl h
            · exact (hreads x hx o d ro ho hs).imp (fun h' => h') fun h' => ⟨h, h'⟩
          rcases hsplit with heq | ⟨hsame, hno | hall⟩
          · obtain rfl : k = x.mark.hi := by omega
            refine ⟨hc, q3, fun p ob hp => ?_⟩
            rw [q2] at hp
            rcases Hx_cases hp with ⟨j, hj, hja, rfl⟩ | ⟨_, hp'⟩
            · exact .inr ⟨j, hJ j hj, hja, rfl⟩
            · exact .inl hp'
          · exact absurd (hsame.yes q1) hno
          · refine ⟨hsAt (news ++ [⟨h.g, Nat.add h.next ops.size⟩]) k, ?_, fun p ob hp => .inl hp⟩
            have hd' : gs d tmf = v := by
              cases hod : o.dst with
              | none => rw [hod] at hdd; cases hdd
              | some d' => rw [hod] at hdd; cases hdd; exact hv d' hod
            rw [← hd']
            refine SameLooks.read (fun t ht => (hsame t ht).symm) (hall _ ?_)
            refine List.mem_iff_getElem?.2 ⟨k - x.mark.lo, ?_⟩
            rw [List.getElem?_take, if_pos (by omega), List.getElem?_drop, show x.mark.lo + (k - x.mark.lo) = k by omega]
            unfold hsAt
            have : k < (news ++ [(⟨h.g, Nat.add h.next ops.size⟩ : AH)]).reverse.length := by rw [List.length_reverse, hlen]; omega
            rw [List.getD, List.getElem?_eq_getElem this]; rfl
    have hs0 : hsAt (news ++ [(⟨h.g, Nat.add h.next ops.size⟩ : AH)]) 0 = ⟨h.g, Nat.add h.next ops.size⟩ := hsAt_top news [] _
    refine ⟨tmf, hf, h9, .of_wp fun ρ a w hst => wp_region_any hm ?_⟩
    have hld0 : ∀ j, ¬ Ld (Array.replicate ops.size false) j := by
      intro j hj
      unfold Ld at hj
      by_cases hjs : j < ops.size <;> simp [hjs] at hj
    have hx0 : Hx h.next A (heapOf (hsAt (news ++ [⟨h.g, Nat.add h.next ops.size⟩]) 0)) (fun j => Ld (Array.replicate ops.size false) j ∧ ¬ pre (befores ops.toList []) ws 0 j) = heapOf h := by
      rw [hs0]; exact Hx_none fun j hj => absurd hj.1 (hld0 j)
    refine Inv.any (ρ0 := ρ) (H0 := heapOf h) (w0 := w) hK (fun S hS => chk_top S hchk (fun j hj => by simp at hj) hS) ?_ ops.size (List.range ops.size) (Array.replicate ops.size false) a _ ρ 0 (by simp) (fun i hi _ => List.mem_range.2 hi) ?_
    · intro listed a' w' ρ' k' hI hall
      have hk' : k' = ws.length := by
        refine Nat.le_antisymm hI.kle (Nat.le_of_not_lt fun hlt => ?_)
        have he : ws[k']? = some ws[k'] := List.getElem?_eq_getElem hlt
        exact Nat.lt_irrefl _ ((hI.row k' _ he).1 (hall _ (hK.wsz _ _ he)))
      subst hk'
      have e : Hx h.next A (heapOf (hsAt (news ++ [⟨h.g, Nat.add h.next ops.size⟩]) ws.length)) (fun j => Ld listed j ∧ ¬ pre (befores ops.toList []) ws ws.length j) = heapOf hf := by
        rw [h7]
        refine Hx_ext (fun j => ?_) (fun _ _ _ => rfl) (fun _ _ => rfl)
        constructor
        · rintro ⟨⟨q1, q2⟩, q3⟩; exact ⟨⟨hK.small j q3, q2⟩, q3⟩
        · rintro ⟨⟨q1, q2⟩, q3⟩; exact ⟨⟨hall j q1, q2⟩, q3⟩
      have hheap := hI.heap
      have hext := hI.ext
      rw [e, ← h8] at hheap hext
      exact ⟨rfl, ρ', ⟨hheap, fun t => hI.tmps t fun j o ho _ => hall j (Array.getElem?_eq_some_iff.1 ho).1, hI.size, hI.defers⟩, hext⟩
    · have hw : HR ρ (heapOf h) h.next { w with drawn := w.drawn + 1 } := hst.heap.world rfl
      refine ⟨by simp, fun i o hi => absurd hi (hld0 i), fun r i _ => ⟨fun hi => absurd hi (hld0 i), fun hr => absurd hr (Nat.not_lt_zero _)⟩, Nat.zero_le _, ?_, ?_, fun t ht => ?_, fun t _ => hst.tmps t, hst.size, hst.defers, fun j _ _ => hst.heap.fresh _ (Nat.le_add_right _ _), fun j _ _ => ?_, ?_⟩
      · rw [hx0, hs0]; exact hw.more (Nat.le_add_right _ _)
      · rw [hx0, hs0]; exact (Ext.refl' (w := w) (w' := { w with drawn := w.drawn + 1 }) ρ (heapOf h) h.next rfl rfl rfl).more (Nat.le_add_right _ _)
      · rw [h5 t fun x hx o ho hd => absurd (ht x.place o ho hd) (hld0 _)]
        exact hst.tmps t
      · rw [hs0]; exact hst.heap.absent (hst.heap.fresh _ (Nat.le_add_right _ _))
      · rw [hs0]; exact Nat.le_refl _

/-- a call that comes to an end in the abstract machine comes to its like in the model -/
theorem calls_ok {prog : Nat → Option AFunc} {sums : SumT} (hE : ExtOk P) (hm : P.follows .mixedOrders = true) (hp : ProgOk P prog) (hsum : SumsOk P sums) {n f : Nat} {args : List AV} {h : AH} {v : AV} {h' : AH} (hh : callOf prog sums n f args h = some (v, h')) :
    CallRel P f args h v h' := call_ok hE (draw_ok hE hm) hp hsum hh
end Go.Bb
