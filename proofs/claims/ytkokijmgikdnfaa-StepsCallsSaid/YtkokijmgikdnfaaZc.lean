/- Contract of the reference's Do: removing and picking. -/
import Derived.Test.YtkokijmgikdnfaaZb
namespace Go.Proofs.Ytkokijmgikdnfaa
open Go.RowKit
set_option linter.unusedVariables false
theorem AnsAt.facts {w : World} {a : Nat} {x z : Int} {y : Bool} (h : AnsAt w a x y z) : w.cell? ⟨a, 0, none⟩ = some (.int .i64 x) ∧ w.cell? ⟨a, 1, none⟩ = some (.bool y) ∧ w.cell? ⟨a, 2, none⟩ = some (.int .i64 z) ∧
    w.frozen? ⟨a, 0, none⟩ = false ∧ w.frozen? ⟨a, 1, none⟩ = false ∧ w.frozen? ⟨a, 2, none⟩ = false :=
  ⟨cell_of_row _ _ 0 _ _ _ h, cell_of_row _ _ 1 _ _ _ h, cell_of_row _ _ 2 _ _ _ h, fz h 0, fz h 1, fz h 2⟩
theorem AnsAt.below {w w' : World} {a : Nat} {x z : Int} {y : Bool} (h : AnsAt w a x y z) (hb : Below w.heap.size w w') : AnsAt w' a x y z := heap_below hb h
theorem RS.caps {w : World} {base S g c : Nat} {l : List Ent} {last : Int} (h : RS w base S (.slice (some ⟨g, 0, none⟩) l.length c) l last) : l.length ≤ c ∧ c ≤ 9223372036854775807 := by
  rcases h.row.2 with ⟨h', _⟩ | ⟨g', cap', cur, h', _, _, hnc, hcm, _⟩
  · cases h'
  · injection h' with _ _ e3'
    rw [e3']
    exact ⟨hnc, by simpa [maxLen] using hcm⟩
section
variable {w : World} {base S : Nat} {v : Value} {l : List Ent} {last : Int}

set_option maxHeartbeats 1000000 in
theorem rDo2none (n m : Int) (h : RS w base S v [] last) : Calls Try.prog 12 #[.pointer (some ⟨S, 0, none⟩), act 2 n m] w (RSame w base S [] last 9) := by
  have hB9 : Below w.heap.size w ((w.alloc (.cells #[.int .i64 2, .int .i64 n, .int .i64 m] 31)).alloc (.cells #[.int .i64 0, .bool false, .int .i64 9] 34)) := ((Below.refl _ _).alloc (Nat.le_refl _) _).alloc (by simp) _
  have hA : AnsAt ((w.alloc (.cells #[.int .i64 2, .int .i64 n, .int .i64 m] 31)).alloc (.cells #[.int .i64 0, .bool false, .int .i64 9] 34)) (w.heap.size + 1) 0 false 9 := two_ans _ _ _ _ _
  have h0 := h.below (inW_below w 2 n m)
  obtain ⟨A, c, hv⟩ := h.form
  subst hv
  have ch := h0.head0
  unfold inW at ch
  replace hB9 := Lib.hid hB9
  replace hA := Lib.hid hA
  replace h := Lib.hid h
  clear h0
  unfold act
  go_enter Try.func12, Try.ntmps12
  go_wp2
  refine bodyPost_ret (ret_ans rfl _ _ (w.heap.size + 1) rfl hA.out) rfl ?_
  exact ⟨rfl, ⟨_, h.out.below hB9.out⟩, RKeep.of_below hB9.out⟩
set_option maxHeartbeats 1000000 in
theorem rDo2neg (n m : Int) (hn : n < 0) (h0l : 0 < l.length) (hl : l.length ≤ 1000) (h : RS w base S v l last) : Calls Try.prog 12 #[.pointer (some ⟨S, 0, none⟩), act 2 n m] w (RSame w base S l last 1) := by
  have hB9 : Below w.heap.size w ((w.alloc (.cells #[.int .i64 2, .int .i64 n, .int .i64 m] 31)).alloc (.cells #[.int .i64 0, .bool false, .int .i64 1] 34)) := ((Below.refl _ _).alloc (Nat.le_refl _) _).alloc (by simp) _
  have hA : AnsAt ((w.alloc (.cells #[.int .i64 2, .int .i64 n, .int .i64 m] 31)).alloc (.cells #[.int .i64 0, .bool false, .int .i64 1] 34)) (w.heap.size + 1) 0 false 1 := two_ans _ _ _ _ _
  have h0 := h.below (inW_below w 2 n m)
  obtain ⟨A, c, hv⟩ := h.form
  subst hv
  have ch := h0.head0
  unfold inW at ch
  have n0 : ((l.length : Int) == 0) = false := by rw [beq_eq_false_iff_ne]; omega
  have n1 : decide (n < 0) = true := decide_eq_true hn
  replace hB9 := Lib.hid hB9
  replace hA := Lib.hid hA
  replace h := Lib.hid h
  clear h0
  unfold act
  go_enter Try.func12, Try.ntmps12
  go_wp2
  refine bodyPost_ret (ret_ans rfl _ _ (w.heap.size + 1) rfl hA.out) rfl ?_
  exact ⟨rfl, ⟨_, h.out.below hB9.out⟩, RKeep.of_below hB9.out⟩

set_option maxHeartbeats 1000000 in
theorem rDo3 (n m : Int) (e0 : Int) (d0 : Bool) (x0 : Int) (l' : List Ent) (hcall : ∀ W, Below w.heap.size w W → Calls Try.prog 24 #[.pointer (some ⟨S, 0, none⟩)] W fun e w' => e = .returned (ans x0 d0 e0) ∧ (∃ v', RS w' base S v' l' last) ∧ RKeep base W w') :
    Calls Try.prog 12 #[.pointer (some ⟨S, 0, none⟩), act 3 n m] w fun e w' => e = .returned (ans x0 d0 e0) ∧ (∃ v', RS w' base S v' l' last) ∧ RKeep base w w' := by
  have hc := Lib.hid (hcall _ (inW_below w 3 n m))
  have hans := Lib.hid (inW_ans w 3 n m)
  have hK := Lib.hid (RKeep.of_below (base := base) (inW_below w 3 n m))
  unfold inW at hc hans hK
  clear hcall
  unfold act
  go_enter Try.func12, Try.ntmps12
  go_wp2_with fail
  refine hc.out.mono ?_
  rintro e w5 ⟨rfl, ⟨v5, h5⟩, k5⟩
  have hA := k5.ansAt hans.out
  obtain ⟨fa0, fa1, fa2, z0, z1, z2⟩ := hA.facts
  have hK3 := Lib.hid (hK.out.trans k5)
  replace h5 := Lib.hid h5
  replace hA := Lib.hid hA
  clear hc k5
  unfold ans
  go_wp2
  refine bodyPost_ret (ret_ans rfl _ _ (w.heap.size + 1) rfl (hA.out.store x0 d0 e0)) rfl ?_
  exact ⟨rfl, ⟨_, RS.ans h5.out hA.out _ _ _⟩, hK3.out.ans (Nat.le_succ _) _ _ _⟩

set_option maxRecDepth 100000 in
set_option maxHeartbeats 4000000 in
theorem rDo1 (n m : Int) (hl : l.length ≤ 1000) (hb : base ≤ w.heap.size) (h : RS w base S v l last) : Calls Try.prog 12 #[.pointer (some ⟨S, 0, none⟩), act 1 n m] w fun e w' => RKeep base w w' ∧
    ((∃ (i : Nat) (hi : i < l.length), l[i].id = n ∧ (∀ j (hj : j < i), l[j].id ≠ n) ∧ e = .returned (ans 0 false 0) ∧ ∃ v', RS w' base S v' (l.eraseIdx i) last) ∨ ((∀ x ∈ l, x.id ≠ n) ∧ e = .returned (ans 0 false 9) ∧ ∃ v', RS w' base S v' l last)) := by
  have h0 := Lib.hid (h.below (inW_below w 1 n m))
  have hact := Lib.hid (inW_act w 1 n m)
  have hans := Lib.hid (inW_ans w 1 n m)
  have hK := Lib.hid (RKeep.of_below (base := base) (inW_below w 1 n m))
  have hz := Lib.hid (Nat.le_trans hb (inW_below w 1 n m).size)
  unfold inW at h0 hact hans hK hz
  obtain ⟨A, c, hv⟩ := h.form
  subst hv
  have hl2 : (l.length : Int) ≤ 1000 := by omega
  clear h hb
  unfold act
  go_enter Try.func12, Try.ntmps12
  go_wp2
  generalize (w.alloc (.cells #[.int .i64 1, .int .i64 n, .int .i64 m] 31)).alloc (.cells #[.int .i64 0, .bool false, .int .i64 0] 34) = W0 at *
  go_loopw [5] (fun b w' => ∃ k : Nat, k ≤ l.length ∧ b = .int .i64 k ∧ Hid (∀ j (hj : j < l.length), j < k → l[j].id ≠ n) ∧ Below W0.heap.size W0 w') (fun b _ => l.length - (intOf b).toNat)
  case atStart => exact ⟨0, Nat.zero_le _, rfl, fun j _ hj => absurd hj (Nat.not_lt_zero _), Below.refl _ _⟩
  case round =>
    obtain ⟨k, hk, rfl, hn, hB⟩ := hrel
    have h1 := h0.out.below hB
    have ch := h1.head0
    have x1 : wr.cell? ⟨w.heap.size, 1, none⟩ = some (.int .i64 n) := cell_of_row _ _ 1 _ _ _ (heap_below hB hact.out)
    by_cases hlt : k < l.length
    · obtain ⟨g, c', hv, hr⟩ := h1.rrow (by omega)
      cases hv
      obtain ⟨d0, d1, d2, d3⟩ := hr.cells hlt
      have hcaps := h1.caps
      have h1h := Lib.hid h1
      have hBh := Lib.hid hB
      cases hbq : (l[k].id == n) with
      | true =>
        have hid := Lib.hid (show l[k].id = n by simpa using hbq)
        clear hr h1 hB
        go_wp2_with fail
        go_quiet (fail)
        have hB2 := Lib.hid (below_drewN hBh.out nq)
        have hd := Lib.hid (rDrop k hlt hl (Nat.le_trans hz.out hB2.out.size) (h1h.out.drewN nq) hcaps.1 hcaps.2)
        go_wp2_with fail
        refine hd.out.mono ?_
        rintro e w5 ⟨rfl, ⟨v5, h5⟩, k5⟩
        have hA : AnsAt w5 (w.heap.size + 1) 0 false 0 := k5.ansAt (hans.out.below hB2.out)
        obtain ⟨fa0, fa1, fa2, z0, z1, z2⟩ := hA.facts
        have hK3 := Lib.hid ((hK.out.trans (RKeep.of_below hB2.out)).trans k5)
        replace h5 := Lib.hid h5
        replace hA := Lib.hid hA
        clear hd k5 hB2 ch x1 d0 d1 d2 d3
        go_wp2
        refine bodyPost_ret (ret_ans rfl _ _ (w.heap.size + 1) rfl (hA.out.store 0 false 0)) rfl ?_
        exact ⟨hK3.out.ans (Nat.le_succ _) _ _ _, .inl ⟨k, hlt, hid.out, fun j hj => hn.out j (by omega) hj, rfl, _, RS.ans h5.out hA.out _ _ _⟩⟩
      | false =>
        have hn2 : Hid (∀ j (hj : j < l.length), j < k + 1 → l[j].id ≠ n) := fun j hj hjk => by
          by_cases e : j = k
          · subst e; simpa using hbq
          · exact hn.out j hj (by omega)
        clear hr h1 hn hB hcaps
        go_wp2_with fail
        go_quiet (fail)
        go_wp2
        go_roundw
        case rel => exact ⟨k + 1, by omega, by go_num, hn2, below_drewN hBh.out _⟩
        case measure => simp [intOf]; omega
    · obtain rfl : k = l.length := by omega
      have hno := Lib.hid (show ∀ x ∈ l, x.id ≠ n from fun e he => by obtain ⟨j, hj, rfl⟩ := List.mem_iff_getElem.1 he; exact hn.out j hj hj)
      have hA : AnsAt wr (w.heap.size + 1) 0 false 0 := hans.out.below hB
      obtain ⟨fa0, fa1, fa2, z0, z1, z2⟩ := hA.facts
      have hK3 := Lib.hid (hK.out.trans (RKeep.of_below hB))
      replace hA := Lib.hid hA
      have h1h := Lib.hid h1
      clear hn h1 hB
      go_wp2
      refine bodyPost_ret (ret_ans rfl _ _ (w.heap.size + 1) rfl (hA.out.store 0 false 9)) rfl ?_
      exact ⟨hK3.out.ans (Nat.le_succ _) _ _ _, .inr ⟨hno.out, rfl, _, RS.ans h1h.out hA.out _ _ _⟩⟩
end
end Go.Proofs.Ytkokijmgikdnfaa
