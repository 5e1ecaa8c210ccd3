/- Rows of numbers; contracts of IDs and SameInts. -/
import Derived.Test.YtkokijmgikdnfaaJ
namespace Go.Proofs.Ytkokijmgikdnfaa
open Go.RowKit
set_option linter.unusedVariables false

theorem below_drewN {B : Nat} {a w : World} (h : Below B a w) (n : Nat) : Below B a (w.drewN n) := ⟨h.os, h.tape, h.output, h.size, h.block⟩
/-- v is a row of the numbers xs, of the call's own -/
def Ints (w : World) (B : Nat) (v : Value) (xs : List Int) : Prop := w.ownsRow B 3 1 v xs.length (xs.map (.int .i64))
theorem info3 : (Try.prog.info? 3).map (fun i => (i.zero, i.size, i.bytes)) = some (some (.int .i64 0), 1, 8) := by kernel_rfl
theorem Ints.none_ (w : World) (B : Nat) : Ints w B (.slice none 0 0) [] := ⟨rfl, .inl ⟨rfl, rfl⟩⟩
theorem Ints.form {w : World} {B : Nat} {v : Value} {xs : List Int} (h : Ints w B v xs) : ∃ A c, v = .slice A xs.length c := by
  rcases h.2 with ⟨rfl, e⟩ | ⟨g, cap, cur, rfl, _⟩
  · exact ⟨none, 0, by rw [e]⟩
  · exact ⟨_, _, rfl⟩
theorem Ints.at_ {w : World} {B : Nat} {v : Value} {xs : List Int} (h : Ints w B v xs) {i : Nat} (hi : i < xs.length) : ∃ g c, v = .slice (some ⟨g, 0, none⟩) xs.length c ∧ w.cell? ⟨g, i, none⟩ = some (.int .i64 xs[i]) := by
  obtain ⟨g, c, hv, hb, _⟩ := World.ownsRow.form h (by omega)
  subst hv
  have hc := World.ownsRow.cells h (g := g) rfl i (.int .i64 xs[i]) (by simp [List.getElem?_eq_getElem hi])
  rw [add_plain] at hc
  exact ⟨g, c, rfl, hc⟩
theorem Ints.below {w w' : World} {B : Nat} {v : Value} {xs : List Int} (h : Ints w B v xs) (hb : Below w.heap.size w w') : Ints w' B v xs :=
  row_move h (fun k hk => hb.block k (World.ownsRow.lt h k hk).2)
theorem Ints.keep {w w' : World} {B base : Nat} {J : Nat → Prop} {v : Value} {xs : List Int} (h : Ints w B v xs) (hk : Keep base J w w') (hJ : ∀ k, J k → ∃ cs fr, w.heap[k]? = some (.cells cs 46 fr)) : Ints w' B v xs := by
  refine row_move h fun k hv => ?_
  rcases h.2 with ⟨rfl, _⟩ | ⟨g, cap, cur, rfl, _, hg, _⟩
  · cases hv
  · cases hv
    refine hk.block g (heap_lt hg) ?_ ?_
    · intro hj
      obtain ⟨cs, fr, e⟩ := hJ g hj
      rw [hg] at e
      cases e
    · rintro ⟨_, cs, t, fr, e, ht⟩
      rw [hg] at e
      cases e
      rcases ht with h | h | h <;> cases h
theorem Ints.lit (w : World) (B : Nat) (hB : B ≤ w.heap.size) (x : Int) : Ints (w.alloc (.cells #[.int .i64 x] 3)) B (.slice (some ⟨w.heap.size, 0, none⟩) 1 1) [x] :=
  World.ownsRow_lit w #[.int .i64 x] 1 hB (by simp [maxLen]) rfl

/-- 'append(s, x)' of one number -/
theorem wpList_appInt {ops : Array Oper} {rest : List Oper} {o : Oper} {a : Act} {Q : Exit → Act → World → Prop} (Wb : World) (hgd : o.guard = none) (s x : Operand)
    (ho : o.op = .call { callee := .builtin .append, args := #[s, x], argTypes := #[38, 38] }) (B : Nat) (v : Value) (xs : List Int) (hs : a.eval s = v) (hown : Ints Wb B v xs)
    (g : Nat) (y : Int) (hx : a.eval x = .slice (some ⟨g, 0, none⟩) 1 1) (hg : g = Wb.heap.size) (hB : B ≤ Wb.heap.size) (hn : xs.length ≤ 1000)
    (h : ∀ v' w', Ints w' B v' (xs ++ [y]) → Below B Wb w' → Wb.grownBy w' v.ownBlock → wpList Try.prog ops Q rest (a.put o.dst v') w') : wpList Try.prog ops Q (o :: rest) a (Wb.alloc (.cells #[.int .i64 y] 3)) := by
  obtain ⟨i0, hi0, hz0, hz1, hz2⟩ := info_parts info3
  subst hg
  have hb0 : Below Wb.heap.size Wb (Wb.alloc (.cells #[.int .i64 y] 3)) := (Below.refl _ _).alloc (Nat.le_refl _) _
  have hr : Reads (Wb.alloc (.cells #[.int .i64 y] 3)) (Wb.alloc (.cells #[.int .i64 y] 3)).heap.size 1 (some ⟨Wb.heap.size, 0, none⟩) 1 [.int .i64 y] := Reads.of_own (Ints.lit Wb 0 (Nat.zero_le _) y)
  refine wpList_append_any _ hgd s x _ ho B 3 i0 _ 1 8 Try.underlying38 hi0 hz0 hz1 hz2 rfl (by omega) v xs.length _ hs (hown.below hb0) _ _ 1 _ [.int .i64 y] hx hr (by simp [Value.oneCell']) (by simp only [maxLen]; omega) (by omega) (by simp; omega) ?_
  intro v1 w1 hown1 hg1 hat1
  refine h v1 w1 (by unfold Ints; simpa using hown1) ((hb0.mono hB).grown hg1 (by simp; omega) (fun k hk => (World.ownsRow.lt hown k hk).1)) ⟨hg1.os, hg1.tape, hg1.output, by have := hg1.size; simp at this; omega, fun k hk hn => (hg1.block k (by simp; omega) hn).trans (hb0.block k hk)⟩

/-- what tells the scheduler's blocks from others stays -/
theorem Sch.same {w w' : World} {base S : Nat} {v : Value} {l : List Ent} {last : Int} (h : Sch w base S v l last)
    (hs : ∀ (k : Nat) (cs : Array Value) (t : TypeId) (fr : Nat × Nat), w.heap[k]? = some (.cells cs t fr) → t = 59 ∨ t = 65 ∨ t = 69 ∨ t = 46 → w'.heap[k]? = w.heap[k]?) : Sch w' base S v l last := by
  refine ⟨h.low, (hs _ _ _ _ h.head (.inl rfl)).trans h.head, row_move h.row fun k hk => ?_, fun e he => ?_, h.nodE, h.nodJ⟩
  · rcases h.row.2 with ⟨rfl, _⟩ | ⟨g', cap', cur, rfl, _, hg, _⟩
    · cases hk
    · cases hk
      exact hs _ _ _ _ hg (.inr (.inl rfl))
  · obtain ⟨⟨b1, a1⟩, b2, a2⟩ := h.ents e he
    exact ⟨⟨b1, (hs _ _ _ _ a1 (.inr (.inr (.inl rfl)))).trans a1⟩, b2, (hs _ _ _ _ a2 (.inr (.inr (.inr rfl)))).trans a2⟩
theorem Ints.other {w w' : World} {B : Nat} {v : Value} {xs : List Int} (h : Ints w B v xs) (hg : w.grownBy w' v.ownBlock) {k : Nat} {cs : Array Value} {t : TypeId} {fr : Nat × Nat} (hk : w.heap[k]? = some (.cells cs t fr)) (ht : t ≠ 3) :
    w'.heap[k]? = w.heap[k]? := by
  refine hg.block k (heap_lt hk) fun e => ?_
  rcases h.2 with ⟨rfl, _⟩ | ⟨g', cap', cur, rfl, _, hg', _⟩
  · cases e
  · cases e
    rw [hg'] at hk
    cases hk
    exact ht rfl
theorem Sch.grown {w w' : World} {base S B : Nat} {v u : Value} {l : List Ent} {last : Int} {xs : List Int} (h : Sch w base S v l last) (hi : Ints w B u xs) (hg : w.grownBy w' u.ownBlock) : Sch w' base S v l last :=
  h.same fun k cs t fr hk ht => hi.other hg hk (by rcases ht with rfl | rfl | rfl | rfl <;> decide)
set_option maxHeartbeats 1000000 in
theorem ids {w : World} {base S : Nat} {v : Value} {l : List Ent} {last : Int} (hl : l.length ≤ 1000) (h : Sch w base S v l last) :
    Calls Try.prog 14 #[.pointer (some ⟨S, 0, none⟩)] w fun e w' => ∃ r, e = .returned r ∧ Ints w' w.heap.size r (l.map (·.id)) ∧ Below w.heap.size w w' := by
  obtain ⟨A, c, rfl⟩ := h.form
  have ch := h.head0
  have hl2 : (l.length : Int) ≤ 1000 := by omega
  go_enter Try.func14, Try.ntmps14
  go_wp2
  go_loopw [3, 13] (fun a b w' => ∃ k : Nat, k ≤ l.length ∧ b = .int .i64 k ∧ Ints w' w.heap.size a ((l.take k).map (·.id)) ∧ Below w.heap.size w w') (fun _ b _ => l.length - (intOf b).toNat)
  case atStart => exact ⟨0, Nat.zero_le _, rfl, Ints.none_ _ _, Below.refl _ _⟩
  case round =>
    obtain ⟨k, hk, rfl, hi, hB⟩ := hrel
    by_cases hlt : k < l.length
    · have h1 := h.below hB
      obtain ⟨g, c', hv, hgb, c0, c1, -⟩ := h1.at_ hlt
      cases hv
      unfold ptr at c0
      have hlen : ((l.take k).map (·.id)).length ≤ 1000 := by simp; omega
      have hsz := hB.size
      replace hB := Lib.hid hB
      replace hi := Lib.hid hi
      have htk := Lib.hid (show (l.take (k + 1)).map (·.id) = (l.take k).map (·.id) ++ [l[k].id] by rw [List.take_succ_eq_append_getElem hlt, List.map_append]; rfl)
      go_wp2_with (at_builtin
                   refine wpList_appInt _ rfl (.tmp 17) (.tmp 22) rfl w.heap.size _ _ rfl hi.out _ _ rfl rfl hsz hlen ?_
                   intro v1 w1 hown1 hb1 hg1)
      go_roundw
      case rel => exact ⟨k + 1, by omega, by go_num, by rw [htk.out]; exact hown1, hB.out.trans hb1⟩
      case measure => simp [intOf]; omega
    · obtain rfl : k = l.length := by omega
      rw [List.take_length] at hi
      replace hB := Lib.hid hB
      replace hi := Lib.hid hi
      go_wp2
      go_ret
      exact ⟨_, rfl, hi.out, hB.out⟩

set_option maxHeartbeats 1000000 in
theorem sameInts {w : World} {B B' : Nat} {v v' : Value} {xs ys : List Int} (hl : xs.length ≤ 1000) (hl2 : ys.length ≤ 1000) (h : Ints w B v xs) (h' : Ints w B' v' ys) :
    Calls Try.prog 13 #[v, v'] w fun e w' => e = .returned (.bool (decide (xs = ys))) ∧ Below w.heap.size w w' := by
  obtain ⟨A, c, rfl⟩ := h.form
  obtain ⟨A', c', rfl⟩ := h'.form
  have hl3 : (xs.length : Int) ≤ 1000 := by omega
  have hl4 : (ys.length : Int) ≤ 1000 := by omega
  by_cases hn : xs.length = ys.length
  · have hn1 : ((xs.length : Int) != ys.length) = false := by simp [hn]
    rw [← hn]
    rw [← hn] at hn1
    go_enter Try.func13, Try.ntmps13
    go_wp2
    go_loopw [5] (fun b w' => ∃ k : Nat, k ≤ xs.length ∧ b = .int .i64 k ∧ Hid (∀ j (h1 : j < xs.length) (h2 : j < ys.length), j < k → xs[j] = ys[j]) ∧ Below w.heap.size w w') (fun b _ => xs.length - (intOf b).toNat)
    case atStart => exact ⟨0, Nat.zero_le _, rfl, fun j _ _ hj => absurd hj (Nat.not_lt_zero _), Below.refl _ _⟩
    case round =>
      obtain ⟨k, hk, rfl, he, hB⟩ := hrel
      by_cases hlt : k < xs.length
      · have hlt2 : k < ys.length := by omega
        obtain ⟨g, c1, hv, c0⟩ := (h.below hB).at_ hlt
        cases hv
        obtain ⟨g', c2, hv, d0⟩ := (h'.below hB).at_ hlt2
        cases hv
        cases hb : (xs[k] != ys[k]) with
        | true =>
          have hne := Lib.hid (show decide (xs = ys) = false by
            rw [decide_eq_false_iff_not]
            rintro rfl
            simp at hb)
          replace hB := Lib.hid hB
          replace hn := Lib.hid hn
          clear he
          go_wp2_with fail
          go_quiet (fail)
          go_wp2
          go_ret
          exact ⟨by rw [hne.out]; rfl, below_drewN hB.out _⟩
        | false =>
          have he2 : Hid (∀ j (h1 : j < xs.length) (h2 : j < ys.length), j < k + 1 → xs[j] = ys[j]) := fun j h1 h2 hj => by
            by_cases e : j = k
            · subst e; simpa using hb
            · exact he.out j h1 h2 (by omega)
          replace hB := Lib.hid hB
          replace hn := Lib.hid hn
          clear he
          go_wp2_with fail
          go_quiet (fail)
          go_wp2
          go_roundw
          case rel => exact ⟨k + 1, by omega, by go_num, he2, below_drewN hB.out _⟩
          case measure => simp [intOf]; omega
      · obtain rfl : k = xs.length := by omega
        have he2 := Lib.hid (show decide (xs = ys) = true by
          rw [decide_eq_true_iff]
          exact List.ext_getElem hn fun j h1 h2 => he.out j h1 h2 h1)
        replace hB := Lib.hid hB
        replace hn := Lib.hid hn
        clear he
        go_wp2
        go_ret
        exact ⟨by rw [he2.out]; rfl, hB.out⟩
  · have hn1 : ((xs.length : Int) != ys.length) = true := by simp; omega
    have hne := Lib.hid (show decide (xs = ys) = false by
      rw [decide_eq_false_iff_not]
      rintro rfl
      exact hn rfl)
    go_enter Try.func13, Try.ntmps13
    go_wp2
    go_ret
    exact ⟨by rw [hne.out]; rfl, Below.refl _ _⟩
end Go.Proofs.Ytkokijmgikdnfaa
