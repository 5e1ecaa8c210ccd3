/- Contract of the reference's drop. -/
import Derived.Test.YtkokijmgikdnfaaU
import Derived.Deep.RegionLaw
namespace Go.Proofs.Ytkokijmgikdnfaa
open Go.RowKit
set_option linter.unusedVariables false

theorem info61 : (Try.prog.info? 61).map (fun i => (i.zero, i.size, i.bytes)) = some (some (.agg #[.int .i64 0, .int .i64 0, .int .i64 0, .int .i64 0]), 4, 32) := by kernel_rfl
theorem RRow.reads {w : World} {base g c : Nat} {l : List Ent} (h : RRow w base g c l) : Reads w w.heap.size 4 (some ⟨g, 0, none⟩) l.length (flat l) := Reads.of_own h.row
theorem flat_drop (l : List Ent) (n : Nat) : flat (l.drop n) = (flat l).drop (n * 4) := by
  induction l generalizing n with
  | nil => simp [flat]
  | cons b l ih =>
    cases n with
    | zero => simp
    | succ n =>
      rw [show (n + 1) * 4 = n * 4 + 1 + 1 + 1 + 1 from by omega]
      simp only [flat, List.drop_succ_cons, ih]

theorem Reads.take {w : World} {B size n : Nat} {A : Option Addr} {xs : List Value} (h : Reads w B size A n xs) (k : Nat) (hk : k ≤ n) : Reads w B size A k (xs.take (k * size)) := by
  refine ⟨by rw [List.length_take, h.1]; exact Nat.min_eq_left (Nat.mul_le_mul_right _ hk), fun h0 => ?_⟩
  obtain ⟨ad, e, hb, hc⟩ := h.2 (by omega)
  refine ⟨ad, e, hb, fun j u hu => hc j u ?_⟩
  rw [List.getElem?_take] at hu
  split at hu
  · exact hu
  · cases hu

theorem step_drop1 {ops : Array Oper} {o : Oper} {a : Act} {K : Act → World → Prop} {Q : Exit → Act → World → Prop} {E : Prop} (hgd : o.guard = none) (s x : Operand)
    (ho : o.op = .call { callee := .builtin .append, args := #[s, x], argTypes := #[27, 27] }) {W : World} {base S g c : Nat} {l : List Ent} {last : Int} (h : RS W base S (.slice (some ⟨g, 0, none⟩) l.length c) l last)
    (hl : l.length ≤ 1000) (i : Nat) (hi : i ≤ l.length) (g0 : Nat) (hs : a.eval s = .slice (some ⟨g0, 0, none⟩) 0 0) (hg0 : g0 = W.heap.size) (hx : a.eval x = .slice (some ⟨g, 0, none⟩) i c)
    (hk : ∀ v1 w1, w1.ownsRow W.heap.size 61 4 v1 i (flat (l.take i)) → Below W.heap.size W w1 → w1.cell? ⟨S, 0, none⟩ = some (.slice (some ⟨g, 0, none⟩) l.length c) → K (a.put o.dst v1) w1) :
    if Region.wanted o (yielded ops a.tmps) = true then Oper.wp Try.prog o a (W.alloc (.cells #[] 61)).drew K Q else E := by
  obtain ⟨i0, hi0, hz0, hz1, hz2⟩ := info_parts info61
  subst hg0
  have hb0 : Below W.heap.size W (W.alloc (.cells #[] 61)).drew := ((Below.refl _ _).alloc (Nat.le_refl _) _).drew
  have hown0 : (W.alloc (.cells #[] 61)).drew.ownsRow W.heap.size 61 4 (.slice (some ⟨W.heap.size, 0, none⟩) 0 0) 0 [] := World.ownsRow_made W #[] 0 (Nat.le_refl _) (by simp [maxLen]) rfl
  have hr : Reads (W.alloc (.cells #[] 61)).drew (W.alloc (.cells #[] 61)).drew.heap.size 4 (some ⟨g, 0, none⟩) i (flat (l.take i)) := by
    rw [flat_take]
    exact (RRow.reads ⟨(h.below hb0).row⟩).take i hi
  refine step_append_any _ hgd s x _ ho W.heap.size 61 i0 _ 4 32 Try.underlying27 hi0 hz0 hz1 hz2 rfl (by omega) _ 0 [] hs hown0 _ _ i c _ hx hr (flat_one _) (by simp only [maxLen]; omega) (by omega) (by simp) ?_
  intro v1 w1 hown hgr _
  have hb1 : Below W.heap.size W w1 := hb0.grown hgr (by simp) (fun k hk => by simp [Value.ownBlock] at hk; omega)
  refine hk v1 w1 (by simpa using hown) hb1 (cell_below hb1 h.head0)
theorem step_drop2 {ops : Array Oper} {o : Oper} {a : Act} {K : Act → World → Prop} {Q : Exit → Act → World → Prop} {E : Prop} (hgd : o.guard = none) (s x : Operand)
    (ho : o.op = .call { callee := .builtin .append, args := #[s, x], argTypes := #[27, 27] }) {W w1 : World} {base S g c : Nat} {l : List Ent} {last : Int} (h : RS W base S (.slice (some ⟨g, 0, none⟩) l.length c) l last)
    (hb : Below W.heap.size W w1) (hl : l.length ≤ 1000) (i j : Nat) (hj : j = i + 1) (hi : i < l.length) (hc : l.length ≤ c) (v1 : Value) (hs : a.eval s = v1) (hown1 : w1.ownsRow W.heap.size 61 4 v1 i (flat (l.take i)))
    (A : Option Addr) (c2 : Nat) (hx : a.eval x = .slice A (l.length - j) c2) (hA : A = if c = j then some ⟨g, 0, none⟩ else some ⟨g, j * 4, none⟩)
    (hk : ∀ A3 c3 w2, w2.ownsRow W.heap.size 61 4 (.slice A3 (l.eraseIdx i).length c3) (l.eraseIdx i).length (flat (l.eraseIdx i)) → Below W.heap.size W w2 → w2.cell? ⟨S, 0, none⟩ = some (.slice (some ⟨g, 0, none⟩) l.length c) →
      w2.frozen? ⟨S, 0, none⟩ = false → K (a.put o.dst (.slice A3 (l.eraseIdx i).length c3)) w2) :
    if Region.wanted o (yielded ops a.tmps) = true then Oper.wp Try.prog o a w1 K Q else E := by
  obtain ⟨i0, hi0, hz0, hz1, hz2⟩ := info_parts info61
  subst hj
  have h1 := h.below hb
  have hr : Reads w1 w1.heap.size 4 A (l.length - (i + 1)) (flat (l.drop (i + 1))) := by
    rw [flat_drop]
    have := (RRow.reads ⟨h1.row⟩).cut (k := i + 1) (cap := c) (by omega) hc
    rw [hA]
    have e : (some (⟨g, 0, none⟩ : Addr)).map (·.add ((i + 1) * 4)) = some ⟨g, (i + 1) * 4, none⟩ := by rw [Option.map_some, add_plain]
    rw [e] at this
    exact this
  refine step_append_any _ hgd s x _ ho W.heap.size 61 i0 _ 4 32 Try.underlying27 hi0 hz0 hz1 hz2 rfl (by omega) _ i _ hs hown1 _ _ _ c2 _ hx hr (flat_one _) (by simp only [maxLen]; omega) (by omega) hb.size ?_
  intro v2 w2 hown hgr _
  have hb2 : Below W.heap.size W w2 := hb.grown hgr hb.size (fun k hk => (World.ownsRow.lt hown1 k hk).1)
  have hlen : i + (l.length - (i + 1)) = (l.eraseIdx i).length := by rw [List.length_eraseIdx_of_lt hi]; omega
  have hfl : flat (l.take i) ++ flat (l.drop (i + 1)) = flat (l.eraseIdx i) := by rw [← flat_append, List.eraseIdx_eq_take_drop_succ]
  rw [hlen, hfl] at hown
  have hform : ∃ A3 c3, v2 = .slice A3 (l.eraseIdx i).length c3 := by
    rcases hown.2 with ⟨rfl, e⟩ | ⟨g, cap, cur, rfl, _⟩
    · exact ⟨none, 0, by rw [e]⟩
    · exact ⟨_, _, rfl⟩
  obtain ⟨A3, c3, rfl⟩ := hform
  exact hk A3 c3 w2 hown hb2 (cell_below hb2 h.head0) (fz (heap_below hb2 h.head) 0)

theorem row_lower {w : World} {base base' : Nat} {e : TypeId} {size n : Nat} {v : Value} {xs : List Value} (h : w.ownsRow base e size v n xs) (hb : base' ≤ base) : w.ownsRow base' e size v n xs := by
  refine ⟨h.1, ?_⟩
  rcases h.2 with hn | ⟨g, cap, cur, rfl, hbg, rest⟩
  · exact .inl hn
  · exact .inr ⟨g, cap, cur, rfl, Nat.le_trans hb hbg, rest⟩
theorem RS.dropped {w w2 : World} {base S : Nat} {v v2 : Value} {l l2 : List Ent} {last : Int} (h : RS w base S v l last) (hb : base ≤ w.heap.size) (hown : w2.ownsRow w.heap.size 61 4 v2 l2.length (flat l2)) (hb2 : Below w.heap.size w w2) :
    RS (w2.setCell ⟨S, 0, none⟩ v2) base S v2 l2 last ∧ RKeep base w (w2.setCell ⟨S, 0, none⟩ v2) := by
  have hh := heap_below hb2 h.head
  refine ⟨⟨h.low, heap_setCell_same w2 S 0 _ _ v2 hh, row_move (row_lower hown hb) fun k hk => ?_⟩, (RKeep.of_below hb2).setCell (.inr ⟨h.low, _, _, _, h.head, .inl rfl⟩) _⟩
  refine setCell_same _ _ _ _ ?_
  have := (World.ownsRow.lt hown k hk).1
  have := heap_lt h.head
  simp only
  omega

set_option maxHeartbeats 4000000 in
theorem rDrop {w : World} {base S g c : Nat} {l : List Ent} {last : Int} (i : Nat) (hi : i < l.length) (hl : l.length ≤ 1000) (hb : base ≤ w.heap.size) (h : RS w base S (.slice (some ⟨g, 0, none⟩) l.length c) l last) (hc : l.length ≤ c) (hcm : c ≤ 9223372036854775807) :
    Calls Try.prog 22 #[.pointer (some ⟨S, 0, none⟩), .int .i64 i] w fun e w' => e = .returned (.tuple #[]) ∧ (∃ v', RS w' base S v' (l.eraseIdx i) last) ∧ RKeep base w w' := by
  have ch := h.head0
  have hic : i ≤ c := by omega
  have hjc : i + 1 ≤ c := by omega
  have hjl : i + 1 ≤ l.length := by omega
  have dA : ∀ o, (w.alloc o).cell? ⟨S, 0, none⟩ = some (.slice (some ⟨g, 0, none⟩) l.length c) := fun o => (World.cell?_alloc_lt _ o _ (World.block_lt_of_cell? _ _ ch)).trans ch
  obtain ⟨j, hj⟩ : ∃ j, j = i + 1 := ⟨_, rfl⟩
  have gj : IntKind.i64.wrap ((i : Int) + 1) = (j : Int) := by rw [IntKind.wrap_i64, hj]; omega
  rw [← hj] at hjc hjl
  obtain ⟨A, hA⟩ : ∃ A : Option Addr, (if c = j then some ⟨g, 0, none⟩ else some ⟨g, j * 4, none⟩) = A := ⟨_, rfl⟩
  have hA2 := Lib.hid hA.symm
  replace hj := Lib.hid hj
  replace h := Lib.hid h
  go_enter Try.func22, Try.ntmps22
  go_wp2_with fail
  go_region_law (first
    | (refine step_drop1 rfl (.tmp 5) (.tmp 11) rfl h.out hl i (Nat.le_of_lt hi) w.heap.size (by first | (simp [Act.eval]; done) | simp [Act.eval, Act.put]) rfl (by first | (simp [Act.eval]; done) | simp [Act.eval, Act.put]) ?_; intro v1 w1 hown1 hb1 q1)
    | (refine step_drop2 rfl (.tmp 12) (.tmp 19) rfl h.out hb1 hl i j hj.out hi hc v1 (by first | (simp [Act.eval]; done) | simp [Act.eval, Act.put]) hown1 A (c - j) (by first | (simp [Act.eval]; done) | simp [Act.eval, Act.put]) hA2.out ?_; intro A3 c3 w2 hown2 hb2 q2 q3))
  all_goals (go_end0; exact ⟨rfl, ⟨_, (h.out.dropped hb hown2 hb2).1⟩, (h.out.dropped hb hown2 hb2).2⟩)
end Go.Proofs.Ytkokijmgikdnfaa
