/- Contract of the reference's step. -/
import Derived.Test.YtkokijmgikdnfaaW
namespace Go.Proofs.Ytkokijmgikdnfaa
open Go.RowKit
set_option linter.unusedVariables false

def ans (id : Int) (d : Bool) (e : Int) : Value := .agg #[.int .i64 id, .bool d, .int .i64 e]
/-- block a holds an answer -/
def AnsAt (w : World) (a : Nat) (x : Int) (y : Bool) (z : Int) : Prop := w.heap[a]? = some (.cells #[.int .i64 x, .bool y, .int .i64 z] 34 (0, 0))
def ansW (w : World) (a : Nat) (x : Int) (y : Bool) (z : Int) : World := ((w.setCell ⟨a, 0, none⟩ (.int .i64 x)).setCell ⟨a, 1, none⟩ (.bool y)).setCell ⟨a, 2, none⟩ (.int .i64 z)
theorem AnsAt.store {w : World} {a : Nat} {x0 z0 : Int} {y0 : Bool} (h : AnsAt w a x0 y0 z0) (x : Int) (y : Bool) (z : Int) : AnsAt (ansW w a x y z) a x y z := by
  have h1 := heap_setCell_same w a 0 _ _ (.int .i64 x) h
  have h2 := heap_setCell_same _ a 1 _ _ (.bool y) h1
  exact heap_setCell_same _ a 2 _ _ (.int .i64 z) h2
theorem ansW_other (w : World) (a : Nat) (x : Int) (y : Bool) (z : Int) (k : Nat) (hk : k ≠ a) : (ansW w a x y z).heap[k]? = w.heap[k]? := by
  unfold ansW
  rw [setCell_same _ _ _ _ hk, setCell_same _ _ _ _ hk, setCell_same _ _ _ _ hk]
theorem ret_ans {fn : Func} {t : Tmp} (h : fn.results = #[.cell t 34]) (tmps : Array Value) (w : World) (a : Nat) (ht : tmps.getD t undef = .pointer (some ⟨a, 0, none⟩)) {x z : Int} {y : Bool} (hw : AnsAt w a x y z) :
    (results fn tmps).run Try.prog w = .ok (ans x y z) w := by
  have c0 : w.cell? ⟨a, 0, none⟩ = some (.int .i64 x) := cell_of_row _ _ 0 _ _ _ hw
  have c1 : w.cell? ⟨a, 1, none⟩ = some (.bool y) := cell_of_row _ _ 1 _ _ _ hw
  have c2 : w.cell? ⟨a, 2, none⟩ = some (.int .i64 z) := cell_of_row _ _ 2 _ _ _ hw
  have ht' : tmps[t]?.getD undef = .pointer (some ⟨a, 0, none⟩) := by simpa using ht
  simp only [results, h]
  simp [ht', go_sem, c0, c1, c2, ans]
theorem RS.ans {w : World} {base S a : Nat} {v : Value} {l : List Ent} {last : Int} (h : RS w base S v l last) {x0 z0 : Int} {y0 : Bool} (ha : AnsAt w a x0 y0 z0) (x : Int) (y : Bool) (z : Int) : RS (ansW w a x y z) base S v l last := by
  refine ⟨h.low, (ansW_other _ _ _ _ _ _ (tag_ne h.head ha (by decide))).trans h.head, row_move h.row fun k hk => ansW_other _ _ _ _ _ _ ?_⟩
  rcases h.row.2 with ⟨rfl, _⟩ | ⟨g', cap', cur, rfl, _, hg, _⟩
  · cases hk
  · cases hk
    exact tag_ne hg ha (by decide)
theorem RKeep.ans {w w' : World} {base a : Nat} (h : RKeep base w w') (ha : w.heap.size ≤ a) (x : Int) (y : Bool) (z : Int) : RKeep base w (ansW w' a x y z) :=
  ((h.setCell (p := ⟨a, 0, none⟩) (.inl ha) _).setCell (p := ⟨a, 1, none⟩) (.inl ha) _).setCell (p := ⟨a, 2, none⟩) (.inl ha) _
theorem RKeep.ansAt {w w' : World} {base a : Nat} {x z : Int} {y : Bool} (h : RKeep base w w') (ha : AnsAt w a x y z) : AnsAt w' a x y z := (h.other _ _ _ _ ha (by decide) (by decide)).trans ha
def RStepped (w : World) (base S : Nat) (l : List Ent) (last : Int) (i : Nat) (hi : i < l.length) (e : Ending) (w' : World) : Prop :=
  e = .returned (ans l[i].id (wrap64 (l[i].left - 1) == 0) 0) ∧ (∃ v', RS w' base S v' (stepL l i hi) last) ∧ RKeep base w w'

set_option maxHeartbeats 4000000 in
theorem rStep {w : World} {base S : Nat} {v : Value} {l : List Ent} {last : Int} (i : Nat) (hi : i < l.length) (hl : l.length ≤ 1000) (hb : base ≤ w.heap.size) (h : RS w base S v l last) :
    Calls Try.prog 23 #[.pointer (some ⟨S, 0, none⟩), .int .i64 i] w (RStepped w base S l last i hi) := by
  obtain ⟨g, c, hv, hr⟩ := h.rrow (by omega)
  subst hv
  have hB0 : Below w.heap.size w (w.alloc (.cells #[.int .i64 0, .bool false, .int .i64 0] 34)) := (Below.refl _ _).alloc (Nat.le_refl _) _
  have h0 := h.below hB0
  have hr0 : RRow (w.alloc (.cells #[.int .i64 0, .bool false, .int .i64 0] 34)) base g c l := ⟨h0.row⟩
  have ch := h0.head0
  obtain ⟨d0, d1, d2, d3⟩ := hr0.cells hi
  have fr := hr0.frozen (i * 4 + 3)
  obtain ⟨h1, k1⟩ := h0.setLeft i hi
  have hK1 := Lib.hid ((RKeep.of_below (base := base) hB0).trans k1)
  have ha0 : Hid ((((w.alloc (.cells #[.int .i64 0, .bool false, .int .i64 0] 34)).setCell ⟨g, i * 4 + 3, none⟩ (.int .i64 (wrap64 (l[i].left - 1))))).heap[w.heap.size]? = some (.cells #[.int .i64 0, .bool false, .int .i64 0] 34 (0, 0))) := by
    have hg := hr.block
    obtain ⟨_, cs, fr', hg⟩ := hg
    have := heap_lt hg
    exact (setCell_same _ _ _ _ (by show w.heap.size ≠ g; omega)).trans (heap_alloc_new w _)
  go_enter Try.func23, Try.ntmps23
  go_upto_region 2 with fail
  have hz1 : w.heap.size < ((w.alloc (.cells #[.int .i64 0, .bool false, .int .i64 0] 34)).setCell ⟨g, i * 4 + 3, none⟩ (.int .i64 (wrap64 (l[i].left - 1)))).heap.size := by simp
  have hr1 : RRow ((w.alloc (.cells #[.int .i64 0, .bool false, .int .i64 0] 34)).setCell ⟨g, i * 4 + 3, none⟩ (.int .i64 (wrap64 (l[i].left - 1)))) base g c (l.set i l[i].ran) := ⟨by have := h1.row; rw [List.length_set] at this ⊢; exact this⟩
  have hcell := hr1.cells (i := i) (by simpa using hi)
  rw [List.getElem_set_self] at hcell
  obtain ⟨c0, -, -, c3⟩ := hcell
  have ch1 := h1.head0
  replace h1 := Lib.hid h1
  replace hz1 := Lib.hid hz1
  clear hr1 h0 hr0 ch d0 d1 d2 d3 fr k1 hB0 hr h
  generalize (w.alloc (.cells #[.int .i64 0, .bool false, .int .i64 0] 34)).setCell ⟨g, i * 4 + 3, none⟩ (.int .i64 (wrap64 (l[i].left - 1))) = W1 at *
  have p0 : ∀ o, (W1.alloc o).cell? ⟨g, i * 4, none⟩ = some (.int .i64 l[i].id) := fun o => (World.cell?_alloc_lt _ o _ (World.block_lt_of_cell? _ _ c0)).trans c0
  have p3 : ∀ o, (W1.alloc o).cell? ⟨g, i * 4 + 3, none⟩ = some (.int .i64 (wrap64 (l[i].left - 1))) := fun o => (World.cell?_alloc_lt _ o _ (World.block_lt_of_cell? _ _ c3)).trans c3
  have ph : ∀ o, (W1.alloc o).cell? ⟨S, 0, none⟩ = some (.slice (some ⟨g, 0, none⟩) l.length c) := fun o => (World.cell?_alloc_lt _ o _ (World.block_lt_of_cell? _ _ ch1)).trans ch1
  change W1.cell? ⟨g, i * 4 + 3, none⟩ = some (.int .i64 (wrap64 (l[i].left - 1))) at c3
  change W1.cell? ⟨g, i * 4, none⟩ = some (.int .i64 l[i].id) at c0
  obtain ⟨fl, hfl⟩ : ∃ fl, (wrap64 (l[i].left - 1) == 0) = fl := ⟨_, rfl⟩
  have hflag := Lib.hid hfl
  obtain ⟨idv, hidv⟩ : ∃ x, l[i].id = x := ⟨_, rfl⟩
  obtain ⟨lf, hlf⟩ : ∃ x, wrap64 (l[i].left - 1) = x := ⟨_, rfl⟩
  rw [hidv] at c0
  rw [hlf] at c3 hfl
  simp only [hidv] at p0
  simp only [hlf] at p3
  replace hidv := Lib.hid hidv
  replace hlf := Lib.hid hlf
  go_cut [5] (fun v wx => ∃ b, v = .pointer (some ⟨b, 0, none⟩) ∧ W1.heap.size ≤ b ∧ wx.heap[b]? = some (.cells #[.int .i64 idv, .bool fl, .int .i64 0] 34 (0, 0)) ∧ Below W1.heap.size W1 wx)
  case first =>
    go_region
    all_goals go_wp2_with fail
    all_goals go_meet
    all_goals exact ⟨_, rfl, Nat.le_refl _, heap_alloc_new W1 _, ((Below.refl _ _).alloc (Nat.le_refl _) _).drew⟩
  case rest =>
    obtain ⟨b, rfl, hbb, hbh, hB⟩ := hcut
    have h2 := h1.out.below hB
    have e1 : wc.cell? ⟨b, 1, none⟩ = some (.bool fl) := cell_of_row _ _ 1 _ _ _ hbh
    have ha2 := heap_below hB ha0.out
    have hK2 := Lib.hid (hK1.out.trans (RKeep.of_below hB))
    have hzc : base ≤ wc.heap.size := by have := hz1.out; have := hB.size; omega
    have hab : w.heap.size ≠ b := by have := hz1.out; omega
    clear c0 c3 ch1 p0 p3 ph h1 ha0 hK1 hB hbb
    cases fl with
    | false =>
      have hs : Hid (stepL l i hi = l.set i l[i].ran) := by unfold stepL; rw [hflag.out]; rfl
      have fb0 : wc.cell? ⟨b, 0, none⟩ = some (.int .i64 idv) := cell_of_row _ _ 0 _ _ _ hbh
      have fb2 : wc.cell? ⟨b, 2, none⟩ = some (.int .i64 0) := cell_of_row _ _ 2 _ _ _ hbh
      have fa0 : wc.cell? ⟨w.heap.size, 0, none⟩ = some (.int .i64 0) := cell_of_row _ _ 0 _ _ _ ha2
      have fa1 : wc.cell? ⟨w.heap.size, 1, none⟩ = some (.bool false) := cell_of_row _ _ 1 _ _ _ ha2
      have fa2 : wc.cell? ⟨w.heap.size, 2, none⟩ = some (.int .i64 0) := cell_of_row _ _ 2 _ _ _ ha2
      have z0 := fz ha2 0
      have z1 := fz ha2 1
      have z2 := fz ha2 2
      replace h2 := Lib.hid h2
      replace ha2 := Lib.hid ha2
      go_wp2
      have hA : AnsAt wc w.heap.size 0 false 0 := ha2.out
      refine bodyPost_ret (ret_ans rfl _ _ w.heap.size rfl (hA.store idv false 0)) rfl ?_
      refine ⟨by rw [hidv.out, hflag.out], ⟨_, by rw [hs.out]; exact RS.ans h2.out hA _ _ _⟩, hK2.out.ans (Nat.le_refl _) _ _ _⟩
    | true =>
      have hs : Hid (stepL l i hi = l.eraseIdx i) := by unfold stepL; rw [hflag.out]; rfl
      have hcaps : l.length ≤ c ∧ c ≤ 9223372036854775807 := by
        rcases h2.row.2 with ⟨h', _⟩ | ⟨g', cap', cur, h', _, _, hnc, hcm, _⟩
        · cases h'
        · injection h' with _ _ e3'
          rw [List.length_set] at hnc
          rw [e3']
          exact ⟨hnc, by simpa [maxLen] using hcm⟩
      have hlen : (l.set i l[i].ran).length = l.length := List.length_set
      have hd := rDrop (w := wc) (base := base) (S := S) (g := g) (c := c) (l := l.set i l[i].ran) (last := last) i (by rw [hlen]; exact hi) (by rw [hlen]; exact hl) hzc (by rw [hlen]; exact h2) (by rw [hlen]; exact hcaps.1) hcaps.2
      rw [List.eraseIdx_set_eq] at hd
      replace hd := Lib.hid hd
      clear h2 hcaps hlen
      go_wp2_with fail
      refine hd.out.mono ?_
      rintro e w5 ⟨rfl, ⟨v5, h5⟩, k5⟩
      have hA : AnsAt w5 w.heap.size 0 false 0 := k5.ansAt ha2
      have hA2 : AnsAt w5 b idv true 0 := k5.ansAt hbh
      have hK3 := Lib.hid (hK2.out.trans k5)
      have fb0 : w5.cell? ⟨b, 0, none⟩ = some (.int .i64 idv) := cell_of_row _ _ 0 _ _ _ hA2
      have fb1 : w5.cell? ⟨b, 1, none⟩ = some (.bool true) := cell_of_row _ _ 1 _ _ _ hA2
      have fb2 : w5.cell? ⟨b, 2, none⟩ = some (.int .i64 0) := cell_of_row _ _ 2 _ _ _ hA2
      have fa0 : w5.cell? ⟨w.heap.size, 0, none⟩ = some (.int .i64 0) := cell_of_row _ _ 0 _ _ _ hA
      have fa1 : w5.cell? ⟨w.heap.size, 1, none⟩ = some (.bool false) := cell_of_row _ _ 1 _ _ _ hA
      have fa2 : w5.cell? ⟨w.heap.size, 2, none⟩ = some (.int .i64 0) := cell_of_row _ _ 2 _ _ _ hA
      have z0 := fz hA 0
      have z1 := fz hA 1
      have z2 := fz hA 2
      replace h5 := Lib.hid h5
      replace hA := Lib.hid hA
      clear hd k5 hA2 ha2 hbh e1
      go_wp2
      refine bodyPost_ret (ret_ans rfl _ _ w.heap.size rfl (hA.out.store idv true 0)) rfl ?_
      exact ⟨by rw [hidv.out, hflag.out], ⟨_, by rw [hs.out]; exact RS.ans h5.out hA.out _ _ _⟩, hK3.out.ans (Nat.le_refl _) _ _ _⟩
end Go.Proofs.Ytkokijmgikdnfaa
