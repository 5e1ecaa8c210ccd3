/- Contract of Add. -/
import Derived.Test.YtkokijmgikdnfaaL
import Derived.Deep.RegionLaw
namespace Go.Proofs.Ytkokijmgikdnfaa
open Go.RowKit
set_option linter.unusedVariables false

theorem Sch.setLast {w : World} {base S : Nat} {v : Value} {l : List Ent} {last : Int} (h : Sch w base S v l last) (x : Int) : Sch (w.setCell ⟨S, 1, none⟩ (.int .i64 x)) base S v l x := by
  have ho : ∀ k, k ≠ S → (w.setCell ⟨S, 1, none⟩ (.int .i64 x)).heap[k]? = w.heap[k]? := fun k hk => setCell_same _ _ _ _ hk
  have hs := heap_setCell_same w S 1 _ _ (.int .i64 x) h.head
  generalize w.setCell ⟨S, 1, none⟩ (.int .i64 x) = w' at *
  refine ⟨h.low, hs, ?_, ?_, h.nodE, h.nodJ⟩
  · refine row_move h.row fun k hk => ho k ?_
    rcases h.row.2 with ⟨rfl, _⟩ | ⟨g', cap', cur, rfl, _, hg, _⟩
    · cases hk
    · cases hk
      exact tag_ne hg h.head (by decide)
  · intro e he
    obtain ⟨⟨b1, a1⟩, b2, a2⟩ := h.ents e he
    exact ⟨⟨b1, (ho _ (tag_ne a1 h.head (by decide))).trans a1⟩, b2, (ho _ (tag_ne a2 h.head (by decide))).trans a2⟩

theorem Sch.push {w w1 : World} {base S : Nat} {v v1 : Value} {l : List Ent} {last : Int} (h : Sch w base S v l last) (e : Ent) (hb : base ≤ w.heap.size) (heb : e.eb = w.heap.size) (hj : JobAt w base e)
    (hf : ∀ x ∈ l, x.jb ≠ e.jb) (hown : w1.ownsRow base 65 1 v1 (l.length + 1) (l.map ptr ++ [ptr e]))
    (hg : ((w.alloc (.cells (entCells e) 69)).alloc (.cells #[ptr e] 65)).drew.grownBy w1 v.ownBlock) :
    Sch (w1.setCell ⟨S, 0, none⟩ v1) base S v1 (l ++ [e]) last ∧ Keep base (fun _ => False) w (w1.setCell ⟨S, 0, none⟩ v1) := by
  have hbk : ∀ k, k < w.heap.size → some k ≠ v.ownBlock → w1.heap[k]? = w.heap[k]? := by
    intro k hk hn
    rw [hg.block k (by simp; omega) hn]
    have hB : Below w.heap.size w ((w.alloc (.cells (entCells e) 69)).alloc (.cells #[ptr e] 65)).drew := (((Below.refl _ _).alloc (Nat.le_refl _) _).alloc (by simp) _).drew
    exact hB.block k hk
  have hne : ∀ k cs t fr, w.heap[k]? = some (.cells cs t fr) → t ≠ 65 → some k ≠ v.ownBlock := by
    intro k cs t fr hk ht e'
    rcases h.row.2 with ⟨rfl, _⟩ | ⟨g', cap', cur, rfl, _, hg', _⟩
    · cases e'
    · cases e'
      rw [hg'] at hk
      cases hk
      exact ht rfl
  have hnew : w1.heap[e.eb]? = some (.cells (entCells e) 69 (0, 0)) := by
    rw [hg.block e.eb (by simp; omega)]
    · have := heap_alloc_new w (.cells (entCells e) 69)
      have hB : Below (w.alloc (.cells (entCells e) 69)).heap.size (w.alloc (.cells (entCells e) 69)) ((w.alloc (.cells (entCells e) 69)).alloc (.cells #[ptr e] 65)).drew := ((Below.refl _ _).alloc (Nat.le_refl _) _).drew
      rw [heb]
      exact (hB.block w.heap.size (by simp)).trans this
    · intro e'
      have := World.ownsRow.lt h.row e.eb e'.symm
      omega
  have hS : w1.heap[S]? = _ := (hbk S (heap_lt h.head) (hne _ _ _ _ h.head (by decide))).trans h.head
  have ho : ∀ k, k ≠ S → (w1.setCell ⟨S, 0, none⟩ v1).heap[k]? = w1.heap[k]? := fun k hk => setCell_same _ _ _ _ hk
  have hs := heap_setCell_same w1 S 0 _ _ v1 hS
  have hsz : w.heap.size ≤ w1.heap.size := by have := hg.size; simp at this; omega
  have hK : Keep base (fun _ => False) w w1 := ⟨hg.os, hg.tape, hg.output, hsz, fun k hk _ hm => hbk k hk (by
    intro e'
    rcases h.row.2 with ⟨rfl, _⟩ | ⟨g', cap', cur, rfl, hb', hg', _⟩
    · cases e'
    · cases e'
      exact hm ⟨hb', _, _, _, hg', .inr (.inl rfl)⟩)⟩
  refine ⟨?_, hK.setCell (.inr (.inr (mine_head h))) _⟩
  generalize w1.setCell ⟨S, 0, none⟩ v1 = w2 at *
  have hSl := heap_lt h.head
  refine ⟨h.low, hs, ?_, ?_, ?_, ?_⟩
  · rw [List.length_append, List.map_append]
    refine row_move hown fun k hk => ho k ?_
    rcases hown.2 with ⟨rfl, _⟩ | ⟨g', cap', cur, rfl, _, hg', _⟩
    · cases hk
    · cases hk
      exact tag_ne hg' hS (by decide)
  · intro x hx
    rcases List.mem_append.1 hx with hx | hx
    · obtain ⟨⟨b1, a1⟩, b2, a2⟩ := h.ents x hx
      exact ⟨⟨b1, (ho _ (tag_ne a1 h.head (by decide))).trans ((hbk _ (heap_lt a1) (hne _ _ _ _ a1 (by decide))).trans a1)⟩, b2,
        (ho _ (tag_ne a2 h.head (by decide))).trans ((hbk _ (heap_lt a2) (hne _ _ _ _ a2 (by decide))).trans a2)⟩
    · rw [List.mem_singleton] at hx
      subst hx
      exact ⟨⟨by omega, (ho _ (by omega)).trans hnew⟩, hj.1, (ho _ (tag_ne hj.2 h.head (by decide))).trans ((hbk _ (heap_lt hj.2) (hne _ _ _ _ hj.2 (by decide))).trans hj.2)⟩
  · rw [List.map_append, List.nodup_append]
    refine ⟨h.nodE, by simp, ?_⟩
    intro a ha b hb'
    obtain ⟨x, hx, rfl⟩ := List.mem_map.1 ha
    simp at hb'
    have := heap_lt (h.ents x hx).1.2
    omega
  · rw [List.map_append, List.nodup_append]
    refine ⟨h.nodJ, by simp, ?_⟩
    intro a ha b hb'
    obtain ⟨x, hx, rfl⟩ := List.mem_map.1 ha
    simp at hb'
    rw [hb']
    exact hf x hx

theorem step_push {ops : Array Oper} {o : Oper} {a : Act} {K : Act → World → Prop} {Q : Exit → Act → World → Prop} {E : Prop} (hgd : o.guard = none) (s x : Operand)
    (ho : o.op = .call { callee := .builtin .append, args := #[s, x], argTypes := #[57, 57] }) {W1 : World} {base S : Nat} {A : Option Addr} {c : Nat} {l : List Ent} {last : Int} (h : Sch W1 base S (.slice A l.length c) l last)
    (hb : base ≤ W1.heap.size) (hl : l.length < 64) (e : Ent) (hs : a.eval s = .slice A l.length c) (g : Nat) (hx : a.eval x = .slice (some ⟨g, 0, none⟩) 1 1) (hg : g = W1.heap.size + 1) (cells : Array Value) (hcells : cells = entCells e) (p : Value) (hp : p = ptr e)
    (hk : ∀ g1 c1 w1, w1.ownsRow base 65 1 (.slice (some ⟨g1, 0, none⟩) (l.length + 1) c1) (l.length + 1) (l.map ptr ++ [ptr e]) → ((W1.alloc (.cells (entCells e) 69)).alloc (.cells #[ptr e] 65)).drew.grownBy w1 (Value.slice A l.length c).ownBlock →
      w1.cell? ⟨S, 0, none⟩ = some (.slice A l.length c) → w1.frozen? ⟨S, 0, none⟩ = false → K (a.put o.dst (.slice (some ⟨g1, 0, none⟩) (l.length + 1) c1)) w1) :
    if Region.wanted o (yielded ops a.tmps) = true then Oper.wp Try.prog o a ((W1.alloc (.cells cells 69)).alloc (.cells #[p] 65)).drew K Q else E := by
  obtain ⟨i0, hi0, hz0, hz1, hz2⟩ := info_parts info65
  subst hg hcells hp
  have hb0 : Below W1.heap.size W1 ((W1.alloc (.cells (entCells e) 69)).alloc (.cells #[ptr e] 65)).drew := (((Below.refl _ _).alloc (Nat.le_refl _) _).alloc (by simp) _).drew
  have hlit : ((W1.alloc (.cells (entCells e) 69)).alloc (.cells #[ptr e] 65)).ownsRow 0 65 1 (.slice (some ⟨(W1.alloc (.cells (entCells e) 69)).heap.size, 0, none⟩) 1 1) 1 [ptr e] :=
    World.ownsRow_lit _ #[ptr e] 1 (Nat.zero_le _) (by simp [maxLen]) rfl
  have hr : Reads ((W1.alloc (.cells (entCells e) 69)).alloc (.cells #[ptr e] 65)).drew ((W1.alloc (.cells (entCells e) 69)).alloc (.cells #[ptr e] 65)).heap.size 1 (some ⟨(W1.alloc (.cells (entCells e) 69)).heap.size, 0, none⟩) 1 [ptr e] := (Reads.of_own hlit).drew
  have hz : (W1.alloc (.cells (entCells e) 69)).heap.size = W1.heap.size + 1 := by simp
  rw [hz] at hr
  refine step_append_any _ hgd s x _ ho base 65 i0 _ 1 8 Try.underlying57 hi0 hz0 hz1 hz2 rfl (by omega) _ l.length (l.map ptr) hs (h.below hb0).row _ _ 1 1 [ptr e] hx hr (by simp [Value.oneCell', ptr]) (by simp only [maxLen]; omega) (by omega) (by simp; omega) ?_
  intro v1 w1 hown hgr _
  have hS : w1.heap[S]? = some (.cells #[.slice A l.length c, .int .i64 last] 59 (0, 0)) := by
    refine (hgr.block S (by have := heap_lt h.head; simp; omega) ?_).trans ((hb0.block S (heap_lt h.head)).trans h.head)
    intro e'
    rcases h.row.2 with ⟨h', _⟩ | ⟨g', cap', cur, h', _, hg', _⟩
    · rw [h'] at e'
      cases e'
    · rw [h'] at e'
      cases e'
      rw [h.head] at hg'
      cases hg'
  obtain ⟨g1, c1, rfl, _⟩ := World.ownsRow.form hown (by omega)
  exact hk g1 c1 w1 hown hgr (cell_of_row _ _ 0 _ _ _ hS) (fz hS 0)

theorem addArg {w : World} {base S : Nat} {v : Value} {l : List Ent} {last : Int} (jb : Nat) (n : Int) (hn : n < 1 ∨ 16 < n) (h : Sch w base S v l last) :
    Calls Try.prog 18 #[.pointer (some ⟨S, 0, none⟩), .iface 44 (.pointer (some ⟨jb, 0, none⟩)), .int .i64 n] w fun e w' => e = .returned (.tuple #[.int .i64 0, .int .i64 1]) ∧ w' = w := by
  rcases hn with hn | hn
  · go_enter Try.func18, Try.ntmps18
    go_wp2
    go_ret2
    exact ⟨rfl, rfl⟩
  · have h1 : decide (n < 1) = false := decide_eq_false (by omega)
    have h2 : decide (n > 16) = true := decide_eq_true (by omega)
    go_enter Try.func18, Try.ntmps18
    go_wp2
    go_ret2
    exact ⟨rfl, rfl⟩
theorem addNone {w : World} {base S : Nat} {v : Value} {l : List Ent} {last : Int} (n : Int) (h : Sch w base S v l last) :
    Calls Try.prog 18 #[.pointer (some ⟨S, 0, none⟩), .nilIface, .int .i64 n] w fun e w' => e = .returned (.tuple #[.int .i64 0, .int .i64 1]) ∧ w' = w := by
  go_enter Try.func18, Try.ntmps18
  go_wp2
  go_ret2
  exact ⟨rfl, rfl⟩
theorem addFull {w : World} {base S : Nat} {v : Value} {l : List Ent} {last : Int} (jb : Nat) (n : Int) (hn1 : 1 ≤ n) (hn2 : n ≤ 16) (hl : 64 ≤ l.length) (hl2 : l.length ≤ 1000) (h : Sch w base S v l last) :
    Calls Try.prog 18 #[.pointer (some ⟨S, 0, none⟩), .iface 44 (.pointer (some ⟨jb, 0, none⟩)), .int .i64 n] w fun e w' => e = .returned (.tuple #[.int .i64 0, .int .i64 7]) ∧ w' = w := by
  obtain ⟨A, c, rfl⟩ := h.form
  have ch := h.head0
  have h1 : decide (n < 1) = false := decide_eq_false (by omega)
  have h2 : decide (n > 16) = false := decide_eq_false (by omega)
  have h3 : decide ((l.length : Int) ≥ 64) = true := decide_eq_true (by omega)
  go_enter Try.func18, Try.ntmps18
  go_wp2
  go_ret2
  exact ⟨rfl, rfl⟩

set_option maxHeartbeats 4000000 in
theorem add {w : World} {base S : Nat} {v : Value} {l : List Ent} {last : Int} (jb : Nat) (left done n : Int) (hn1 : 1 ≤ n) (hn2 : n ≤ 16) (hl : l.length < 64) (h : Sch w base S v l last) (hb : base ≤ w.heap.size)
    (hj : base ≤ jb ∧ w.heap[jb]? = some (.cells #[.int .i64 left, .int .i64 done] 46 (0, 0))) (hf : ∀ x ∈ l, x.jb ≠ jb) :
    Calls Try.prog 18 #[.pointer (some ⟨S, 0, none⟩), .iface 44 (.pointer (some ⟨jb, 0, none⟩)), .int .i64 n] w fun e w' => e = .returned (.tuple #[.int .i64 (wrap64 (last + 1)), .int .i64 0]) ∧
      ∃ v', Sch w' base S v' (l ++ [⟨wrap64 (last + 1), n, 0, w.heap.size, jb, left, done⟩]) (wrap64 (last + 1)) ∧ Keep base (fun _ => False) w w' := by
  obtain ⟨i0, hi0, hz0, hz1, hz2⟩ := info_parts info65
  obtain ⟨A, c, hv⟩ := h.form
  have ch := h.head0
  have ch1 := h.head1
  have f1 := fz h.head 1
  have h1 : decide (n < 1) = false := decide_eq_false (by omega)
  have h2 : decide (n > 16) = false := decide_eq_false (by omega)
  have h3 : decide ((l.length : Int) ≥ 64) = false := decide_eq_false (by omega)
  have hs1 := h.setLast (wrap64 (last + 1))
  have k1 := (Keep.refl base (fun _ => False) w).setCell (p := ⟨S, 1, none⟩) (.inr (.inr (mine_head h))) (.int .i64 (wrap64 (last + 1)))
  have hj1 : (w.setCell ⟨S, 1, none⟩ (.int .i64 (wrap64 (last + 1)))).heap[jb]? = _ := (setCell_same _ _ _ _ (tag_ne hj.2 h.head (by decide))).trans hj.2
  have hz : (w.setCell ⟨S, 1, none⟩ (.int .i64 (wrap64 (last + 1)))).heap.size = w.heap.size := by simp
  subst hv
  go_enter Try.func18, Try.ntmps18
  go_upto_region 8 with fail
  go_cut [] (fun wx => ∃ v', Sch wx base S v' (l ++ [⟨wrap64 (last + 1), n, 0, w.heap.size, jb, left, done⟩]) (wrap64 (last + 1)) ∧ Keep base (fun _ => False) w wx)
  case first =>
    have d0 := hs1.head0
    have d1 := hs1.head1
    have dA : ∀ o, ((w.setCell ⟨S, 1, none⟩ (.int .i64 (wrap64 (last + 1)))).alloc o).cell? ⟨S, 0, none⟩ = some (.slice A l.length c) := fun o => (World.cell?_alloc_lt _ o _ (World.block_lt_of_cell? _ _ d0)).trans d0
    have dAA : ∀ o o', (((w.setCell ⟨S, 1, none⟩ (.int .i64 (wrap64 (last + 1)))).alloc o).alloc o').cell? ⟨S, 0, none⟩ = some (.slice A l.length c) := fun o o' => (World.cell?_alloc_lt _ o' _ (World.block_lt_of_cell? _ _ (dA o))).trans (dA o)
    have g0 := fz hs1.head 0
    replace hs1 := Lib.hid hs1
    replace k1 := Lib.hid k1
    replace hj1 := Lib.hid hj1
    have hjb := hj.1
    clear hj ch ch1 f1 h
    generalize w.setCell ⟨S, 1, none⟩ (.int .i64 (wrap64 (last + 1))) = W1 at *
    have hb1 : base ≤ W1.heap.size := by rw [hz]; exact hb
    have hg1 : w.heap.size + 1 = W1.heap.size + 1 := by rw [hz]
    go_region_law (refine step_push rfl (.tmp 40) (.tmp 49) rfl hs1.out hb1 hl ⟨wrap64 (last + 1), n, 0, w.heap.size, jb, left, done⟩ (by simp [Act.eval]) (w.heap.size + 1) (by simp [Act.eval]) hg1 _ rfl _ rfl ?_; intro g1 c1 w1 hown hgr q1 q2)
    all_goals (go_wp2_with fail; go_meet; obtain ⟨r1, r2⟩ := hs1.out.push ⟨wrap64 (last + 1), n, 0, w.heap.size, jb, left, done⟩ hb1 hz.symm ⟨hjb, hj1.out⟩ hf hown hgr; exact ⟨_, r1, k1.out.trans r2⟩)
  case rest =>
    obtain ⟨v1, hs2, k2⟩ := hcut
    have e1 := hs2.head1
    clear hs1 k1 hj1 hz f1 ch1 ch
    go_wp2
    go_ret2
    exact ⟨rfl, v1, hs2, k2⟩
end Go.Proofs.Ytkokijmgikdnfaa
