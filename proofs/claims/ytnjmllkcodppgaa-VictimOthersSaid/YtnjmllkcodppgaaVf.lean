/- The walk of the law VictimOthers. -/
import Derived.Test.YtnjmllkcodppgaaM
import Derived.Test.YtnjmllkcodppgaaW
import Derived.Test.YtnjmllkcodppgaaX
namespace Go.Proofs.Ytnjmllkcodppgaa
open Go.RowKit
set_option linter.unusedVariables false

set_option maxRecDepth 100000 in
set_option maxHeartbeats 8000000 in
theorem lawOthers (A : Option Addr) (c : Nat) (l : List BI) (size opn now at_ wr : Int) (w : World) (hl : l.length ≤ 9223372036854775807) (h : Bs w A l) (hok : ∀ b ∈ l, okB b) (hn : (Lit.int .u64 now).wf = true) :
    Calls Try.prog 8 #[.agg #[.slice A l.length c, .int .i64 size, .int .i64 opn, .int .u64 now], .int .i64 at_, .int .u64 wr] w fun e w' => e = .returned (.bool true) ∧ Below w.heap.size w w' := by
  have hb0 : Below w.heap.size w (w.alloc (.cells #[.slice A l.length c, .int .i64 size, .int .i64 opn, .int .u64 now] 31)) := (Below.refl _ _).alloc (Nat.le_refl _) _
  have hc := Cnt.new w A l.length c size opn now
  replace h := h.below hb0
  by_cases hlt : l.length ≤ 100
  case neg =>
    have hgt : 100 < l.length := by omega
    clear hlt h
    obtain ⟨hc0, hc1, hc2, hc3⟩ := id hc
    go_enter Try.func8, Try.ntmps8
    go_wp2_with fail
    generalize w.alloc _ = W at *
    refine (awake _).mono ?_
    rintro e w1 ⟨rfl, hb1⟩
    replace hc0 := cell_below hb1 hc0
    go_wp2_with fail
    refine (awake _).mono ?_
    rintro e w2 ⟨rfl, hb2⟩
    go_wp2
    go_ret
    exact ⟨rfl, below_then (below_then hb0 hb0.size hb1) (below_then hb0 hb0.size hb1).size hb2⟩
  have hl1 : l.length ≤ 1000 := by omega
  go_enter Try.func8, Try.ntmps8
  go_wp2_with fail
  generalize w.alloc _ = W at *
  refine (awake _).mono ?_
  rintro e w1 ⟨rfl, hb1⟩
  replace h := h.below hb1
  replace hc := hc.below hb1
  replace hb0 := below_then hb0 hb0.size hb1
  clear hb1
  obtain ⟨hc0, hc1, hc2, hc3⟩ := id hc
  go_wp2_with fail
  refine (refValid A c l size _ hl h).mono ?_
  rintro e w2 ⟨rfl, hq⟩
  have hb1 := hq.below
  clear hq hc0 hc1 hc2 hc3
  replace h := h.below hb1
  replace hc := hc.below hb1
  replace hb0 := below_then hb0 hb0.size hb1
  clear hb1
  obtain ⟨hc0, hc1, hc2, hc3⟩ := id hc
  cases hv : vld l size with
  | false =>
    clear hv
    go_wp2_with fail
    refine (awake _).mono ?_
    rintro e wz ⟨rfl, hb1⟩
    go_wp2
    go_ret
    exact ⟨rfl, below_then hb0 hb0.size hb1⟩
  | true =>
  have hvh := Lib.hid hv
  clear hv
  by_cases hbig : 1048576 < size
  · go_wp2_with fail
    refine (awake _).mono ?_
    rintro e wz ⟨rfl, hb1⟩
    go_wp2
    go_ret
    exact ⟨rfl, below_then hb0 hb0.size hb1⟩
  have hsz : size ≤ 1048576 := by omega
  by_cases ha0 : at_ < 0
  · go_wp2_with fail
    refine (awake _).mono ?_
    rintro e wz ⟨rfl, hb1⟩
    go_wp2
    go_ret
    exact ⟨rfl, below_then hb0 hb0.size hb1⟩
  obtain ⟨i, rfl⟩ : ∃ i : Nat, at_ = i := ⟨at_.toNat, by omega⟩
  clear ha0
  by_cases hi : i < l.length
  case neg =>
    go_wp2_with fail
    refine (awake _).mono ?_
    rintro e wz ⟨rfl, hb1⟩
    go_wp2
    go_ret
    exact ⟨rfl, below_then hb0 hb0.size hb1⟩
  have hr := Lib.hid (rCand A c l size opn i _ hl1 h hi)
  cases hci : cand l[i] size opn i with
  | true =>
    rw [hci] at hr
    clear hci
    go_wp2_with fail
    refine hr.out.mono ?_
    rintro e wx ⟨rfl, rfl⟩
    go_wp2_with fail
    refine (awake _).mono ?_
    rintro e wz ⟨rfl, hb1⟩
    go_wp2
    go_ret
    exact ⟨rfl, below_then hb0 hb0.size hb1⟩
  | false =>
  rw [hci] at hr
  have hset := Lib.hid (choose_set (now := now) hvh.out hsz i hi hci wr)
  clear hci
  go_wp2_with fail
  refine hr.out.mono ?_
  rintro e wx ⟨rfl, rfl⟩
  clear hr
  go_wp2_with fail
  refine (vChoose A c l size now opn _ hl1 h (ages hok) (wfu64 hn)).mono ?_
  rintro e w3 ⟨rfl, hb1⟩
  clear hc0 hc1 hc2 hc3
  replace h := h.below hb1
  replace hc := hc.below hb1
  replace hb0 := below_then hb0 hb0.size hb1
  clear hb1
  obtain ⟨hc0, hc1, hc2, hc3⟩ := id hc
  have hc30 := World.block_lt_of_cell? _ _ hc0
  have hq0 := cell_alloc hc0 (.cells #[] 24)
  go_wp2_with (at_builtin
               refine wpList_copied _ rfl (.tmp 67) (.tmp 69) rfl _ rfl (by simp) A l c rfl h hl1 ?_
               intro v1 w1 ho hb1
               replace hc := hc.below hb1
               replace hb0 := below_then hb0 hb0.size hb1
               clear hb1 hq0 hc0 hc1 hc2 hc3
               obtain ⟨hc0, hc1, hc2, hc3⟩ := id hc
               obtain ⟨g, c', rfl, hgb⟩ := ho.to_ptr (by rintro rfl; simp at hi)
               obtain ⟨y0, y1, y2, y3⟩ := ho.cellAt hi
               have hfr := fun j => ho.frozenAt j)
  have ho2 := ho.store4 hi ⟨0, 0, 0, wr⟩
  have hgw : w.heap.size ≤ g := by omega
  have hB2 : Below w.heap.size w ((((w1.setCell ⟨g, i * 4, none⟩ (.int .i64 0)).setCell ⟨g, i * 4 + 1, none⟩ (.int .i64 0)).setCell ⟨g, i * 4 + 2, none⟩ (.int .u64 0)).setCell ⟨g, i * 4 + 3, none⟩ (.int .u64 wr)) := (((hb0.setCell hgw _).setCell hgw _).setCell hgw _).setCell hgw _
  have hBs : Bs ((((w1.setCell ⟨g, i * 4, none⟩ (.int .i64 0)).setCell ⟨g, i * 4 + 1, none⟩ (.int .i64 0)).setCell ⟨g, i * 4 + 2, none⟩ (.int .u64 0)).setCell ⟨g, i * 4 + 3, none⟩ (.int .u64 wr)) (some ⟨g, 0, none⟩) (l.set i ⟨0, 0, 0, wr⟩) := by
    obtain ⟨A', c2, e, hb, _⟩ := ho2.slice
    injection e with e1 e2 e3
    subst e1
    exact hb
  have hok2 : ∀ b ∈ l.set i ⟨0, 0, 0, wr⟩, u64 b.age := fun b hb => by
    rcases List.mem_or_eq_of_mem_set hb with hb | rfl
    · exact ages hok b hb
    · unfold u64; simp
  clear ho2 ho y0 y1 y2 y3 hfr hc0 hc1 hc2 hc3 hc hb0
  generalize (((w1.setCell ⟨g, i * 4, none⟩ (.int .i64 0)).setCell ⟨g, i * 4 + 1, none⟩ (.int .i64 0)).setCell ⟨g, i * 4 + 2, none⟩ (.int .u64 0)).setCell ⟨g, i * 4 + 3, none⟩ (.int .u64 wr) = W5 at *
  have k := vChoose (some ⟨g, 0, none⟩) c' (l.set i ⟨0, 0, 0, wr⟩) size now opn W5 (by rw [List.length_set]; exact hl1) hBs hok2 (wfu64 hn)
  rw [hset.out, List.length_set] at k
  refine k.mono ?_
  rintro e w6 ⟨rfl, hb1⟩
  clear k hBs hok2 hset
  generalize chooseR l size now opn = r at *
  obtain ⟨r1, r2⟩ := r
  have er : (r1 == r1) = true := by simp
  have eq_ : (r2 == r2) = true := by simp
  go_wp2
  go_ret
  exact ⟨rfl, below_then hB2 hB2.size hb1⟩
end Go.Proofs.Ytnjmllkcodppgaa
