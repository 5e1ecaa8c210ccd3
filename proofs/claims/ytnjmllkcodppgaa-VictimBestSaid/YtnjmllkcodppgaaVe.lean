/- The walk of the law VictimBest. -/
import Derived.Test.YtnjmllkcodppgaaM
import Derived.Test.YtnjmllkcodppgaaW
namespace Go.Proofs.Ytnjmllkcodppgaa
open Go.RowKit
set_option linter.unusedVariables false

set_option maxRecDepth 100000 in
set_option maxHeartbeats 8000000 in
theorem lawBest (A : Option Addr) (c : Nat) (l : List BI) (size opn now : Int) (w : World) (hl : l.length ≤ 9223372036854775807) (h : Bs w A l) (hok : ∀ b ∈ l, okB b) (hn : (Lit.int .u64 now).wf = true) :
    Calls Try.prog 7 #[.agg #[.slice A l.length c, .int .i64 size, .int .i64 opn, .int .u64 now]] w fun e w' => e = .returned (.bool true) ∧ Below w.heap.size w w' := by
  have hb0 : Below w.heap.size w (w.alloc (.cells #[.slice A l.length c, .int .i64 size, .int .i64 opn, .int .u64 now] 31)) := (Below.refl _ _).alloc (Nat.le_refl _) _
  have hc := Cnt.new w A l.length c size opn now
  replace h := h.below hb0
  by_cases hlt : l.length ≤ 100
  case neg =>
    have hgt : 100 < l.length := by omega
    clear hlt h
    obtain ⟨hc0, hc1, hc2, hc3⟩ := id hc
    go_enter Try.func7, Try.ntmps7
    go_wp2_with fail
    generalize w.alloc _ = W at *
    refine (awake _).mono ?_
    rintro e w1 ⟨rfl, hb1⟩
    replace hc0 := cell_below hb1 hc0
    go_wp2_with fail
    refine (awake _).mono ?_
    rintro e w2 ⟨rfl, hb2⟩
    go_wp2
    go_ret
    exact ⟨rfl, below_then (below_then hb0 hb0.size hb1) (below_then hb0 hb0.size hb1).size hb2⟩
  have hl1 : l.length ≤ 1000 := by omega
  have d2 : decide (100 < (l.length : Int)) = false := decide_eq_false (by omega)
  go_enter Try.func7, Try.ntmps7
  go_wp2_with fail
  generalize w.alloc _ = W at *
  refine (awake _).mono ?_
  rintro e w1 ⟨rfl, hb1⟩
  replace h := h.below hb1
  replace hc := hc.below hb1
  replace hb0 := below_then hb0 hb0.size hb1
  clear hb1
  obtain ⟨hc0, hc1, hc2, hc3⟩ := id hc
  go_wp2_with fail
  refine (refValid A c l size _ hl h).mono ?_
  rintro e w2 ⟨rfl, hq⟩
  have hb1 := hq.below
  clear hq hc0 hc1 hc2 hc3
  replace h := h.below hb1
  replace hc := hc.below hb1
  replace hb0 := below_then hb0 hb0.size hb1
  clear hb1
  obtain ⟨hc0, hc1, hc2, hc3⟩ := id hc
  cases hv : vld l size with
  | false =>
    clear hv
    go_wp2_with fail
    refine (awake _).mono ?_
    rintro e wz ⟨rfl, hb1⟩
    go_wp2
    go_ret
    exact ⟨rfl, below_then hb0 hb0.size hb1⟩
  | true =>
  have hvh := Lib.hid hv
  clear hv
  by_cases hbig : 1048576 < size
  · go_wp2_with fail
    refine (awake _).mono ?_
    rintro e wz ⟨rfl, hb1⟩
    go_wp2
    go_ret
    exact ⟨rfl, below_then hb0 hb0.size hb1⟩
  have hsz : size ≤ 1048576 := by omega
  have d3 : decide (1048576 < size) = false := decide_eq_false (by omega)
  go_wp2_with fail
  refine (vChoose A c l size now opn _ hl1 h (ages hok) (wfu64 hn)).mono ?_
  rintro e w3 ⟨rfl, hb1⟩
  clear hc0 hc1 hc2 hc3
  replace h := h.below hb1
  replace hc := hc.below hb1
  replace hb0 := below_then hb0 hb0.size hb1
  clear hb1
  obtain ⟨hc0, hc1, hc2, hc3⟩ := id hc
  have hcc := choose_cases now opn hvh.out hsz
  generalize chooseR l size now opn = r at *
  clear hbig
  rcases hcc with ⟨rfl, hno⟩ | ⟨j, hj, rfl, hcj, hbest⟩
  · replace hno := Lib.hid hno
    go_wp2_with fail
    go_loopw [5, 6] (fun s v wr => ∃ k : Nat, k ≤ l.length ∧ v = .int .i64 k ∧ s = .bool false ∧ Cnt wr w.heap.size A l.length c size opn now ∧ Bs wr A l ∧ Below w.heap.size w wr) (fun _ v _ => l.length - (intOf v).toNat)
    case atStart => exact ⟨0, Nat.zero_le _, rfl, rfl, hc, h, hb0⟩
    case round =>
      clear hc0 hc1 hc2 hc3 hc h hb0
      obtain ⟨k, hk, rfl, rfl, hc, h, hb0⟩ := hrel
      obtain ⟨hc0, hc1, hc2, hc3⟩ := id hc
      by_cases hlt : k < l.length
      · have hr := Lib.hid (rCand A c l size opn k _ hl1 h hlt)
        go_wp2_with fail
        refine hr.out.mono ?_
        rintro e wx ⟨rfl, rfl⟩
        rw [hno.out k hlt]
        go_wp2
        go_roundw
        case rel => exact ⟨k + 1, by omega, by go_num, rfl, hc, h, hb0⟩
        case measure => simp [intOf]; omega
      · obtain rfl : k = l.length := by omega
        go_wp2
        go_ret
        exact ⟨rfl, hb0⟩
  · have hcjh := Lib.hid hcj
    have hbh := Lib.hid hbest
    clear hcj hbest
    obtain ⟨ad, rfl, -⟩ := h.at_ hj
    have d0 : decide ((j : Int) < 0) = false := by simp
    have d1 : decide ((l.length : Int) ≤ j) = false := decide_eq_false (by omega)
    have d4 : decide (l.length ≤ j) = false := decide_eq_false (by omega)
    go_wp2_with fail
    go_loopw [5, 6] (fun s v wr => ∃ (k : Nat) (sb : Bool), k ≤ l.length ∧ v = .int .i64 k ∧ s = .bool sb ∧ Hid (j < k → sb = true) ∧ Cnt wr w.heap.size (some ad) l.length c size opn now ∧ Bs wr (some ad) l ∧ Below w.heap.size w wr) (fun _ v _ => l.length - (intOf v).toNat)
    case atStart => exact ⟨0, false, Nat.zero_le _, rfl, rfl, fun hh => absurd hh (Nat.not_lt_zero _), hc, h, hb0⟩
    case round =>
      clear hc0 hc1 hc2 hc3 hc h hb0
      obtain ⟨k, sb, hk, rfl, rfl, hsb, hc, h, hb0⟩ := hrel
      obtain ⟨hc0, hc1, hc2, hc3⟩ := id hc
      by_cases hlt : k < l.length
      · have hr := Lib.hid (rCand (some ad) c l size opn k _ hl1 h hlt)
        cases hck : cand l[k] size opn k with
        | false =>
          have hsb2 : Hid (j < k + 1 → sb = true) := fun hh => by
            by_cases e : j = k
            · subst e; have := hcjh.out; rw [hck] at this; cases this
            · exact hsb.out (by omega)
          rw [hck] at hr
          clear hck
          go_wp2_with fail
          refine hr.out.mono ?_
          rintro e wx ⟨rfl, rfl⟩
          go_wp2
          go_roundw
          case rel => exact ⟨k + 1, sb, by omega, by go_num, rfl, hsb2, hc, h, hb0⟩
          case measure => simp [intOf]; omega
        | true =>
          have hw := wins_false (hbh.out k hlt hck)
          rw [hck] at hr
          clear hck
          go_wp2_with fail
          refine hr.out.mono ?_
          rintro e wx ⟨rfl, rfl⟩
          go_upto_region 12 with fail
          obtain ⟨had, he, c0, c1, c2, c3⟩ := h.at_ hlt
          cases he
          obtain ⟨had, he, f0, f1, f2, f3⟩ := h.at_ hj
          cases he
          have hkj := Lib.hid (fun W => vBetter l[k] l[j] size now W (ages hok _ (List.getElem_mem hlt)) (ages hok _ (List.getElem_mem hj)) (wfu64 hn))
          have hjk := Lib.hid (fun W => vBetter l[j] l[k] size now W (ages hok _ (List.getElem_mem hj)) (ages hok _ (List.getElem_mem hlt)) (wfu64 hn))
          rw [hw.1] at hkj
          have hS : ∀ W W' : World, (fun w' : World => w'.cell? ⟨w.heap.size, 0, none⟩ = some (.slice (some ad) l.length c) ∧ w'.cell? ⟨w.heap.size, 1, none⟩ = some (.int .i64 size) ∧ w'.cell? ⟨w.heap.size, 2, none⟩ = some (.int .i64 opn) ∧ w'.cell? ⟨w.heap.size, 3, none⟩ = some (.int .u64 now) ∧ w'.cell? (ad.add (k * 4)) = some (.int .i64 l[k].used) ∧ w'.cell? ⟨(ad.add (k * 4)).block, (ad.add (k * 4)).off + 1, none⟩ = some (.int .i64 l[k].live) ∧ w'.cell? ⟨(ad.add (k * 4)).block, (ad.add (k * 4)).off + 2, none⟩ = some (.int .u64 l[k].age) ∧ w'.cell? ⟨(ad.add (k * 4)).block, (ad.add (k * 4)).off + 3, none⟩ = some (.int .u64 l[k].wear) ∧ w'.cell? (ad.add (j * 4)) = some (.int .i64 l[j].used) ∧ w'.cell? ⟨(ad.add (j * 4)).block, (ad.add (j * 4)).off + 1, none⟩ = some (.int .i64 l[j].live) ∧ w'.cell? ⟨(ad.add (j * 4)).block, (ad.add (j * 4)).off + 2, none⟩ = some (.int .u64 l[j].age) ∧ w'.cell? ⟨(ad.add (j * 4)).block, (ad.add (j * 4)).off + 3, none⟩ = some (.int .u64 l[j].wear) ∧ Hid (Below wx.heap.size wx w')) W → Below W.heap.size W W' → (fun w' : World => w'.cell? ⟨w.heap.size, 0, none⟩ = some (.slice (some ad) l.length c) ∧ w'.cell? ⟨w.heap.size, 1, none⟩ = some (.int .i64 size) ∧ w'.cell? ⟨w.heap.size, 2, none⟩ = some (.int .i64 opn) ∧ w'.cell? ⟨w.heap.size, 3, none⟩ = some (.int .u64 now) ∧ w'.cell? (ad.add (k * 4)) = some (.int .i64 l[k].used) ∧ w'.cell? ⟨(ad.add (k * 4)).block, (ad.add (k * 4)).off + 1, none⟩ = some (.int .i64 l[k].live) ∧ w'.cell? ⟨(ad.add (k * 4)).block, (ad.add (k * 4)).off + 2, none⟩ = some (.int .u64 l[k].age) ∧ w'.cell? ⟨(ad.add (k * 4)).block, (ad.add (k * 4)).off + 3, none⟩ = some (.int .u64 l[k].wear) ∧ w'.cell? (ad.add (j * 4)) = some (.int .i64 l[j].used) ∧ w'.cell? ⟨(ad.add (j * 4)).block, (ad.add (j * 4)).off + 1, none⟩ = some (.int .i64 l[j].live) ∧ w'.cell? ⟨(ad.add (j * 4)).block, (ad.add (j * 4)).off + 2, none⟩ = some (.int .u64 l[j].age) ∧ w'.cell? ⟨(ad.add (j * 4)).block, (ad.add (j * 4)).off + 3, none⟩ = some (.int .u64 l[j].wear) ∧ Hid (Below wx.heap.size wx w')) W' := by
            rintro W W' ⟨k0, k1, k2, k3, k4, k5, k6, k7, k8, k9, k10, k11, k12⟩ hb
            exact ⟨cell_below hb k0, cell_below hb k1, cell_below hb k2, cell_below hb k3, cell_below hb k4, cell_below hb k5, cell_below hb k6, cell_below hb k7, cell_below hb k8, cell_below hb k9, cell_below hb k10, cell_below hb k11, below_then k12.out k12.out.size hb⟩
          replace hS := Lib.hid hS
          have hBh := Lib.hid (Below.refl wx.heap.size wx)
          have hwh := Lib.hid hw.2
          replace h := Lib.hid h
          replace hc := Lib.hid hc
          replace hb0 := Lib.hid hb0
          clear hw hr hvh
          rcases hwh.out with hq | ⟨hq, d5⟩
          · rw [hq] at hjk
            clear hwh hq
            refine wp_region_noPanic ?_
            refine wp_region_held_drew (S := (fun w' : World => w'.cell? ⟨w.heap.size, 0, none⟩ = some (.slice (some ad) l.length c) ∧ w'.cell? ⟨w.heap.size, 1, none⟩ = some (.int .i64 size) ∧ w'.cell? ⟨w.heap.size, 2, none⟩ = some (.int .i64 opn) ∧ w'.cell? ⟨w.heap.size, 3, none⟩ = some (.int .u64 now) ∧ w'.cell? (ad.add (k * 4)) = some (.int .i64 l[k].used) ∧ w'.cell? ⟨(ad.add (k * 4)).block, (ad.add (k * 4)).off + 1, none⟩ = some (.int .i64 l[k].live) ∧ w'.cell? ⟨(ad.add (k * 4)).block, (ad.add (k * 4)).off + 2, none⟩ = some (.int .u64 l[k].age) ∧ w'.cell? ⟨(ad.add (k * 4)).block, (ad.add (k * 4)).off + 3, none⟩ = some (.int .u64 l[k].wear) ∧ w'.cell? (ad.add (j * 4)) = some (.int .i64 l[j].used) ∧ w'.cell? ⟨(ad.add (j * 4)).block, (ad.add (j * 4)).off + 1, none⟩ = some (.int .i64 l[j].live) ∧ w'.cell? ⟨(ad.add (j * 4)).block, (ad.add (j * 4)).off + 2, none⟩ = some (.int .u64 l[j].age) ∧ w'.cell? ⟨(ad.add (j * 4)).block, (ad.add (j * 4)).off + 3, none⟩ = some (.int .u64 l[j].wear) ∧ Hid (Below wx.heap.size wx w'))) (by kernel_rfl) ⟨hc0, hc1, hc2, hc3, c0, c1, c2, c3, f0, f1, f2, f3, below_drewN hBh.out 1⟩ (fun hHeld => ?_)
            refine' wpAnyH_take (i := 0) (oi := { dst := some 70, op := Go.Op.move (Go.Operand.tmp 4), type := 32, pos := "law.go:98", after := #[], guard := none }) (v := _) rfl (by kernel_rfl) (by kernel_rfl) (by kernel_rfl) (fun _ _ _ h => h) (Or.inl ⟨by rfl, ?hy1⟩) (by assumption) ?rest1
            case hy1 => (intro w hSw; (try dsimp only at hSw); go_simp; try (with_reducible rfl))
            (try simp only [Act.put, List.setIfInBounds_toArray, List.set_cons_zero, List.set_cons_succ])
            refine' wpAnyH_take (i := 1) (oi := { dst := some 71, op := Go.Op.binOp Go.BinOp.neq 32 (Go.Operand.tmp 70) (Go.Operand.const (Go.Value.int Go.IntKind.i64 0)) 32, type := 4, pos := "law.go:98", after := #[{ on := 0, ground := Go.Ground.data }], guard := none }) (v := _) rfl (by kernel_rfl) (by kernel_rfl) (by kernel_rfl) (fun _ _ _ h => h) (Or.inl ⟨by rfl, ?hy2⟩) (by assumption) ?rest2
            case hy2 => (intro w hSw; (try dsimp only at hSw); go_simp; try (with_reducible rfl))
            (try simp only [Act.put, List.setIfInBounds_toArray, List.set_cons_zero, List.set_cons_succ])
            refine' wpAnyH_take (i := 2) (oi := { dst := some 72, op := Go.Op.move (Go.Operand.tmp 71), type := 4, pos := "law.go:98", after := #[{ on := 1, ground := Go.Ground.data }], guard := none }) (v := _) rfl (by kernel_rfl) (by kernel_rfl) (by kernel_rfl) (fun _ _ _ h => h) (Or.inl ⟨by rfl, ?hy3⟩) (by assumption) ?rest3
            case hy3 => (intro w hSw; (try dsimp only at hSw); go_simp; try (with_reducible rfl))
            (try simp only [Act.put, List.setIfInBounds_toArray, List.set_cons_zero, List.set_cons_succ])
            refine' wpAnyH_take (i := 3) (oi := { dst := some 73, op := Go.Op.fieldAddr 31 (Go.Operand.tmp 1) 0, type := 0, pos := "law.go:98", after := #[{ on := 2, ground := Go.Ground.guard }], guard := some (2, false) }) (v := _) rfl (by kernel_rfl) (by kernel_rfl) (by kernel_rfl) (fun _ _ _ h => h) (Or.inl ⟨by rfl, ?hy4⟩) (by assumption) ?rest4
            case hy4 => (intro w hSw; (try dsimp only at hSw); go_simp; try (with_reducible rfl))
            (try simp only [Act.put, List.setIfInBounds_toArray, List.set_cons_zero, List.set_cons_succ])
            refine' wpAnyH_take (i := 4) (oi := { dst := some 74, op := Go.Op.load 29 (Go.Operand.tmp 73), type := 29, pos := "law.go:98", after := #[{ on := 3, ground := Go.Ground.data }, { on := 2, ground := Go.Ground.guard }], guard := some (2, false) }) (v := _) rfl (by kernel_rfl) (by kernel_rfl) (by kernel_rfl) (fun _ _ _ h => h) (Or.inl ⟨by rfl, ?hy5⟩) (by assumption) ?rest5
            case hy5 => (intro w hSw; (try dsimp only at hSw); go_simp; try (with_reducible rfl))
            (try simp only [Act.put, List.setIfInBounds_toArray, List.set_cons_zero, List.set_cons_succ])
            refine' wpAnyH_take (i := 5) (oi := { dst := some 75, op := Go.Op.move (Go.Operand.tmp 6), type := 3, pos := "law.go:98", after := #[{ on := 2, ground := Go.Ground.guard }], guard := some (2, false) }) (v := _) rfl (by kernel_rfl) (by kernel_rfl) (by kernel_rfl) (fun _ _ _ h => h) (Or.inl ⟨by rfl, ?hy6⟩) (by assumption) ?rest6
            case hy6 => (intro w hSw; (try dsimp only at hSw); go_simp; try (with_reducible rfl))
            (try simp only [Act.put, List.setIfInBounds_toArray, List.set_cons_zero, List.set_cons_succ])
            refine' wpAnyH_take (i := 6) (oi := { dst := some 76, op := Go.Op.indexAddr 29 (Go.Operand.tmp 74) (Go.Operand.tmp 75), type := 0, pos := "law.go:98", after := #[{ on := 4, ground := Go.Ground.data }, { on := 5, ground := Go.Ground.data }, { on := 2, ground := Go.Ground.guard }], guard := some (2, false) }) (v := _) rfl (by kernel_rfl) (by kernel_rfl) (by kernel_rfl) (fun _ _ _ h => h) (Or.inl ⟨by rfl, ?hy7⟩) (by assumption) ?rest7
            case hy7 => (intro w hSw; (try dsimp only at hSw); go_simp; try (with_reducible rfl))
            (try simp only [Act.put, List.setIfInBounds_toArray, List.set_cons_zero, List.set_cons_succ])
            refine' wpAnyH_take (i := 7) (oi := { dst := some 77, op := Go.Op.load 24 (Go.Operand.tmp 76), type := 24, pos := "law.go:98", after := #[{ on := 6, ground := Go.Ground.data }, { on := 2, ground := Go.Ground.guard }], guard := some (2, false) }) (v := _) rfl (by kernel_rfl) (by kernel_rfl) (by kernel_rfl) (fun _ _ _ h => h) (Or.inl ⟨by rfl, ?hy8⟩) (by assumption) ?rest8
            case hy8 => (intro w hSw; (try dsimp only at hSw); go_simp; try (with_reducible rfl))
            (try simp only [Act.put, List.setIfInBounds_toArray, List.set_cons_zero, List.set_cons_succ])
            refine' wpAnyH_take (i := 8) (oi := { dst := some 78, op := Go.Op.fieldAddr 31 (Go.Operand.tmp 1) 0, type := 0, pos := "law.go:98", after := #[{ on := 2, ground := Go.Ground.guard }], guard := some (2, false) }) (v := _) rfl (by kernel_rfl) (by kernel_rfl) (by kernel_rfl) (fun _ _ _ h => h) (Or.inl ⟨by rfl, ?hy9⟩) (by assumption) ?rest9
            case hy9 => (intro w hSw; (try dsimp only at hSw); go_simp; try (with_reducible rfl))
            (try simp only [Act.put, List.setIfInBounds_toArray, List.set_cons_zero, List.set_cons_succ])
            refine' wpAnyH_take (i := 9) (oi := { dst := some 79, op := Go.Op.load 29 (Go.Operand.tmp 78), type := 29, pos := "law.go:98", after := #[{ on := 8, ground := Go.Ground.data }, { on := 2, ground := Go.Ground.guard }], guard := some (2, false) }) (v := _) rfl (by kernel_rfl) (by kernel_rfl) (by kernel_rfl) (fun _ _ _ h => h) (Or.inl ⟨by rfl, ?hy10⟩) (by assumption) ?rest10
            case hy10 => (intro w hSw; (try dsimp only at hSw); go_simp; try (with_reducible rfl))
            (try simp only [Act.put, List.setIfInBounds_toArray, List.set_cons_zero, List.set_cons_succ])
            refine' wpAnyH_take (i := 10) (oi := { dst := some 80, op := Go.Op.move (Go.Operand.tmp 3), type := 3, pos := "law.go:98", after := #[{ on := 2, ground := Go.Ground.guard }], guard := some (2, false) }) (v := _) rfl (by kernel_rfl) (by kernel_rfl) (by kernel_rfl) (fun _ _ _ h => h) (Or.inl ⟨by rfl, ?hy11⟩) (by assumption) ?rest11
            case hy11 => (intro w hSw; (try dsimp only at hSw); go_simp; try (with_reducible rfl))
            (try simp only [Act.put, List.setIfInBounds_toArray, List.set_cons_zero, List.set_cons_succ])
            refine' wpAnyH_take (i := 11) (oi := { dst := some 81, op := Go.Op.indexAddr 29 (Go.Operand.tmp 79) (Go.Operand.tmp 80), type := 0, pos := "law.go:98", after := #[{ on := 9, ground := Go.Ground.data }, { on := 10, ground := Go.Ground.data }, { on := 2, ground := Go.Ground.guard }], guard := some (2, false) }) (v := _) rfl (by kernel_rfl) (by kernel_rfl) (by kernel_rfl) (fun _ _ _ h => h) (Or.inl ⟨by rfl, ?hy12⟩) (by assumption) ?rest12
            case hy12 => (intro w hSw; (try dsimp only at hSw); go_simp; try (with_reducible rfl))
            (try simp only [Act.put, List.setIfInBounds_toArray, List.set_cons_zero, List.set_cons_succ])
            refine' wpAnyH_take (i := 12) (oi := { dst := some 82, op := Go.Op.load 24 (Go.Operand.tmp 81), type := 24, pos := "law.go:98", after := #[{ on := 11, ground := Go.Ground.data }, { on := 2, ground := Go.Ground.guard }], guard := some (2, false) }) (v := _) rfl (by kernel_rfl) (by kernel_rfl) (by kernel_rfl) (fun _ _ _ h => h) (Or.inl ⟨by rfl, ?hy13⟩) (by assumption) ?rest13
            case hy13 => (intro w hSw; (try dsimp only at hSw); go_simp; try (with_reducible rfl))
            (try simp only [Act.put, List.setIfInBounds_toArray, List.set_cons_zero, List.set_cons_succ])
            refine' wpAnyH_take (i := 13) (oi := { dst := some 83, op := Go.Op.fieldAddr 31 (Go.Operand.tmp 1) 1, type := 0, pos := "law.go:98", after := #[{ on := 2, ground := Go.Ground.guard }], guard := some (2, false) }) (v := _) rfl (by kernel_rfl) (by kernel_rfl) (by kernel_rfl) (fun _ _ _ h => h) (Or.inl ⟨by rfl, ?hy14⟩) (by assumption) ?rest14
            case hy14 => (intro w hSw; (try dsimp only at hSw); go_simp; try (with_reducible rfl))
            (try simp only [Act.put, List.setIfInBounds_toArray, List.set_cons_zero, List.set_cons_succ])
            refine' wpAnyH_take (i := 14) (oi := { dst := some 84, op := Go.Op.load 3 (Go.Operand.tmp 83), type := 3, pos := "law.go:98", after := #[{ on := 13, ground := Go.Ground.data }, { on := 2, ground := Go.Ground.guard }], guard := some (2, false) }) (v := _) rfl (by kernel_rfl) (by kernel_rfl) (by kernel_rfl) (fun _ _ _ h => h) (Or.inl ⟨by rfl, ?hy15⟩) (by assumption) ?rest15
            case hy15 => (intro w hSw; (try dsimp only at hSw); go_simp; try (with_reducible rfl))
            (try simp only [Act.put, List.setIfInBounds_toArray, List.set_cons_zero, List.set_cons_succ])
            refine' wpAnyH_take (i := 15) (oi := { dst := some 85, op := Go.Op.fieldAddr 31 (Go.Operand.tmp 1) 3, type := 0, pos := "law.go:98", after := #[{ on := 2, ground := Go.Ground.guard }], guard := some (2, false) }) (v := _) rfl (by kernel_rfl) (by kernel_rfl) (by kernel_rfl) (fun _ _ _ h => h) (Or.inl ⟨by rfl, ?hy16⟩) (by assumption) ?rest16
            case hy16 => (intro w hSw; (try dsimp only at hSw); go_simp; try (with_reducible rfl))
            (try simp only [Act.put, List.setIfInBounds_toArray, List.set_cons_zero, List.set_cons_succ])
            refine' wpAnyH_take (i := 16) (oi := { dst := some 86, op := Go.Op.load 22 (Go.Operand.tmp 85), type := 22, pos := "law.go:98", after := #[{ on := 15, ground := Go.Ground.data }, { on := 2, ground := Go.Ground.guard }], guard := some (2, false) }) (v := _) rfl (by kernel_rfl) (by kernel_rfl) (by kernel_rfl) (fun _ _ _ h => h) (Or.inl ⟨by rfl, ?hy17⟩) (by assumption) ?rest17
            case hy17 => (intro w hSw; (try dsimp only at hSw); go_simp; try (with_reducible rfl))
            (try simp only [Act.put, List.setIfInBounds_toArray, List.set_cons_zero, List.set_cons_succ])
            refine wpAnyH_ready (rs := [17]) (by kernel_rfl) (by simp) ?_
            refine AllReadyH.cons (o := { dst := some 87, op := Go.Op.call { callee := Go.Callee.value (Go.Operand.func 10), args := #[Go.Operand.tmp 77, Go.Operand.tmp 82, Go.Operand.tmp 84, Go.Operand.tmp 86], argTypes := #[24, 24, 3, 22] }, type := 4, pos := "law.go:98", after := #[{ on := 7, ground := Go.Ground.data }, { on := 12, ground := Go.Ground.data }, { on := 14, ground := Go.Ground.data }, { on := 16, ground := Go.Ground.data }, { on := 2, ground := Go.Ground.chain }, { on := 2, ground := Go.Ground.guard }], guard := some (2, false) }) rfl (fun K hK => ?_) AllReadyH.nil
            go_simp
            refine (callK (S := (fun w' : World => w'.cell? ⟨w.heap.size, 0, none⟩ = some (.slice (some ad) l.length c) ∧ w'.cell? ⟨w.heap.size, 1, none⟩ = some (.int .i64 size) ∧ w'.cell? ⟨w.heap.size, 2, none⟩ = some (.int .i64 opn) ∧ w'.cell? ⟨w.heap.size, 3, none⟩ = some (.int .u64 now) ∧ w'.cell? (ad.add (k * 4)) = some (.int .i64 l[k].used) ∧ w'.cell? ⟨(ad.add (k * 4)).block, (ad.add (k * 4)).off + 1, none⟩ = some (.int .i64 l[k].live) ∧ w'.cell? ⟨(ad.add (k * 4)).block, (ad.add (k * 4)).off + 2, none⟩ = some (.int .u64 l[k].age) ∧ w'.cell? ⟨(ad.add (k * 4)).block, (ad.add (k * 4)).off + 3, none⟩ = some (.int .u64 l[k].wear) ∧ w'.cell? (ad.add (j * 4)) = some (.int .i64 l[j].used) ∧ w'.cell? ⟨(ad.add (j * 4)).block, (ad.add (j * 4)).off + 1, none⟩ = some (.int .i64 l[j].live) ∧ w'.cell? ⟨(ad.add (j * 4)).block, (ad.add (j * 4)).off + 2, none⟩ = some (.int .u64 l[j].age) ∧ w'.cell? ⟨(ad.add (j * 4)).block, (ad.add (j * 4)).off + 3, none⟩ = some (.int .u64 l[j].wear) ∧ Hid (Below wx.heap.size wx w'))) hS.out (fun W _ => hkj.out W) (by assumption)).mono ?_
            rintro e w' ⟨rfl, hq0, hq1, hq2, hq3, hq4, hq5, hq6, hq7, hq8, hq9, hq10, hq11, hq12⟩
            refine hK.out _ _ ⟨hq0, hq1, hq2, hq3, hq4, hq5, hq6, hq7, hq8, hq9, hq10, hq11, hq12⟩ (fun hHeld => ?_)
            clear hK K
            (try simp only [Act.put, List.setIfInBounds_toArray, List.set_cons_zero, List.set_cons_succ])
            refine' wpAnyH_take (i := 18) (oi := { dst := some 88, op := Go.Op.pick (Go.Operand.tmp 72) (Go.Operand.const (Go.Value.bool true)) (Go.Operand.tmp 87), type := 4, pos := "law.go:98", after := #[{ on := 2, ground := Go.Ground.data }, { on := 17, ground := Go.Ground.data }], guard := none }) (v := _) rfl (by kernel_rfl) (by kernel_rfl) (by kernel_rfl) (fun _ _ _ h => h) (Or.inl ⟨by rfl, ?hy18⟩) (by assumption) ?rest18
            case hy18 => (intro w hSw; (try dsimp only at hSw); go_simp; try (with_reducible rfl))
            (try simp only [Act.put, List.setIfInBounds_toArray, List.set_cons_zero, List.set_cons_succ])
            refine' wpAnyH_take (i := 19) (oi := { dst := some 89, op := Go.Op.move (Go.Operand.tmp 88), type := 4, pos := "law.go:98", after := #[{ on := 18, ground := Go.Ground.data }, { on := 17, ground := Go.Ground.chain }], guard := none }) (v := _) rfl (by kernel_rfl) (by kernel_rfl) (by kernel_rfl) (fun _ _ _ h => h) (Or.inl ⟨by rfl, ?hy19⟩) (by assumption) ?rest19
            case hy19 => (intro w hSw; (try dsimp only at hSw); go_simp; try (with_reducible rfl))
            (try simp only [Act.put, List.setIfInBounds_toArray, List.set_cons_zero, List.set_cons_succ])
            refine' wpAnyH_take (i := 20) (oi := { dst := some 90, op := Go.Op.fieldAddr 31 (Go.Operand.tmp 1) 0, type := 0, pos := "law.go:98", after := #[{ on := 19, ground := Go.Ground.guard }], guard := some (19, false) }) (v := _) rfl (by kernel_rfl) (by kernel_rfl) (by kernel_rfl) (fun _ _ _ h => h) (Or.inl ⟨by rfl, ?hy20⟩) (by assumption) ?rest20
            case hy20 => (intro w hSw; (try dsimp only at hSw); go_simp; try (with_reducible rfl))
            (try simp only [Act.put, List.setIfInBounds_toArray, List.set_cons_zero, List.set_cons_succ])
            refine' wpAnyH_take (i := 21) (oi := { dst := some 91, op := Go.Op.load 29 (Go.Operand.tmp 90), type := 29, pos := "law.go:98", after := #[{ on := 20, ground := Go.Ground.data }, { on := 19, ground := Go.Ground.guard }], guard := some (19, false) }) (v := _) rfl (by kernel_rfl) (by kernel_rfl) (by kernel_rfl) (fun _ _ _ h => h) (Or.inl ⟨by rfl, ?hy21⟩) (by assumption) ?rest21
            case hy21 => (intro w hSw; (try dsimp only at hSw); go_simp; try (with_reducible rfl))
            (try simp only [Act.put, List.setIfInBounds_toArray, List.set_cons_zero, List.set_cons_succ])
            refine' wpAnyH_take (i := 22) (oi := { dst := some 92, op := Go.Op.move (Go.Operand.tmp 3), type := 3, pos := "law.go:98", after := #[{ on := 19, ground := Go.Ground.guard }], guard := some (19, false) }) (v := _) rfl (by kernel_rfl) (by kernel_rfl) (by kernel_rfl) (fun _ _ _ h => h) (Or.inl ⟨by rfl, ?hy22⟩) (by assumption) ?rest22
            case hy22 => (intro w hSw; (try dsimp only at hSw); go_simp; try (with_reducible rfl))
            (try simp only [Act.put, List.setIfInBounds_toArray, List.set_cons_zero, List.set_cons_succ])
            refine' wpAnyH_take (i := 23) (oi := { dst := some 93, op := Go.Op.indexAddr 29 (Go.Operand.tmp 91) (Go.Operand.tmp 92), type := 0, pos := "law.go:98", after := #[{ on := 21, ground := Go.Ground.data }, { on := 22, ground := Go.Ground.data }, { on := 19, ground := Go.Ground.guard }], guard := some (19, false) }) (v := _) rfl (by kernel_rfl) (by kernel_rfl) (by kernel_rfl) (fun _ _ _ h => h) (Or.inl ⟨by rfl, ?hy23⟩) (by assumption) ?rest23
            case hy23 => (intro w hSw; (try dsimp only at hSw); go_simp; try (with_reducible rfl))
            (try simp only [Act.put, List.setIfInBounds_toArray, List.set_cons_zero, List.set_cons_succ])
            refine' wpAnyH_take (i := 24) (oi := { dst := some 94, op := Go.Op.load 24 (Go.Operand.tmp 93), type := 24, pos := "law.go:98", after := #[{ on := 23, ground := Go.Ground.data }, { on := 19, ground := Go.Ground.guard }], guard := some (19, false) }) (v := _) rfl (by kernel_rfl) (by kernel_rfl) (by kernel_rfl) (fun _ _ _ h => h) (Or.inl ⟨by rfl, ?hy24⟩) (by assumption) ?rest24
            case hy24 => (intro w hSw; (try dsimp only at hSw); go_simp; try (with_reducible rfl))
            (try simp only [Act.put, List.setIfInBounds_toArray, List.set_cons_zero, List.set_cons_succ])
            refine' wpAnyH_take (i := 25) (oi := { dst := some 95, op := Go.Op.fieldAddr 31 (Go.Operand.tmp 1) 0, type := 0, pos := "law.go:98", after := #[{ on := 19, ground := Go.Ground.guard }], guard := some (19, false) }) (v := _) rfl (by kernel_rfl) (by kernel_rfl) (by kernel_rfl) (fun _ _ _ h => h) (Or.inl ⟨by rfl, ?hy25⟩) (by assumption) ?rest25
            case hy25 => (intro w hSw; (try dsimp only at hSw); go_simp; try (with_reducible rfl))
            (try simp only [Act.put, List.setIfInBounds_toArray, List.set_cons_zero, List.set_cons_succ])
            refine' wpAnyH_take (i := 26) (oi := { dst := some 96, op := Go.Op.load 29 (Go.Operand.tmp 95), type := 29, pos := "law.go:98", after := #[{ on := 25, ground := Go.Ground.data }, { on := 19, ground := Go.Ground.guard }], guard := some (19, false) }) (v := _) rfl (by kernel_rfl) (by kernel_rfl) (by kernel_rfl) (fun _ _ _ h => h) (Or.inl ⟨by rfl, ?hy26⟩) (by assumption) ?rest26
            case hy26 => (intro w hSw; (try dsimp only at hSw); go_simp; try (with_reducible rfl))
            (try simp only [Act.put, List.setIfInBounds_toArray, List.set_cons_zero, List.set_cons_succ])
            refine' wpAnyH_take (i := 27) (oi := { dst := some 97, op := Go.Op.move (Go.Operand.tmp 6), type := 3, pos := "law.go:98", after := #[{ on := 19, ground := Go.Ground.guard }], guard := some (19, false) }) (v := _) rfl (by kernel_rfl) (by kernel_rfl) (by kernel_rfl) (fun _ _ _ h => h) (Or.inl ⟨by rfl, ?hy27⟩) (by assumption) ?rest27
            case hy27 => (intro w hSw; (try dsimp only at hSw); go_simp; try (with_reducible rfl))
            (try simp only [Act.put, List.setIfInBounds_toArray, List.set_cons_zero, List.set_cons_succ])
            refine' wpAnyH_take (i := 28) (oi := { dst := some 98, op := Go.Op.indexAddr 29 (Go.Operand.tmp 96) (Go.Operand.tmp 97), type := 0, pos := "law.go:98", after := #[{ on := 26, ground := Go.Ground.data }, { on := 27, ground := Go.Ground.data }, { on := 19, ground := Go.Ground.guard }], guard := some (19, false) }) (v := _) rfl (by kernel_rfl) (by kernel_rfl) (by kernel_rfl) (fun _ _ _ h => h) (Or.inl ⟨by rfl, ?hy28⟩) (by assumption) ?rest28
            case hy28 => (intro w hSw; (try dsimp only at hSw); go_simp; try (with_reducible rfl))
            (try simp only [Act.put, List.setIfInBounds_toArray, List.set_cons_zero, List.set_cons_succ])
            refine' wpAnyH_take (i := 29) (oi := { dst := some 99, op := Go.Op.load 24 (Go.Operand.tmp 98), type := 24, pos := "law.go:98", after := #[{ on := 28, ground := Go.Ground.data }, { on := 19, ground := Go.Ground.guard }], guard := some (19, false) }) (v := _) rfl (by kernel_rfl) (by kernel_rfl) (by kernel_rfl) (fun _ _ _ h => h) (Or.inl ⟨by rfl, ?hy29⟩) (by assumption) ?rest29
            case hy29 => (intro w hSw; (try dsimp only at hSw); go_simp; try (with_reducible rfl))
            (try simp only [Act.put, List.setIfInBounds_toArray, List.set_cons_zero, List.set_cons_succ])
            refine' wpAnyH_take (i := 30) (oi := { dst := some 100, op := Go.Op.fieldAddr 31 (Go.Operand.tmp 1) 1, type := 0, pos := "law.go:98", after := #[{ on := 19, ground := Go.Ground.guard }], guard := some (19, false) }) (v := _) rfl (by kernel_rfl) (by kernel_rfl) (by kernel_rfl) (fun _ _ _ h => h) (Or.inl ⟨by rfl, ?hy30⟩) (by assumption) ?rest30
            case hy30 => (intro w hSw; (try dsimp only at hSw); go_simp; try (with_reducible rfl))
            (try simp only [Act.put, List.setIfInBounds_toArray, List.set_cons_zero, List.set_cons_succ])
            refine' wpAnyH_take (i := 31) (oi := { dst := some 101, op := Go.Op.load 3 (Go.Operand.tmp 100), type := 3, pos := "law.go:98", after := #[{ on := 30, ground := Go.Ground.data }, { on := 19, ground := Go.Ground.guard }], guard := some (19, false) }) (v := _) rfl (by kernel_rfl) (by kernel_rfl) (by kernel_rfl) (fun _ _ _ h => h) (Or.inl ⟨by rfl, ?hy31⟩) (by assumption) ?rest31
            case hy31 => (intro w hSw; (try dsimp only at hSw); go_simp; try (with_reducible rfl))
            (try simp only [Act.put, List.setIfInBounds_toArray, List.set_cons_zero, List.set_cons_succ])
            refine' wpAnyH_take (i := 32) (oi := { dst := some 102, op := Go.Op.fieldAddr 31 (Go.Operand.tmp 1) 3, type := 0, pos := "law.go:98", after := #[{ on := 19, ground := Go.Ground.guard }], guard := some (19, false) }) (v := _) rfl (by kernel_rfl) (by kernel_rfl) (by kernel_rfl) (fun _ _ _ h => h) (Or.inl ⟨by rfl, ?hy32⟩) (by assumption) ?rest32
            case hy32 => (intro w hSw; (try dsimp only at hSw); go_simp; try (with_reducible rfl))
            (try simp only [Act.put, List.setIfInBounds_toArray, List.set_cons_zero, List.set_cons_succ])
            refine' wpAnyH_take (i := 33) (oi := { dst := some 103, op := Go.Op.load 22 (Go.Operand.tmp 102), type := 22, pos := "law.go:98", after := #[{ on := 32, ground := Go.Ground.data }, { on := 19, ground := Go.Ground.guard }], guard := some (19, false) }) (v := _) rfl (by kernel_rfl) (by kernel_rfl) (by kernel_rfl) (fun _ _ _ h => h) (Or.inl ⟨by rfl, ?hy33⟩) (by assumption) ?rest33
            case hy33 => (intro w hSw; (try dsimp only at hSw); go_simp; try (with_reducible rfl))
            (try simp only [Act.put, List.setIfInBounds_toArray, List.set_cons_zero, List.set_cons_succ])
            refine wpAnyH_ready (rs := [34]) (by kernel_rfl) (by simp) ?_
            refine AllReadyH.cons (o := { dst := some 104, op := Go.Op.call { callee := Go.Callee.value (Go.Operand.func 10), args := #[Go.Operand.tmp 94, Go.Operand.tmp 99, Go.Operand.tmp 101, Go.Operand.tmp 103], argTypes := #[24, 24, 3, 22] }, type := 4, pos := "law.go:98", after := #[{ on := 24, ground := Go.Ground.data }, { on := 29, ground := Go.Ground.data }, { on := 31, ground := Go.Ground.data }, { on := 33, ground := Go.Ground.data }, { on := 19, ground := Go.Ground.chain }, { on := 19, ground := Go.Ground.guard }], guard := some (19, false) }) rfl (fun K hK => ?_) AllReadyH.nil
            go_simp
            refine (callK (S := (fun w' : World => w'.cell? ⟨w.heap.size, 0, none⟩ = some (.slice (some ad) l.length c) ∧ w'.cell? ⟨w.heap.size, 1, none⟩ = some (.int .i64 size) ∧ w'.cell? ⟨w.heap.size, 2, none⟩ = some (.int .i64 opn) ∧ w'.cell? ⟨w.heap.size, 3, none⟩ = some (.int .u64 now) ∧ w'.cell? (ad.add (k * 4)) = some (.int .i64 l[k].used) ∧ w'.cell? ⟨(ad.add (k * 4)).block, (ad.add (k * 4)).off + 1, none⟩ = some (.int .i64 l[k].live) ∧ w'.cell? ⟨(ad.add (k * 4)).block, (ad.add (k * 4)).off + 2, none⟩ = some (.int .u64 l[k].age) ∧ w'.cell? ⟨(ad.add (k * 4)).block, (ad.add (k * 4)).off + 3, none⟩ = some (.int .u64 l[k].wear) ∧ w'.cell? (ad.add (j * 4)) = some (.int .i64 l[j].used) ∧ w'.cell? ⟨(ad.add (j * 4)).block, (ad.add (j * 4)).off + 1, none⟩ = some (.int .i64 l[j].live) ∧ w'.cell? ⟨(ad.add (j * 4)).block, (ad.add (j * 4)).off + 2, none⟩ = some (.int .u64 l[j].age) ∧ w'.cell? ⟨(ad.add (j * 4)).block, (ad.add (j * 4)).off + 3, none⟩ = some (.int .u64 l[j].wear) ∧ Hid (Below wx.heap.size wx w'))) hS.out (fun W _ => hjk.out W) (by assumption)).mono ?_
            rintro e w' ⟨rfl, hq0, hq1, hq2, hq3, hq4, hq5, hq6, hq7, hq8, hq9, hq10, hq11, hq12⟩
            refine hK.out _ _ ⟨hq0, hq1, hq2, hq3, hq4, hq5, hq6, hq7, hq8, hq9, hq10, hq11, hq12⟩ (fun hHeld => ?_)
            clear hK K
            (try simp only [Act.put, List.setIfInBounds_toArray, List.set_cons_zero, List.set_cons_succ])
            refine' wpAnyH_take (i := 35) (oi := { dst := some 105, op := Go.Op.unOp Go.UnOp.not 4 (Go.Operand.tmp 104), type := 4, pos := "law.go:98", after := #[{ on := 34, ground := Go.Ground.data }, { on := 19, ground := Go.Ground.guard }], guard := some (19, false) }) (v := _) rfl (by kernel_rfl) (by kernel_rfl) (by kernel_rfl) (fun _ _ _ h => h) (Or.inl ⟨by rfl, ?hy34⟩) (by assumption) ?rest34
            case hy34 => (intro w hSw; (try dsimp only at hSw); go_simp; try (with_reducible rfl))
            (try simp only [Act.put, List.setIfInBounds_toArray, List.set_cons_zero, List.set_cons_succ])
            refine' wpAnyH_take (i := 36) (oi := { dst := some 106, op := Go.Op.move (Go.Operand.tmp 105), type := 4, pos := "law.go:98", after := #[{ on := 35, ground := Go.Ground.data }, { on := 34, ground := Go.Ground.chain }, { on := 19, ground := Go.Ground.guard }], guard := some (19, false) }) (v := _) rfl (by kernel_rfl) (by kernel_rfl) (by kernel_rfl) (fun _ _ _ h => h) (Or.inl ⟨by rfl, ?hy35⟩) (by assumption) ?rest35
            case hy35 => (intro w hSw; (try dsimp only at hSw); go_simp; try (with_reducible rfl))
            (try simp only [Act.put, List.setIfInBounds_toArray, List.set_cons_zero, List.set_cons_succ])
            refine wpAnyH_take (i := 37) (oi := { dst := some 107, op := Go.Op.fieldAddr 31 (Go.Operand.tmp 1) 0, type := 0, pos := "law.go:98", after := #[{ on := 36, ground := Go.Ground.guard }], guard := some (36, true) }) (v := undef) rfl (by kernel_rfl) (by kernel_rfl) (by kernel_rfl) (fun _ _ _ h => h) (Or.inr ⟨by rfl, rfl⟩) (by assumption) ?_
            (try simp only [Act.put, List.setIfInBounds_toArray, List.set_cons_zero, List.set_cons_succ])
            refine wpAnyH_take (i := 38) (oi := { dst := some 108, op := Go.Op.load 29 (Go.Operand.tmp 107), type := 29, pos := "law.go:98", after := #[{ on := 37, ground := Go.Ground.data }, { on := 36, ground := Go.Ground.guard }], guard := some (36, true) }) (v := undef) rfl (by kernel_rfl) (by kernel_rfl) (by kernel_rfl) (fun _ _ _ h => h) (Or.inr ⟨by rfl, rfl⟩) (by assumption) ?_
            (try simp only [Act.put, List.setIfInBounds_toArray, List.set_cons_zero, List.set_cons_succ])
            refine wpAnyH_take (i := 39) (oi := { dst := some 109, op := Go.Op.move (Go.Operand.tmp 6), type := 3, pos := "law.go:98", after := #[{ on := 36, ground := Go.Ground.guard }], guard := some (36, true) }) (v := undef) rfl (by kernel_rfl) (by kernel_rfl) (by kernel_rfl) (fun _ _ _ h => h) (Or.inr ⟨by rfl, rfl⟩) (by assumption) ?_
            (try simp only [Act.put, List.setIfInBounds_toArray, List.set_cons_zero, List.set_cons_succ])
            refine wpAnyH_take (i := 40) (oi := { dst := some 110, op := Go.Op.indexAddr 29 (Go.Operand.tmp 108) (Go.Operand.tmp 109), type := 0, pos := "law.go:98", after := #[{ on := 38, ground := Go.Ground.data }, { on := 39, ground := Go.Ground.data }, { on := 36, ground := Go.Ground.guard }], guard := some (36, true) }) (v := undef) rfl (by kernel_rfl) (by kernel_rfl) (by kernel_rfl) (fun _ _ _ h => h) (Or.inr ⟨by rfl, rfl⟩) (by assumption) ?_
            (try simp only [Act.put, List.setIfInBounds_toArray, List.set_cons_zero, List.set_cons_succ])
            refine wpAnyH_take (i := 41) (oi := { dst := some 111, op := Go.Op.fieldAddr 24 (Go.Operand.tmp 110) 3, type := 0, pos := "law.go:98", after := #[{ on := 40, ground := Go.Ground.data }, { on := 36, ground := Go.Ground.guard }], guard := some (36, true) }) (v := undef) rfl (by kernel_rfl) (by kernel_rfl) (by kernel_rfl) (fun _ _ _ h => h) (Or.inr ⟨by rfl, rfl⟩) (by assumption) ?_
            (try simp only [Act.put, List.setIfInBounds_toArray, List.set_cons_zero, List.set_cons_succ])
            refine wpAnyH_take (i := 42) (oi := { dst := some 112, op := Go.Op.load 22 (Go.Operand.tmp 111), type := 22, pos := "law.go:98", after := #[{ on := 41, ground := Go.Ground.data }, { on := 36, ground := Go.Ground.guard }], guard := some (36, true) }) (v := undef) rfl (by kernel_rfl) (by kernel_rfl) (by kernel_rfl) (fun _ _ _ h => h) (Or.inr ⟨by rfl, rfl⟩) (by assumption) ?_
            (try simp only [Act.put, List.setIfInBounds_toArray, List.set_cons_zero, List.set_cons_succ])
            refine wpAnyH_take (i := 43) (oi := { dst := some 113, op := Go.Op.fieldAddr 31 (Go.Operand.tmp 1) 0, type := 0, pos := "law.go:98", after := #[{ on := 36, ground := Go.Ground.guard }], guard := some (36, true) }) (v := undef) rfl (by kernel_rfl) (by kernel_rfl) (by kernel_rfl) (fun _ _ _ h => h) (Or.inr ⟨by rfl, rfl⟩) (by assumption) ?_
            (try simp only [Act.put, List.setIfInBounds_toArray, List.set_cons_zero, List.set_cons_succ])
            refine wpAnyH_take (i := 44) (oi := { dst := some 114, op := Go.Op.load 29 (Go.Operand.tmp 113), type := 29, pos := "law.go:98", after := #[{ on := 43, ground := Go.Ground.data }, { on := 36, ground := Go.Ground.guard }], guard := some (36, true) }) (v := undef) rfl (by kernel_rfl) (by kernel_rfl) (by kernel_rfl) (fun _ _ _ h => h) (Or.inr ⟨by rfl, rfl⟩) (by assumption) ?_
            (try simp only [Act.put, List.setIfInBounds_toArray, List.set_cons_zero, List.set_cons_succ])
            refine wpAnyH_take (i := 45) (oi := { dst := some 115, op := Go.Op.move (Go.Operand.tmp 3), type := 3, pos := "law.go:98", after := #[{ on := 36, ground := Go.Ground.guard }], guard := some (36, true) }) (v := undef) rfl (by kernel_rfl) (by kernel_rfl) (by kernel_rfl) (fun _ _ _ h => h) (Or.inr ⟨by rfl, rfl⟩) (by assumption) ?_
            (try simp only [Act.put, List.setIfInBounds_toArray, List.set_cons_zero, List.set_cons_succ])
            refine wpAnyH_take (i := 46) (oi := { dst := some 116, op := Go.Op.indexAddr 29 (Go.Operand.tmp 114) (Go.Operand.tmp 115), type := 0, pos := "law.go:98", after := #[{ on := 44, ground := Go.Ground.data }, { on := 45, ground := Go.Ground.data }, { on := 36, ground := Go.Ground.guard }], guard := some (36, true) }) (v := undef) rfl (by kernel_rfl) (by kernel_rfl) (by kernel_rfl) (fun _ _ _ h => h) (Or.inr ⟨by rfl, rfl⟩) (by assumption) ?_
            (try simp only [Act.put, List.setIfInBounds_toArray, List.set_cons_zero, List.set_cons_succ])
            refine wpAnyH_take (i := 47) (oi := { dst := some 117, op := Go.Op.fieldAddr 24 (Go.Operand.tmp 116) 3, type := 0, pos := "law.go:98", after := #[{ on := 46, ground := Go.Ground.data }, { on := 36, ground := Go.Ground.guard }], guard := some (36, true) }) (v := undef) rfl (by kernel_rfl) (by kernel_rfl) (by kernel_rfl) (fun _ _ _ h => h) (Or.inr ⟨by rfl, rfl⟩) (by assumption) ?_
            (try simp only [Act.put, List.setIfInBounds_toArray, List.set_cons_zero, List.set_cons_succ])
            refine wpAnyH_take (i := 48) (oi := { dst := some 118, op := Go.Op.load 22 (Go.Operand.tmp 117), type := 22, pos := "law.go:98", after := #[{ on := 47, ground := Go.Ground.data }, { on := 36, ground := Go.Ground.guard }], guard := some (36, true) }) (v := undef) rfl (by kernel_rfl) (by kernel_rfl) (by kernel_rfl) (fun _ _ _ h => h) (Or.inr ⟨by rfl, rfl⟩) (by assumption) ?_
            (try simp only [Act.put, List.setIfInBounds_toArray, List.set_cons_zero, List.set_cons_succ])
            refine wpAnyH_take (i := 49) (oi := { dst := some 119, op := Go.Op.binOp Go.BinOp.lss 22 (Go.Operand.tmp 112) (Go.Operand.tmp 118) 22, type := 4, pos := "law.go:98", after := #[{ on := 42, ground := Go.Ground.data }, { on := 48, ground := Go.Ground.data }, { on := 36, ground := Go.Ground.guard }], guard := some (36, true) }) (v := undef) rfl (by kernel_rfl) (by kernel_rfl) (by kernel_rfl) (fun _ _ _ h => h) (Or.inr ⟨by rfl, rfl⟩) (by assumption) ?_
            (try simp only [Act.put, List.setIfInBounds_toArray, List.set_cons_zero, List.set_cons_succ])
            refine' wpAnyH_take (i := 50) (oi := { dst := some 120, op := Go.Op.pick (Go.Operand.tmp 106) (Go.Operand.tmp 119) (Go.Operand.const (Go.Value.bool false)), type := 4, pos := "law.go:98", after := #[{ on := 36, ground := Go.Ground.data }, { on := 49, ground := Go.Ground.data }, { on := 19, ground := Go.Ground.guard }], guard := some (19, false) }) (v := _) rfl (by kernel_rfl) (by kernel_rfl) (by kernel_rfl) (fun _ _ _ h => h) (Or.inl ⟨by rfl, ?hy36⟩) (by assumption) ?rest36
            case hy36 => (intro w hSw; (try dsimp only at hSw); go_simp; try (with_reducible rfl))
            (try simp only [Act.put, List.setIfInBounds_toArray, List.set_cons_zero, List.set_cons_succ])
            refine' wpAnyH_take (i := 51) (oi := { dst := some 121, op := Go.Op.pick (Go.Operand.tmp 89) (Go.Operand.const (Go.Value.bool true)) (Go.Operand.tmp 120), type := 4, pos := "law.go:98", after := #[{ on := 19, ground := Go.Ground.data }, { on := 50, ground := Go.Ground.data }], guard := none }) (v := _) rfl (by kernel_rfl) (by kernel_rfl) (by kernel_rfl) (fun _ _ _ h => h) (Or.inl ⟨by rfl, ?hy37⟩) (by assumption) ?rest37
            case hy37 => (intro w hSw; (try dsimp only at hSw); go_simp; try (with_reducible rfl))
            (try simp only [Act.put, List.setIfInBounds_toArray, List.set_cons_zero, List.set_cons_succ])
            refine wpAnyH_done (by kernel_rfl) ?_ _
            refine NoPanic.normal ?_
            all_goals go_wp2
            all_goals go_roundw
            all_goals (first | (case rel => exact ⟨k + 1, true, by omega, by go_num, rfl, fun _ => rfl, hc.out.below hq12.out, h.out.below hq12.out, below_then hb0.out hb0.out.size hq12.out⟩) | skip)
            all_goals (simp [intOf]; omega)
          · rw [hq] at hjk
            clear hwh hq
            refine wp_region_noPanic ?_
            refine wp_region_held_drew (S := (fun w' : World => w'.cell? ⟨w.heap.size, 0, none⟩ = some (.slice (some ad) l.length c) ∧ w'.cell? ⟨w.heap.size, 1, none⟩ = some (.int .i64 size) ∧ w'.cell? ⟨w.heap.size, 2, none⟩ = some (.int .i64 opn) ∧ w'.cell? ⟨w.heap.size, 3, none⟩ = some (.int .u64 now) ∧ w'.cell? (ad.add (k * 4)) = some (.int .i64 l[k].used) ∧ w'.cell? ⟨(ad.add (k * 4)).block, (ad.add (k * 4)).off + 1, none⟩ = some (.int .i64 l[k].live) ∧ w'.cell? ⟨(ad.add (k * 4)).block, (ad.add (k * 4)).off + 2, none⟩ = some (.int .u64 l[k].age) ∧ w'.cell? ⟨(ad.add (k * 4)).block, (ad.add (k * 4)).off + 3, none⟩ = some (.int .u64 l[k].wear) ∧ w'.cell? (ad.add (j * 4)) = some (.int .i64 l[j].used) ∧ w'.cell? ⟨(ad.add (j * 4)).block, (ad.add (j * 4)).off + 1, none⟩ = some (.int .i64 l[j].live) ∧ w'.cell? ⟨(ad.add (j * 4)).block, (ad.add (j * 4)).off + 2, none⟩ = some (.int .u64 l[j].age) ∧ w'.cell? ⟨(ad.add (j * 4)).block, (ad.add (j * 4)).off + 3, none⟩ = some (.int .u64 l[j].wear) ∧ Hid (Below wx.heap.size wx w'))) (by kernel_rfl) ⟨hc0, hc1, hc2, hc3, c0, c1, c2, c3, f0, f1, f2, f3, below_drewN hBh.out 1⟩ (fun hHeld => ?_)
            refine' wpAnyH_take (i := 0) (oi := { dst := some 70, op := Go.Op.move (Go.Operand.tmp 4), type := 32, pos := "law.go:98", after := #[], guard := none }) (v := _) rfl (by kernel_rfl) (by kernel_rfl) (by kernel_rfl) (fun _ _ _ h => h) (Or.inl ⟨by rfl, ?hy38⟩) (by assumption) ?rest38
            case hy38 => (intro w hSw; (try dsimp only at hSw); go_simp; try (with_reducible rfl))
            (try simp only [Act.put, List.setIfInBounds_toArray, List.set_cons_zero, List.set_cons_succ])
            refine' wpAnyH_take (i := 1) (oi := { dst := some 71, op := Go.Op.binOp Go.BinOp.neq 32 (Go.Operand.tmp 70) (Go.Operand.const (Go.Value.int Go.IntKind.i64 0)) 32, type := 4, pos := "law.go:98", after := #[{ on := 0, ground := Go.Ground.data }], guard := none }) (v := _) rfl (by kernel_rfl) (by kernel_rfl) (by kernel_rfl) (fun _ _ _ h => h) (Or.inl ⟨by rfl, ?hy39⟩) (by assumption) ?rest39
            case hy39 => (intro w hSw; (try dsimp only at hSw); go_simp; try (with_reducible rfl))
            (try simp only [Act.put, List.setIfInBounds_toArray, List.set_cons_zero, List.set_cons_succ])
            refine' wpAnyH_take (i := 2) (oi := { dst := some 72, op := Go.Op.move (Go.Operand.tmp 71), type := 4, pos := "law.go:98", after := #[{ on := 1, ground := Go.Ground.data }], guard := none }) (v := _) rfl (by kernel_rfl) (by kernel_rfl) (by kernel_rfl) (fun _ _ _ h => h) (Or.inl ⟨by rfl, ?hy40⟩) (by assumption) ?rest40
            case hy40 => (intro w hSw; (try dsimp only at hSw); go_simp; try (with_reducible rfl))
            (try simp only [Act.put, List.setIfInBounds_toArray, List.set_cons_zero, List.set_cons_succ])
            refine' wpAnyH_take (i := 3) (oi := { dst := some 73, op := Go.Op.fieldAddr 31 (Go.Operand.tmp 1) 0, type := 0, pos := "law.go:98", after := #[{ on := 2, ground := Go.Ground.guard }], guard := some (2, false) }) (v := _) rfl (by kernel_rfl) (by kernel_rfl) (by kernel_rfl) (fun _ _ _ h => h) (Or.inl ⟨by rfl, ?hy41⟩) (by assumption) ?rest41
            case hy41 => (intro w hSw; (try dsimp only at hSw); go_simp; try (with_reducible rfl))
            (try simp only [Act.put, List.setIfInBounds_toArray, List.set_cons_zero, List.set_cons_succ])
            refine' wpAnyH_take (i := 4) (oi := { dst := some 74, op := Go.Op.load 29 (Go.Operand.tmp 73), type := 29, pos := "law.go:98", after := #[{ on := 3, ground := Go.Ground.data }, { on := 2, ground := Go.Ground.guard }], guard := some (2, false) }) (v := _) rfl (by kernel_rfl) (by kernel_rfl) (by kernel_rfl) (fun _ _ _ h => h) (Or.inl ⟨by rfl, ?hy42⟩) (by assumption) ?rest42
            case hy42 => (intro w hSw; (try dsimp only at hSw); go_simp; try (with_reducible rfl))
            (try simp only [Act.put, List.setIfInBounds_toArray, List.set_cons_zero, List.set_cons_succ])
            refine' wpAnyH_take (i := 5) (oi := { dst := some 75, op := Go.Op.move (Go.Operand.tmp 6), type := 3, pos := "law.go:98", after := #[{ on := 2, ground := Go.Ground.guard }], guard := some (2, false) }) (v := _) rfl (by kernel_rfl) (by kernel_rfl) (by kernel_rfl) (fun _ _ _ h => h) (Or.inl ⟨by rfl, ?hy43⟩) (by assumption) ?rest43
            case hy43 => (intro w hSw; (try dsimp only at hSw); go_simp; try (with_reducible rfl))
            (try simp only [Act.put, List.setIfInBounds_toArray, List.set_cons_zero, List.set_cons_succ])
            refine' wpAnyH_take (i := 6) (oi := { dst := some 76, op := Go.Op.indexAddr 29 (Go.Operand.tmp 74) (Go.Operand.tmp 75), type := 0, pos := "law.go:98", after := #[{ on := 4, ground := Go.Ground.data }, { on := 5, ground := Go.Ground.data }, { on := 2, ground := Go.Ground.guard }], guard := some (2, false) }) (v := _) rfl (by kernel_rfl) (by kernel_rfl) (by kernel_rfl) (fun _ _ _ h => h) (Or.inl ⟨by rfl, ?hy44⟩) (by assumption) ?rest44
            case hy44 => (intro w hSw; (try dsimp only at hSw); go_simp; try (with_reducible rfl))
            (try simp only [Act.put, List.setIfInBounds_toArray, List.set_cons_zero, List.set_cons_succ])
            refine' wpAnyH_take (i := 7) (oi := { dst := some 77, op := Go.Op.load 24 (Go.Operand.tmp 76), type := 24, pos := "law.go:98", after := #[{ on := 6, ground := Go.Ground.data }, { on := 2, ground := Go.Ground.guard }], guard := some (2, false) }) (v := _) rfl (by kernel_rfl) (by kernel_rfl) (by kernel_rfl) (fun _ _ _ h => h) (Or.inl ⟨by rfl, ?hy45⟩) (by assumption) ?rest45
            case hy45 => (intro w hSw; (try dsimp only at hSw); go_simp; try (with_reducible rfl))
            (try simp only [Act.put, List.setIfInBounds_toArray, List.set_cons_zero, List.set_cons_succ])
            refine' wpAnyH_take (i := 8) (oi := { dst := some 78, op := Go.Op.fieldAddr 31 (Go.Operand.tmp 1) 0, type := 0, pos := "law.go:98", after := #[{ on := 2, ground := Go.Ground.guard }], guard := some (2, false) }) (v := _) rfl (by kernel_rfl) (by kernel_rfl) (by kernel_rfl) (fun _ _ _ h => h) (Or.inl ⟨by rfl, ?hy46⟩) (by assumption) ?rest46
            case hy46 => (intro w hSw; (try dsimp only at hSw); go_simp; try (with_reducible rfl))
            (try simp only [Act.put, List.setIfInBounds_toArray, List.set_cons_zero, List.set_cons_succ])
            refine' wpAnyH_take (i := 9) (oi := { dst := some 79, op := Go.Op.load 29 (Go.Operand.tmp 78), type := 29, pos := "law.go:98", after := #[{ on := 8, ground := Go.Ground.data }, { on := 2, ground := Go.Ground.guard }], guard := some (2, false) }) (v := _) rfl (by kernel_rfl) (by kernel_rfl) (by kernel_rfl) (fun _ _ _ h => h) (Or.inl ⟨by rfl, ?hy47⟩) (by assumption) ?rest47
            case hy47 => (intro w hSw; (try dsimp only at hSw); go_simp; try (with_reducible rfl))
            (try simp only [Act.put, List.setIfInBounds_toArray, List.set_cons_zero, List.set_cons_succ])
            refine' wpAnyH_take (i := 10) (oi := { dst := some 80, op := Go.Op.move (Go.Operand.tmp 3), type := 3, pos := "law.go:98", after := #[{ on := 2, ground := Go.Ground.guard }], guard := some (2, false) }) (v := _) rfl (by kernel_rfl) (by kernel_rfl) (by kernel_rfl) (fun _ _ _ h => h) (Or.inl ⟨by rfl, ?hy48⟩) (by assumption) ?rest48
            case hy48 => (intro w hSw; (try dsimp only at hSw); go_simp; try (with_reducible rfl))
            (try simp only [Act.put, List.setIfInBounds_toArray, List.set_cons_zero, List.set_cons_succ])
            refine' wpAnyH_take (i := 11) (oi := { dst := some 81, op := Go.Op.indexAddr 29 (Go.Operand.tmp 79) (Go.Operand.tmp 80), type := 0, pos := "law.go:98", after := #[{ on := 9, ground := Go.Ground.data }, { on := 10, ground := Go.Ground.data }, { on := 2, ground := Go.Ground.guard }], guard := some (2, false) }) (v := _) rfl (by kernel_rfl) (by kernel_rfl) (by kernel_rfl) (fun _ _ _ h => h) (Or.inl ⟨by rfl, ?hy49⟩) (by assumption) ?rest49
            case hy49 => (intro w hSw; (try dsimp only at hSw); go_simp; try (with_reducible rfl))
            (try simp only [Act.put, List.setIfInBounds_toArray, List.set_cons_zero, List.set_cons_succ])
            refine' wpAnyH_take (i := 12) (oi := { dst := some 82, op := Go.Op.load 24 (Go.Operand.tmp 81), type := 24, pos := "law.go:98", after := #[{ on := 11, ground := Go.Ground.data }, { on := 2, ground := Go.Ground.guard }], guard := some (2, false) }) (v := _) rfl (by kernel_rfl) (by kernel_rfl) (by kernel_rfl) (fun _ _ _ h => h) (Or.inl ⟨by rfl, ?hy50⟩) (by assumption) ?rest50
            case hy50 => (intro w hSw; (try dsimp only at hSw); go_simp; try (with_reducible rfl))
            (try simp only [Act.put, List.setIfInBounds_toArray, List.set_cons_zero, List.set_cons_succ])
            refine' wpAnyH_take (i := 13) (oi := { dst := some 83, op := Go.Op.fieldAddr 31 (Go.Operand.tmp 1) 1, type := 0, pos := "law.go:98", after := #[{ on := 2, ground := Go.Ground.guard }], guard := some (2, false) }) (v := _) rfl (by kernel_rfl) (by kernel_rfl) (by kernel_rfl) (fun _ _ _ h => h) (Or.inl ⟨by rfl, ?hy51⟩) (by assumption) ?rest51
            case hy51 => (intro w hSw; (try dsimp only at hSw); go_simp; try (with_reducible rfl))
            (try simp only [Act.put, List.setIfInBounds_toArray, List.set_cons_zero, List.set_cons_succ])
            refine' wpAnyH_take (i := 14) (oi := { dst := some 84, op := Go.Op.load 3 (Go.Operand.tmp 83), type := 3, pos := "law.go:98", after := #[{ on := 13, ground := Go.Ground.data }, { on := 2, ground := Go.Ground.guard }], guard := some (2, false) }) (v := _) rfl (by kernel_rfl) (by kernel_rfl) (by kernel_rfl) (fun _ _ _ h => h) (Or.inl ⟨by rfl, ?hy52⟩) (by assumption) ?rest52
            case hy52 => (intro w hSw; (try dsimp only at hSw); go_simp; try (with_reducible rfl))
            (try simp only [Act.put, List.setIfInBounds_toArray, List.set_cons_zero, List.set_cons_succ])
            refine' wpAnyH_take (i := 15) (oi := { dst := some 85, op := Go.Op.fieldAddr 31 (Go.Operand.tmp 1) 3, type := 0, pos := "law.go:98", after := #[{ on := 2, ground := Go.Ground.guard }], guard := some (2, false) }) (v := _) rfl (by kernel_rfl) (by kernel_rfl) (by kernel_rfl) (fun _ _ _ h => h) (Or.inl ⟨by rfl, ?hy53⟩) (by assumption) ?rest53
            case hy53 => (intro w hSw; (try dsimp only at hSw); go_simp; try (with_reducible rfl))
            (try simp only [Act.put, List.setIfInBounds_toArray, List.set_cons_zero, List.set_cons_succ])
            refine' wpAnyH_take (i := 16) (oi := { dst := some 86, op := Go.Op.load 22 (Go.Operand.tmp 85), type := 22, pos := "law.go:98", after := #[{ on := 15, ground := Go.Ground.data }, { on := 2, ground := Go.Ground.guard }], guard := some (2, false) }) (v := _) rfl (by kernel_rfl) (by kernel_rfl) (by kernel_rfl) (fun _ _ _ h => h) (Or.inl ⟨by rfl, ?hy54⟩) (by assumption) ?rest54
            case hy54 => (intro w hSw; (try dsimp only at hSw); go_simp; try (with_reducible rfl))
            (try simp only [Act.put, List.setIfInBounds_toArray, List.set_cons_zero, List.set_cons_succ])
            refine wpAnyH_ready (rs := [17]) (by kernel_rfl) (by simp) ?_
            refine AllReadyH.cons (o := { dst := some 87, op := Go.Op.call { callee := Go.Callee.value (Go.Operand.func 10), args := #[Go.Operand.tmp 77, Go.Operand.tmp 82, Go.Operand.tmp 84, Go.Operand.tmp 86], argTypes := #[24, 24, 3, 22] }, type := 4, pos := "law.go:98", after := #[{ on := 7, ground := Go.Ground.data }, { on := 12, ground := Go.Ground.data }, { on := 14, ground := Go.Ground.data }, { on := 16, ground := Go.Ground.data }, { on := 2, ground := Go.Ground.chain }, { on := 2, ground := Go.Ground.guard }], guard := some (2, false) }) rfl (fun K hK => ?_) AllReadyH.nil
            go_simp
            refine (callK (S := (fun w' : World => w'.cell? ⟨w.heap.size, 0, none⟩ = some (.slice (some ad) l.length c) ∧ w'.cell? ⟨w.heap.size, 1, none⟩ = some (.int .i64 size) ∧ w'.cell? ⟨w.heap.size, 2, none⟩ = some (.int .i64 opn) ∧ w'.cell? ⟨w.heap.size, 3, none⟩ = some (.int .u64 now) ∧ w'.cell? (ad.add (k * 4)) = some (.int .i64 l[k].used) ∧ w'.cell? ⟨(ad.add (k * 4)).block, (ad.add (k * 4)).off + 1, none⟩ = some (.int .i64 l[k].live) ∧ w'.cell? ⟨(ad.add (k * 4)).block, (ad.add (k * 4)).off + 2, none⟩ = some (.int .u64 l[k].age) ∧ w'.cell? ⟨(ad.add (k * 4)).block, (ad.add (k * 4)).off + 3, none⟩ = some (.int .u64 l[k].wear) ∧ w'.cell? (ad.add (j * 4)) = some (.int .i64 l[j].used) ∧ w'.cell? ⟨(ad.add (j * 4)).block, (ad.add (j * 4)).off + 1, none⟩ = some (.int .i64 l[j].live) ∧ w'.cell? ⟨(ad.add (j * 4)).block, (ad.add (j * 4)).off + 2, none⟩ = some (.int .u64 l[j].age) ∧ w'.cell? ⟨(ad.add (j * 4)).block, (ad.add (j * 4)).off + 3, none⟩ = some (.int .u64 l[j].wear) ∧ Hid (Below wx.heap.size wx w'))) hS.out (fun W _ => hkj.out W) (by assumption)).mono ?_
            rintro e w' ⟨rfl, hq0, hq1, hq2, hq3, hq4, hq5, hq6, hq7, hq8, hq9, hq10, hq11, hq12⟩
            refine hK.out _ _ ⟨hq0, hq1, hq2, hq3, hq4, hq5, hq6, hq7, hq8, hq9, hq10, hq11, hq12⟩ (fun hHeld => ?_)
            clear hK K
            (try simp only [Act.put, List.setIfInBounds_toArray, List.set_cons_zero, List.set_cons_succ])
            refine' wpAnyH_take (i := 18) (oi := { dst := some 88, op := Go.Op.pick (Go.Operand.tmp 72) (Go.Operand.const (Go.Value.bool true)) (Go.Operand.tmp 87), type := 4, pos := "law.go:98", after := #[{ on := 2, ground := Go.Ground.data }, { on := 17, ground := Go.Ground.data }], guard := none }) (v := _) rfl (by kernel_rfl) (by kernel_rfl) (by kernel_rfl) (fun _ _ _ h => h) (Or.inl ⟨by rfl, ?hy55⟩) (by assumption) ?rest55
            case hy55 => (intro w hSw; (try dsimp only at hSw); go_simp; try (with_reducible rfl))
            (try simp only [Act.put, List.setIfInBounds_toArray, List.set_cons_zero, List.set_cons_succ])
            refine' wpAnyH_take (i := 19) (oi := { dst := some 89, op := Go.Op.move (Go.Operand.tmp 88), type := 4, pos := "law.go:98", after := #[{ on := 18, ground := Go.Ground.data }, { on := 17, ground := Go.Ground.chain }], guard := none }) (v := _) rfl (by kernel_rfl) (by kernel_rfl) (by kernel_rfl) (fun _ _ _ h => h) (Or.inl ⟨by rfl, ?hy56⟩) (by assumption) ?rest56
            case hy56 => (intro w hSw; (try dsimp only at hSw); go_simp; try (with_reducible rfl))
            (try simp only [Act.put, List.setIfInBounds_toArray, List.set_cons_zero, List.set_cons_succ])
            refine' wpAnyH_take (i := 20) (oi := { dst := some 90, op := Go.Op.fieldAddr 31 (Go.Operand.tmp 1) 0, type := 0, pos := "law.go:98", after := #[{ on := 19, ground := Go.Ground.guard }], guard := some (19, false) }) (v := _) rfl (by kernel_rfl) (by kernel_rfl) (by kernel_rfl) (fun _ _ _ h => h) (Or.inl ⟨by rfl, ?hy57⟩) (by assumption) ?rest57
            case hy57 => (intro w hSw; (try dsimp only at hSw); go_simp; try (with_reducible rfl))
            (try simp only [Act.put, List.setIfInBounds_toArray, List.set_cons_zero, List.set_cons_succ])
            refine' wpAnyH_take (i := 21) (oi := { dst := some 91, op := Go.Op.load 29 (Go.Operand.tmp 90), type := 29, pos := "law.go:98", after := #[{ on := 20, ground := Go.Ground.data }, { on := 19, ground := Go.Ground.guard }], guard := some (19, false) }) (v := _) rfl (by kernel_rfl) (by kernel_rfl) (by kernel_rfl) (fun _ _ _ h => h) (Or.inl ⟨by rfl, ?hy58⟩) (by assumption) ?rest58
            case hy58 => (intro w hSw; (try dsimp only at hSw); go_simp; try (with_reducible rfl))
            (try simp only [Act.put, List.setIfInBounds_toArray, List.set_cons_zero, List.set_cons_succ])
            refine' wpAnyH_take (i := 22) (oi := { dst := some 92, op := Go.Op.move (Go.Operand.tmp 3), type := 3, pos := "law.go:98", after := #[{ on := 19, ground := Go.Ground.guard }], guard := some (19, false) }) (v := _) rfl (by kernel_rfl) (by kernel_rfl) (by kernel_rfl) (fun _ _ _ h => h) (Or.inl ⟨by rfl, ?hy59⟩) (by assumption) ?rest59
            case hy59 => (intro w hSw; (try dsimp only at hSw); go_simp; try (with_reducible rfl))
            (try simp only [Act.put, List.setIfInBounds_toArray, List.set_cons_zero, List.set_cons_succ])
            refine' wpAnyH_take (i := 23) (oi := { dst := some 93, op := Go.Op.indexAddr 29 (Go.Operand.tmp 91) (Go.Operand.tmp 92), type := 0, pos := "law.go:98", after := #[{ on := 21, ground := Go.Ground.data }, { on := 22, ground := Go.Ground.data }, { on := 19, ground := Go.Ground.guard }], guard := some (19, false) }) (v := _) rfl (by kernel_rfl) (by kernel_rfl) (by kernel_rfl) (fun _ _ _ h => h) (Or.inl ⟨by rfl, ?hy60⟩) (by assumption) ?rest60
            case hy60 => (intro w hSw; (try dsimp only at hSw); go_simp; try (with_reducible rfl))
            (try simp only [Act.put, List.setIfInBounds_toArray, List.set_cons_zero, List.set_cons_succ])
            refine' wpAnyH_take (i := 24) (oi := { dst := some 94, op := Go.Op.load 24 (Go.Operand.tmp 93), type := 24, pos := "law.go:98", after := #[{ on := 23, ground := Go.Ground.data }, { on := 19, ground := Go.Ground.guard }], guard := some (19, false) }) (v := _) rfl (by kernel_rfl) (by kernel_rfl) (by kernel_rfl) (fun _ _ _ h => h) (Or.inl ⟨by rfl, ?hy61⟩) (by assumption) ?rest61
            case hy61 => (intro w hSw; (try dsimp only at hSw); go_simp; try (with_reducible rfl))
            (try simp only [Act.put, List.setIfInBounds_toArray, List.set_cons_zero, List.set_cons_succ])
            refine' wpAnyH_take (i := 25) (oi := { dst := some 95, op := Go.Op.fieldAddr 31 (Go.Operand.tmp 1) 0, type := 0, pos := "law.go:98", after := #[{ on := 19, ground := Go.Ground.guard }], guard := some (19, false) }) (v := _) rfl (by kernel_rfl) (by kernel_rfl) (by kernel_rfl) (fun _ _ _ h => h) (Or.inl ⟨by rfl, ?hy62⟩) (by assumption) ?rest62
            case hy62 => (intro w hSw; (try dsimp only at hSw); go_simp; try (with_reducible rfl))
            (try simp only [Act.put, List.setIfInBounds_toArray, List.set_cons_zero, List.set_cons_succ])
            refine' wpAnyH_take (i := 26) (oi := { dst := some 96, op := Go.Op.load 29 (Go.Operand.tmp 95), type := 29, pos := "law.go:98", after := #[{ on := 25, ground := Go.Ground.data }, { on := 19, ground := Go.Ground.guard }], guard := some (19, false) }) (v := _) rfl (by kernel_rfl) (by kernel_rfl) (by kernel_rfl) (fun _ _ _ h => h) (Or.inl ⟨by rfl, ?hy63⟩) (by assumption) ?rest63
            case hy63 => (intro w hSw; (try dsimp only at hSw); go_simp; try (with_reducible rfl))
            (try simp only [Act.put, List.setIfInBounds_toArray, List.set_cons_zero, List.set_cons_succ])
            refine' wpAnyH_take (i := 27) (oi := { dst := some 97, op := Go.Op.move (Go.Operand.tmp 6), type := 3, pos := "law.go:98", after := #[{ on := 19, ground := Go.Ground.guard }], guard := some (19, false) }) (v := _) rfl (by kernel_rfl) (by kernel_rfl) (by kernel_rfl) (fun _ _ _ h => h) (Or.inl ⟨by rfl, ?hy64⟩) (by assumption) ?rest64
            case hy64 => (intro w hSw; (try dsimp only at hSw); go_simp; try (with_reducible rfl))
            (try simp only [Act.put, List.setIfInBounds_toArray, List.set_cons_zero, List.set_cons_succ])
            refine' wpAnyH_take (i := 28) (oi := { dst := some 98, op := Go.Op.indexAddr 29 (Go.Operand.tmp 96) (Go.Operand.tmp 97), type := 0, pos := "law.go:98", after := #[{ on := 26, ground := Go.Ground.data }, { on := 27, ground := Go.Ground.data }, { on := 19, ground := Go.Ground.guard }], guard := some (19, false) }) (v := _) rfl (by kernel_rfl) (by kernel_rfl) (by kernel_rfl) (fun _ _ _ h => h) (Or.inl ⟨by rfl, ?hy65⟩) (by assumption) ?rest65
            case hy65 => (intro w hSw; (try dsimp only at hSw); go_simp; try (with_reducible rfl))
            (try simp only [Act.put, List.setIfInBounds_toArray, List.set_cons_zero, List.set_cons_succ])
            refine' wpAnyH_take (i := 29) (oi := { dst := some 99, op := Go.Op.load 24 (Go.Operand.tmp 98), type := 24, pos := "law.go:98", after := #[{ on := 28, ground := Go.Ground.data }, { on := 19, ground := Go.Ground.guard }], guard := some (19, false) }) (v := _) rfl (by kernel_rfl) (by kernel_rfl) (by kernel_rfl) (fun _ _ _ h => h) (Or.inl ⟨by rfl, ?hy66⟩) (by assumption) ?rest66
            case hy66 => (intro w hSw; (try dsimp only at hSw); go_simp; try (with_reducible rfl))
            (try simp only [Act.put, List.setIfInBounds_toArray, List.set_cons_zero, List.set_cons_succ])
            refine' wpAnyH_take (i := 30) (oi := { dst := some 100, op := Go.Op.fieldAddr 31 (Go.Operand.tmp 1) 1, type := 0, pos := "law.go:98", after := #[{ on := 19, ground := Go.Ground.guard }], guard := some (19, false) }) (v := _) rfl (by kernel_rfl) (by kernel_rfl) (by kernel_rfl) (fun _ _ _ h => h) (Or.inl ⟨by rfl, ?hy67⟩) (by assumption) ?rest67
            case hy67 => (intro w hSw; (try dsimp only at hSw); go_simp; try (with_reducible rfl))
            (try simp only [Act.put, List.setIfInBounds_toArray, List.set_cons_zero, List.set_cons_succ])
            refine' wpAnyH_take (i := 31) (oi := { dst := some 101, op := Go.Op.load 3 (Go.Operand.tmp 100), type := 3, pos := "law.go:98", after := #[{ on := 30, ground := Go.Ground.data }, { on := 19, ground := Go.Ground.guard }], guard := some (19, false) }) (v := _) rfl (by kernel_rfl) (by kernel_rfl) (by kernel_rfl) (fun _ _ _ h => h) (Or.inl ⟨by rfl, ?hy68⟩) (by assumption) ?rest68
            case hy68 => (intro w hSw; (try dsimp only at hSw); go_simp; try (with_reducible rfl))
            (try simp only [Act.put, List.setIfInBounds_toArray, List.set_cons_zero, List.set_cons_succ])
            refine' wpAnyH_take (i := 32) (oi := { dst := some 102, op := Go.Op.fieldAddr 31 (Go.Operand.tmp 1) 3, type := 0, pos := "law.go:98", after := #[{ on := 19, ground := Go.Ground.guard }], guard := some (19, false) }) (v := _) rfl (by kernel_rfl) (by kernel_rfl) (by kernel_rfl) (fun _ _ _ h => h) (Or.inl ⟨by rfl, ?hy69⟩) (by assumption) ?rest69
            case hy69 => (intro w hSw; (try dsimp only at hSw); go_simp; try (with_reducible rfl))
            (try simp only [Act.put, List.setIfInBounds_toArray, List.set_cons_zero, List.set_cons_succ])
            refine' wpAnyH_take (i := 33) (oi := { dst := some 103, op := Go.Op.load 22 (Go.Operand.tmp 102), type := 22, pos := "law.go:98", after := #[{ on := 32, ground := Go.Ground.data }, { on := 19, ground := Go.Ground.guard }], guard := some (19, false) }) (v := _) rfl (by kernel_rfl) (by kernel_rfl) (by kernel_rfl) (fun _ _ _ h => h) (Or.inl ⟨by rfl, ?hy70⟩) (by assumption) ?rest70
            case hy70 => (intro w hSw; (try dsimp only at hSw); go_simp; try (with_reducible rfl))
            (try simp only [Act.put, List.setIfInBounds_toArray, List.set_cons_zero, List.set_cons_succ])
            refine wpAnyH_ready (rs := [34]) (by kernel_rfl) (by simp) ?_
            refine AllReadyH.cons (o := { dst := some 104, op := Go.Op.call { callee := Go.Callee.value (Go.Operand.func 10), args := #[Go.Operand.tmp 94, Go.Operand.tmp 99, Go.Operand.tmp 101, Go.Operand.tmp 103], argTypes := #[24, 24, 3, 22] }, type := 4, pos := "law.go:98", after := #[{ on := 24, ground := Go.Ground.data }, { on := 29, ground := Go.Ground.data }, { on := 31, ground := Go.Ground.data }, { on := 33, ground := Go.Ground.data }, { on := 19, ground := Go.Ground.chain }, { on := 19, ground := Go.Ground.guard }], guard := some (19, false) }) rfl (fun K hK => ?_) AllReadyH.nil
            go_simp
            refine (callK (S := (fun w' : World => w'.cell? ⟨w.heap.size, 0, none⟩ = some (.slice (some ad) l.length c) ∧ w'.cell? ⟨w.heap.size, 1, none⟩ = some (.int .i64 size) ∧ w'.cell? ⟨w.heap.size, 2, none⟩ = some (.int .i64 opn) ∧ w'.cell? ⟨w.heap.size, 3, none⟩ = some (.int .u64 now) ∧ w'.cell? (ad.add (k * 4)) = some (.int .i64 l[k].used) ∧ w'.cell? ⟨(ad.add (k * 4)).block, (ad.add (k * 4)).off + 1, none⟩ = some (.int .i64 l[k].live) ∧ w'.cell? ⟨(ad.add (k * 4)).block, (ad.add (k * 4)).off + 2, none⟩ = some (.int .u64 l[k].age) ∧ w'.cell? ⟨(ad.add (k * 4)).block, (ad.add (k * 4)).off + 3, none⟩ = some (.int .u64 l[k].wear) ∧ w'.cell? (ad.add (j * 4)) = some (.int .i64 l[j].used) ∧ w'.cell? ⟨(ad.add (j * 4)).block, (ad.add (j * 4)).off + 1, none⟩ = some (.int .i64 l[j].live) ∧ w'.cell? ⟨(ad.add (j * 4)).block, (ad.add (j * 4)).off + 2, none⟩ = some (.int .u64 l[j].age) ∧ w'.cell? ⟨(ad.add (j * 4)).block, (ad.add (j * 4)).off + 3, none⟩ = some (.int .u64 l[j].wear) ∧ Hid (Below wx.heap.size wx w'))) hS.out (fun W _ => hjk.out W) (by assumption)).mono ?_
            rintro e w' ⟨rfl, hq0, hq1, hq2, hq3, hq4, hq5, hq6, hq7, hq8, hq9, hq10, hq11, hq12⟩
            refine hK.out _ _ ⟨hq0, hq1, hq2, hq3, hq4, hq5, hq6, hq7, hq8, hq9, hq10, hq11, hq12⟩ (fun hHeld => ?_)
            clear hK K
            (try simp only [Act.put, List.setIfInBounds_toArray, List.set_cons_zero, List.set_cons_succ])
            refine' wpAnyH_take (i := 35) (oi := { dst := some 105, op := Go.Op.unOp Go.UnOp.not 4 (Go.Operand.tmp 104), type := 4, pos := "law.go:98", after := #[{ on := 34, ground := Go.Ground.data }, { on := 19, ground := Go.Ground.guard }], guard := some (19, false) }) (v := _) rfl (by kernel_rfl) (by kernel_rfl) (by kernel_rfl) (fun _ _ _ h => h) (Or.inl ⟨by rfl, ?hy71⟩) (by assumption) ?rest71
            case hy71 => (intro w hSw; (try dsimp only at hSw); go_simp; try (with_reducible rfl))
            (try simp only [Act.put, List.setIfInBounds_toArray, List.set_cons_zero, List.set_cons_succ])
            refine' wpAnyH_take (i := 36) (oi := { dst := some 106, op := Go.Op.move (Go.Operand.tmp 105), type := 4, pos := "law.go:98", after := #[{ on := 35, ground := Go.Ground.data }, { on := 34, ground := Go.Ground.chain }, { on := 19, ground := Go.Ground.guard }], guard := some (19, false) }) (v := _) rfl (by kernel_rfl) (by kernel_rfl) (by kernel_rfl) (fun _ _ _ h => h) (Or.inl ⟨by rfl, ?hy72⟩) (by assumption) ?rest72
            case hy72 => (intro w hSw; (try dsimp only at hSw); go_simp; try (with_reducible rfl))
            (try simp only [Act.put, List.setIfInBounds_toArray, List.set_cons_zero, List.set_cons_succ])
            refine' wpAnyH_take (i := 37) (oi := { dst := some 107, op := Go.Op.fieldAddr 31 (Go.Operand.tmp 1) 0, type := 0, pos := "law.go:98", after := #[{ on := 36, ground := Go.Ground.guard }], guard := some (36, true) }) (v := _) rfl (by kernel_rfl) (by kernel_rfl) (by kernel_rfl) (fun _ _ _ h => h) (Or.inl ⟨by rfl, ?hy73⟩) (by assumption) ?rest73
            case hy73 => (intro w hSw; (try dsimp only at hSw); go_simp; try (with_reducible rfl))
            (try simp only [Act.put, List.setIfInBounds_toArray, List.set_cons_zero, List.set_cons_succ])
            refine' wpAnyH_take (i := 38) (oi := { dst := some 108, op := Go.Op.load 29 (Go.Operand.tmp 107), type := 29, pos := "law.go:98", after := #[{ on := 37, ground := Go.Ground.data }, { on := 36, ground := Go.Ground.guard }], guard := some (36, true) }) (v := _) rfl (by kernel_rfl) (by kernel_rfl) (by kernel_rfl) (fun _ _ _ h => h) (Or.inl ⟨by rfl, ?hy74⟩) (by assumption) ?rest74
            case hy74 => (intro w hSw; (try dsimp only at hSw); go_simp; try (with_reducible rfl))
            (try simp only [Act.put, List.setIfInBounds_toArray, List.set_cons_zero, List.set_cons_succ])
            refine' wpAnyH_take (i := 39) (oi := { dst := some 109, op := Go.Op.move (Go.Operand.tmp 6), type := 3, pos := "law.go:98", after := #[{ on := 36, ground := Go.Ground.guard }], guard := some (36, true) }) (v := _) rfl (by kernel_rfl) (by kernel_rfl) (by kernel_rfl) (fun _ _ _ h => h) (Or.inl ⟨by rfl, ?hy75⟩) (by assumption) ?rest75
            case hy75 => (intro w hSw; (try dsimp only at hSw); go_simp; try (with_reducible rfl))
            (try simp only [Act.put, List.setIfInBounds_toArray, List.set_cons_zero, List.set_cons_succ])
            refine' wpAnyH_take (i := 40) (oi := { dst := some 110, op := Go.Op.indexAddr 29 (Go.Operand.tmp 108) (Go.Operand.tmp 109), type := 0, pos := "law.go:98", after := #[{ on := 38, ground := Go.Ground.data }, { on := 39, ground := Go.Ground.data }, { on := 36, ground := Go.Ground.guard }], guard := some (36, true) }) (v := _) rfl (by kernel_rfl) (by kernel_rfl) (by kernel_rfl) (fun _ _ _ h => h) (Or.inl ⟨by rfl, ?hy76⟩) (by assumption) ?rest76
            case hy76 => (intro w hSw; (try dsimp only at hSw); go_simp; try (with_reducible rfl))
            (try simp only [Act.put, List.setIfInBounds_toArray, List.set_cons_zero, List.set_cons_succ])
            refine' wpAnyH_take (i := 41) (oi := { dst := some 111, op := Go.Op.fieldAddr 24 (Go.Operand.tmp 110) 3, type := 0, pos := "law.go:98", after := #[{ on := 40, ground := Go.Ground.data }, { on := 36, ground := Go.Ground.guard }], guard := some (36, true) }) (v := _) rfl (by kernel_rfl) (by kernel_rfl) (by kernel_rfl) (fun _ _ _ h => h) (Or.inl ⟨by rfl, ?hy77⟩) (by assumption) ?rest77
            case hy77 => (intro w hSw; (try dsimp only at hSw); go_simp; try (with_reducible rfl))
            (try simp only [Act.put, List.setIfInBounds_toArray, List.set_cons_zero, List.set_cons_succ])
            refine' wpAnyH_take (i := 42) (oi := { dst := some 112, op := Go.Op.load 22 (Go.Operand.tmp 111), type := 22, pos := "law.go:98", after := #[{ on := 41, ground := Go.Ground.data }, { on := 36, ground := Go.Ground.guard }], guard := some (36, true) }) (v := _) rfl (by kernel_rfl) (by kernel_rfl) (by kernel_rfl) (fun _ _ _ h => h) (Or.inl ⟨by rfl, ?hy78⟩) (by assumption) ?rest78
            case hy78 => (intro w hSw; (try dsimp only at hSw); go_simp; try (with_reducible rfl))
            (try simp only [Act.put, List.setIfInBounds_toArray, List.set_cons_zero, List.set_cons_succ])
            refine' wpAnyH_take (i := 43) (oi := { dst := some 113, op := Go.Op.fieldAddr 31 (Go.Operand.tmp 1) 0, type := 0, pos := "law.go:98", after := #[{ on := 36, ground := Go.Ground.guard }], guard := some (36, true) }) (v := _) rfl (by kernel_rfl) (by kernel_rfl) (by kernel_rfl) (fun _ _ _ h => h) (Or.inl ⟨by rfl, ?hy79⟩) (by assumption) ?rest79
            case hy79 => (intro w hSw; (try dsimp only at hSw); go_simp; try (with_reducible rfl))
            (try simp only [Act.put, List.setIfInBounds_toArray, List.set_cons_zero, List.set_cons_succ])
            refine' wpAnyH_take (i := 44) (oi := { dst := some 114, op := Go.Op.load 29 (Go.Operand.tmp 113), type := 29, pos := "law.go:98", after := #[{ on := 43, ground := Go.Ground.data }, { on := 36, ground := Go.Ground.guard }], guard := some (36, true) }) (v := _) rfl (by kernel_rfl) (by kernel_rfl) (by kernel_rfl) (fun _ _ _ h => h) (Or.inl ⟨by rfl, ?hy80⟩) (by assumption) ?rest80
            case hy80 => (intro w hSw; (try dsimp only at hSw); go_simp; try (with_reducible rfl))
            (try simp only [Act.put, List.setIfInBounds_toArray, List.set_cons_zero, List.set_cons_succ])
            refine' wpAnyH_take (i := 45) (oi := { dst := some 115, op := Go.Op.move (Go.Operand.tmp 3), type := 3, pos := "law.go:98", after := #[{ on := 36, ground := Go.Ground.guard }], guard := some (36, true) }) (v := _) rfl (by kernel_rfl) (by kernel_rfl) (by kernel_rfl) (fun _ _ _ h => h) (Or.inl ⟨by rfl, ?hy81⟩) (by assumption) ?rest81
            case hy81 => (intro w hSw; (try dsimp only at hSw); go_simp; try (with_reducible rfl))
            (try simp only [Act.put, List.setIfInBounds_toArray, List.set_cons_zero, List.set_cons_succ])
            refine' wpAnyH_take (i := 46) (oi := { dst := some 116, op := Go.Op.indexAddr 29 (Go.Operand.tmp 114) (Go.Operand.tmp 115), type := 0, pos := "law.go:98", after := #[{ on := 44, ground := Go.Ground.data }, { on := 45, ground := Go.Ground.data }, { on := 36, ground := Go.Ground.guard }], guard := some (36, true) }) (v := _) rfl (by kernel_rfl) (by kernel_rfl) (by kernel_rfl) (fun _ _ _ h => h) (Or.inl ⟨by rfl, ?hy82⟩) (by assumption) ?rest82
            case hy82 => (intro w hSw; (try dsimp only at hSw); go_simp; try (with_reducible rfl))
            (try simp only [Act.put, List.setIfInBounds_toArray, List.set_cons_zero, List.set_cons_succ])
            refine' wpAnyH_take (i := 47) (oi := { dst := some 117, op := Go.Op.fieldAddr 24 (Go.Operand.tmp 116) 3, type := 0, pos := "law.go:98", after := #[{ on := 46, ground := Go.Ground.data }, { on := 36, ground := Go.Ground.guard }], guard := some (36, true) }) (v := _) rfl (by kernel_rfl) (by kernel_rfl) (by kernel_rfl) (fun _ _ _ h => h) (Or.inl ⟨by rfl, ?hy83⟩) (by assumption) ?rest83
            case hy83 => (intro w hSw; (try dsimp only at hSw); go_simp; try (with_reducible rfl))
            (try simp only [Act.put, List.setIfInBounds_toArray, List.set_cons_zero, List.set_cons_succ])
            refine' wpAnyH_take (i := 48) (oi := { dst := some 118, op := Go.Op.load 22 (Go.Operand.tmp 117), type := 22, pos := "law.go:98", after := #[{ on := 47, ground := Go.Ground.data }, { on := 36, ground := Go.Ground.guard }], guard := some (36, true) }) (v := _) rfl (by kernel_rfl) (by kernel_rfl) (by kernel_rfl) (fun _ _ _ h => h) (Or.inl ⟨by rfl, ?hy84⟩) (by assumption) ?rest84
            case hy84 => (intro w hSw; (try dsimp only at hSw); go_simp; try (with_reducible rfl))
            (try simp only [Act.put, List.setIfInBounds_toArray, List.set_cons_zero, List.set_cons_succ])
            refine' wpAnyH_take (i := 49) (oi := { dst := some 119, op := Go.Op.binOp Go.BinOp.lss 22 (Go.Operand.tmp 112) (Go.Operand.tmp 118) 22, type := 4, pos := "law.go:98", after := #[{ on := 42, ground := Go.Ground.data }, { on := 48, ground := Go.Ground.data }, { on := 36, ground := Go.Ground.guard }], guard := some (36, true) }) (v := _) rfl (by kernel_rfl) (by kernel_rfl) (by kernel_rfl) (fun _ _ _ h => h) (Or.inl ⟨by rfl, ?hy85⟩) (by assumption) ?rest85
            case hy85 => (intro w hSw; (try dsimp only at hSw); go_simp; try (with_reducible rfl))
            (try simp only [Act.put, List.setIfInBounds_toArray, List.set_cons_zero, List.set_cons_succ])
            refine' wpAnyH_take (i := 50) (oi := { dst := some 120, op := Go.Op.pick (Go.Operand.tmp 106) (Go.Operand.tmp 119) (Go.Operand.const (Go.Value.bool false)), type := 4, pos := "law.go:98", after := #[{ on := 36, ground := Go.Ground.data }, { on := 49, ground := Go.Ground.data }, { on := 19, ground := Go.Ground.guard }], guard := some (19, false) }) (v := _) rfl (by kernel_rfl) (by kernel_rfl) (by kernel_rfl) (fun _ _ _ h => h) (Or.inl ⟨by rfl, ?hy86⟩) (by assumption) ?rest86
            case hy86 => (intro w hSw; (try dsimp only at hSw); go_simp; try (with_reducible rfl))
            (try simp only [Act.put, List.setIfInBounds_toArray, List.set_cons_zero, List.set_cons_succ])
            refine' wpAnyH_take (i := 51) (oi := { dst := some 121, op := Go.Op.pick (Go.Operand.tmp 89) (Go.Operand.const (Go.Value.bool true)) (Go.Operand.tmp 120), type := 4, pos := "law.go:98", after := #[{ on := 19, ground := Go.Ground.data }, { on := 50, ground := Go.Ground.data }], guard := none }) (v := _) rfl (by kernel_rfl) (by kernel_rfl) (by kernel_rfl) (fun _ _ _ h => h) (Or.inl ⟨by rfl, ?hy87⟩) (by assumption) ?rest87
            case hy87 => (intro w hSw; (try dsimp only at hSw); go_simp; try (with_reducible rfl))
            (try simp only [Act.put, List.setIfInBounds_toArray, List.set_cons_zero, List.set_cons_succ])
            refine wpAnyH_done (by kernel_rfl) ?_ _
            refine NoPanic.normal ?_
            all_goals go_wp2
            all_goals go_roundw
            all_goals (first | (case rel => exact ⟨k + 1, true, by omega, by go_num, rfl, fun _ => rfl, hc.out.below hq12.out, h.out.below hq12.out, below_then hb0.out hb0.out.size hq12.out⟩) | skip)
            all_goals (simp [intOf]; omega)
      · obtain rfl : k = l.length := by omega
        have hsbt := hsb.out hj
        subst hsbt
        have hr := Lib.hid (rCand (some ad) c l size opn j _ hl1 h hj)
        rw [hcjh.out] at hr
        go_wp2_with fail
        refine hr.out.mono ?_
        rintro e wx ⟨rfl, rfl⟩
        go_wp2
        go_ret
        exact ⟨rfl, hb0⟩
end Go.Proofs.Ytnjmllkcodppgaa
