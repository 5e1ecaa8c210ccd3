/- Contract of victim.Choose. -/
import Derived.Test.YtnjmllkcodppgaaH
namespace Go.Proofs.Ytnjmllkcodppgaa
open Go.RowKit
set_option linter.unusedVariables false

theorem vld_iff (l : List BI) (size : Int) : vld l size = true ↔ 1 ≤ l.length ∧ l.length ≤ 64 ∧ 1 ≤ size ∧ ∀ b ∈ l, 0 ≤ b.live ∧ b.live ≤ b.used ∧ b.used ≤ size := by
  unfold vld bad
  simp only [Bool.and_eq_true, decide_eq_true_eq, Bool.not_eq_true', List.any_eq_false, Bool.or_eq_true, not_or]
  constructor
  · rintro ⟨h1, h2, h3, h4⟩
    exact ⟨h1, h2, h3, fun b hb => by have := h4 b hb; omega⟩
  · rintro ⟨h1, h2, h3, h4⟩
    exact ⟨h1, h2, h3, fun b hb => by have := h4 b hb; omega⟩
theorem vld_mem {l : List BI} {size : Int} {i : Nat} (h : vld l size = true) (hi : i < l.length) : 0 ≤ l[i].live ∧ l[i].live ≤ l[i].used ∧ l[i].used ≤ size :=
  ((vld_iff _ _).1 h).2.2.2 _ (List.getElem_mem hi)
theorem cand_parts {b : BI} {size opn i : Int} (h : cand b size opn i = true) : (i == opn) = false ∧ (i != opn) = true ∧ 0 < b.used ∧ b.live < size := by
  unfold cand at h
  simp only [Bool.and_eq_true, decide_eq_true_eq] at h
  refine ⟨?_, h.1, h.2.1, h.2.2⟩
  have := h.1
  rw [bne_iff_ne] at this
  exact beq_eq_false_iff_ne.2 this
theorem cand_none {b : BI} {size opn i : Int} (h : cand b size opn i = false) : (i == opn) = true ∨ ((i == opn) = false ∧ ¬ 0 < b.used) ∨ ((i == opn) = false ∧ 0 < b.used ∧ ¬ b.live < size) := by
  unfold cand at h
  by_cases e : i = opn
  · exact .inl (beq_iff_eq.2 e)
  · have e1 := beq_eq_false_iff_ne.2 e
    have e2 : (i != opn) = true := bne_iff_ne.2 e
    rw [e2, Bool.true_and] at h
    by_cases u : 0 < b.used
    · rw [decide_eq_true u, Bool.true_and] at h
      exact .inr (.inr ⟨e1, u, of_decide_eq_false h⟩)
    · exact .inr (.inl ⟨e1, u⟩)

set_option maxHeartbeats 8000000 in
theorem vChoose (A : Option Addr) (c : Nat) (l : List BI) (size now opn : Int) (w : World) (hl : l.length ≤ 1000) (h : Bs w A l) (hok : ∀ b ∈ l, u64 b.age) (gn : u64 now) :
    Calls Try.prog 12 #[.slice A l.length c, .int .i64 size, .int .u64 now, .int .i64 opn] w fun e w' => e = .returned (.tuple #[.int .i64 (chooseR l size now opn).1, .int .i64 (chooseR l size now opn).2]) ∧ Below w.heap.size w w' := by
  have hl0 : l.length ≤ 9223372036854775807 := by omega
  cases hv : vld l size with
  | false =>
    have hr := Lib.hid (show chooseR l size now opn = (0, 1) by unfold chooseR; rw [hv]; rfl)
    have hv' := Lib.hid hv
    clear hv
    go_enter Try.func12, Try.ntmps12
    go_wp2_with fail
    refine (bandValid A c l size _ hl h).mono ?_
    rintro e w1 ⟨rfl, hq⟩
    have hb1 := hq
    rw [hv'.out]
    go_wp2
    go_ret2
    exact ⟨by rw [hr.out]; rfl, hb1⟩
  | true =>
    by_cases hbig : 1048576 < size
    · have hr := Lib.hid (show chooseR l size now opn = (0, 1) by unfold chooseR; rw [if_neg (by omega)])
      have hv' := Lib.hid hv
      clear hv
      go_enter Try.func12, Try.ntmps12
      go_wp2_with fail
      refine (bandValid A c l size _ hl h).mono ?_
      rintro e w1 ⟨rfl, hq⟩
      have hb1 := hq
      rw [hv'.out]
      go_wp2
      go_ret2
      exact ⟨by rw [hr.out]; rfl, hb1⟩
    · have hsz : size ≤ 1048576 := by omega
      clear hbig
      have hr := Lib.hid (show chooseR l size now opn = (if chTo l size now opn l.length < 0 then (0, 9) else (chTo l size now opn l.length, 0)) by unfold chooseR; rw [if_pos ⟨hv, hsz⟩])
      have hv' := Lib.hid hv
      clear hv
      go_enter Try.func12, Try.ntmps12
      go_wp2_with fail
      refine (bandValid A c l size _ hl h).mono ?_
      rintro e w1 ⟨rfl, hq⟩
      have hb1 := hq
      rw [hv'.out]
      clear hq
      go_wp2
      go_loopw [10, 23] (fun b v wr => ∃ k : Nat, k ≤ l.length ∧ v = .int .i64 k ∧ b = .int .i64 (chTo l size now opn k) ∧ Below w.heap.size w wr) (fun _ v _ => l.length - (intOf v).toNat)
      case atStart => exact ⟨0, Nat.zero_le _, rfl, rfl, hb1⟩
      case round =>
        obtain ⟨k, hk, rfl, rfl, hB⟩ := hrel
        by_cases hlt : k < l.length
        · obtain ⟨ad, rfl, c0, c1, c2, c3⟩ := (h.below hB).at_ hlt
          have hrg := chTo_range l size now opn k
          have hvm := vld_mem hv'.out hlt
          have hz := hB.size
          have hBox := hB.alloc hz (.cells #[.int .i64 l[k].used, .int .i64 l[k].live, .int .u64 l[k].age, .int .u64 l[k].wear] 24)
          cases hc : cand l[k] size opn k with
          | false =>
            have hs := Lib.hid (ch_no (now := now) hlt hc)
            rcases cand_none hc with e1 | ⟨e1, u1⟩ | ⟨e1, u1, u2⟩
            · clear hc hvm
              generalize chTo l size now opn k = b at *
              go_wp2
              go_roundw
              case rel => exact ⟨k + 1, by omega, by go_num, by rw [hs.out], hBox⟩
              case measure => simp [intOf]; omega
            · have e2 : (l[k].used == 0) = true := beq_iff_eq.2 (by omega)
              clear hc hvm u1
              generalize chTo l size now opn k = b at *
              go_wp2
              go_roundw
              case rel => exact ⟨k + 1, by omega, by go_num, by rw [hs.out], hBox⟩
              case measure => simp [intOf]; omega
            · have e2 : (l[k].used == 0) = false := beq_eq_false_iff_ne.2 (by omega)
              have e3 : decide (size ≤ l[k].live) = true := decide_eq_true (by omega)
              clear hc hvm u1 u2
              generalize chTo l size now opn k = b at *
              go_wp2
              go_roundw
              case rel => exact ⟨k + 1, by omega, by go_num, by rw [hs.out], hBox⟩
              case measure => simp [intOf]; omega
          | true =>
            obtain ⟨e1, _, u1, u2⟩ := cand_parts hc
            have e2 : (l[k].used == 0) = false := beq_eq_false_iff_ne.2 (by omega)
            have e3 : decide (size ≤ l[k].live) = false := decide_eq_false (by omega)
            by_cases hb : chTo l size now opn k < 0
            · have hs := Lib.hid (ch_first hlt hc hb)
              have d : decide (chTo l size now opn k < 0) = true := decide_eq_true hb
              clear hc hvm u1 u2 hb
              generalize chTo l size now opn k = b at *
              go_wp2
              go_quiet (fail)
              go_wp2
              go_roundw
              case rel => exact ⟨k + 1, by omega, by go_num, by rw [hs.out], below_drewN hBox _⟩
              case measure => simp [intOf]; omega
            · obtain ⟨j, hj⟩ : ∃ j : Nat, chTo l size now opn k = j := ⟨(chTo l size now opn k).toNat, by omega⟩
              have hjl : j < l.length := by omega
              obtain ⟨ad', had, f0, f1, f2, f3⟩ := (h.below hB).at_ hjl
              cases had
              have d : decide ((j : Int) < 0) = false := by simp
              have hjk : (j : Int) < k := by omega
              have hkj := Lib.hid (fun W => vBetter l[k] l[j] size now W (hok _ (List.getElem_mem hlt)) (hok _ (List.getElem_mem hjl)) gn)
              have hjk2 := Lib.hid (fun W => vBetter l[j] l[k] size now W (hok _ (List.getElem_mem hjl)) (hok _ (List.getElem_mem hlt)) gn)
              have x := heap_alloc_new wr (.cells #[.int .i64 l[k].used, .int .i64 l[k].live, .int .u64 l[k].age, .int .u64 l[k].wear] 24)
              have bx0 : _ = some (Value.int .i64 l[k].used) := cell_of_row _ _ 0 _ _ _ x
              have bx1 : _ = some (Value.int .i64 l[k].live) := cell_of_row _ _ 1 _ _ _ x
              have bx2 : _ = some (Value.int .u64 l[k].age) := cell_of_row _ _ 2 _ _ _ x
              have bx3 : _ = some (Value.int .u64 l[k].wear) := cell_of_row _ _ 3 _ _ _ x
              have g0 := cell_alloc f0 (.cells #[.int .i64 l[k].used, .int .i64 l[k].live, .int .u64 l[k].age, .int .u64 l[k].wear] 24)
              have g1 := cell_alloc f1 (.cells #[.int .i64 l[k].used, .int .i64 l[k].live, .int .u64 l[k].age, .int .u64 l[k].wear] 24)
              have g2 := cell_alloc f2 (.cells #[.int .i64 l[k].used, .int .i64 l[k].live, .int .u64 l[k].age, .int .u64 l[k].wear] 24)
              have g3 := cell_alloc f3 (.cells #[.int .i64 l[k].used, .int .i64 l[k].live, .int .u64 l[k].age, .int .u64 l[k].wear] 24)
              have hS : ∀ W W' : World, (fun w' : World => w'.cell? ⟨wr.heap.size, 0, none⟩ = some (.int .i64 l[k].used) ∧ w'.cell? ⟨wr.heap.size, 1, none⟩ = some (.int .i64 l[k].live) ∧ w'.cell? ⟨wr.heap.size, 2, none⟩ = some (.int .u64 l[k].age) ∧ w'.cell? ⟨wr.heap.size, 3, none⟩ = some (.int .u64 l[k].wear) ∧ w'.cell? (ad.add (j * 4)) = some (.int .i64 l[j].used) ∧ w'.cell? ⟨(ad.add (j * 4)).block, (ad.add (j * 4)).off + 1, none⟩ = some (.int .i64 l[j].live) ∧ w'.cell? ⟨(ad.add (j * 4)).block, (ad.add (j * 4)).off + 2, none⟩ = some (.int .u64 l[j].age) ∧ w'.cell? ⟨(ad.add (j * 4)).block, (ad.add (j * 4)).off + 3, none⟩ = some (.int .u64 l[j].wear) ∧ Hid (Below w.heap.size w w')) W → Below W.heap.size W W' → (fun w' : World => w'.cell? ⟨wr.heap.size, 0, none⟩ = some (.int .i64 l[k].used) ∧ w'.cell? ⟨wr.heap.size, 1, none⟩ = some (.int .i64 l[k].live) ∧ w'.cell? ⟨wr.heap.size, 2, none⟩ = some (.int .u64 l[k].age) ∧ w'.cell? ⟨wr.heap.size, 3, none⟩ = some (.int .u64 l[k].wear) ∧ w'.cell? (ad.add (j * 4)) = some (.int .i64 l[j].used) ∧ w'.cell? ⟨(ad.add (j * 4)).block, (ad.add (j * 4)).off + 1, none⟩ = some (.int .i64 l[j].live) ∧ w'.cell? ⟨(ad.add (j * 4)).block, (ad.add (j * 4)).off + 2, none⟩ = some (.int .u64 l[j].age) ∧ w'.cell? ⟨(ad.add (j * 4)).block, (ad.add (j * 4)).off + 3, none⟩ = some (.int .u64 l[j].wear) ∧ Hid (Below w.heap.size w w')) W' := by
                rintro W W' ⟨k0, k1, k2, k3, k4, k5, k6, k7, k8⟩ hb
                exact ⟨cell_below hb k0, cell_below hb k1, cell_below hb k2, cell_below hb k3, cell_below hb k4, cell_below hb k5, cell_below hb k6, cell_below hb k7, below_then k8.out k8.out.size hb⟩
              replace hS := Lib.hid hS
              have hBh := Lib.hid hBox
              clear x hvm u1 u2 hb f0 f1 f2 f3 hBox
              cases q1 : betS l[k] l[j] size now with
              | true =>
                have hw : wins l[k] l[j] size now = true := by unfold wins; simp [*]
                have hs := Lib.hid (ch_take hlt hjl hc hj hw)
                rw [q1] at hkj
                rw [hj]
                clear hw hc hj hrg q1 hjk2
                go_wp2
                refine wp_region_noPanic ?_
                refine wp_region_held_drew (S := (fun w' : World => w'.cell? ⟨wr.heap.size, 0, none⟩ = some (.int .i64 l[k].used) ∧ w'.cell? ⟨wr.heap.size, 1, none⟩ = some (.int .i64 l[k].live) ∧ w'.cell? ⟨wr.heap.size, 2, none⟩ = some (.int .u64 l[k].age) ∧ w'.cell? ⟨wr.heap.size, 3, none⟩ = some (.int .u64 l[k].wear) ∧ w'.cell? (ad.add (j * 4)) = some (.int .i64 l[j].used) ∧ w'.cell? ⟨(ad.add (j * 4)).block, (ad.add (j * 4)).off + 1, none⟩ = some (.int .i64 l[j].live) ∧ w'.cell? ⟨(ad.add (j * 4)).block, (ad.add (j * 4)).off + 2, none⟩ = some (.int .u64 l[j].age) ∧ w'.cell? ⟨(ad.add (j * 4)).block, (ad.add (j * 4)).off + 3, none⟩ = some (.int .u64 l[j].wear) ∧ Hid (Below w.heap.size w w'))) (by kernel_rfl) ⟨bx0, bx1, bx2, bx3, g0, g1, g2, g3, below_drewN hBh.out 1⟩ (fun hHeld => ?_)
                refine' wpAnyH_take (i := 0) (oi := { dst := some 42, op := Go.Op.move (Go.Operand.tmp 10), type := 3, pos := "victim.go:79", after := #[], guard := none }) (v := _) rfl (by kernel_rfl) (by kernel_rfl) (by kernel_rfl) (fun _ _ _ h => h) (Or.inl ⟨by rfl, ?hy1⟩) (by assumption) ?rest1
                case hy1 => (intro w hSw; (try dsimp only at hSw); go_simp; try (with_reducible rfl))
                (try simp only [Act.put, List.setIfInBounds_toArray, List.set_cons_zero, List.set_cons_succ])
                refine' wpAnyH_take (i := 1) (oi := { dst := some 43, op := Go.Op.binOp Go.BinOp.lss 3 (Go.Operand.tmp 42) (Go.Operand.const (Go.Value.int Go.IntKind.i64 0)) 3, type := 4, pos := "victim.go:79", after := #[{ on := 0, ground := Go.Ground.data }], guard := none }) (v := _) rfl (by kernel_rfl) (by kernel_rfl) (by kernel_rfl) (fun _ _ _ h => h) (Or.inl ⟨by rfl, ?hy2⟩) (by assumption) ?rest2
                case hy2 => (intro w hSw; (try dsimp only at hSw); go_simp; try (with_reducible rfl))
                (try simp only [Act.put, List.setIfInBounds_toArray, List.set_cons_zero, List.set_cons_succ])
                refine' wpAnyH_take (i := 2) (oi := { dst := some 44, op := Go.Op.move (Go.Operand.tmp 43), type := 4, pos := "victim.go:79", after := #[{ on := 1, ground := Go.Ground.data }], guard := none }) (v := _) rfl (by kernel_rfl) (by kernel_rfl) (by kernel_rfl) (fun _ _ _ h => h) (Or.inl ⟨by rfl, ?hy3⟩) (by assumption) ?rest3
                case hy3 => (intro w hSw; (try dsimp only at hSw); go_simp; try (with_reducible rfl))
                (try simp only [Act.put, List.setIfInBounds_toArray, List.set_cons_zero, List.set_cons_succ])
                refine' wpAnyH_take (i := 3) (oi := { dst := some 45, op := Go.Op.load 24 (Go.Operand.tmp 12), type := 24, pos := "victim.go:79", after := #[{ on := 2, ground := Go.Ground.guard }], guard := some (2, false) }) (v := _) rfl (by kernel_rfl) (by kernel_rfl) (by kernel_rfl) (fun _ _ _ h => h) (Or.inl ⟨by rfl, ?hy4⟩) (by assumption) ?rest4
                case hy4 => (intro w hSw; (try dsimp only at hSw); go_simp; try (with_reducible rfl))
                (try simp only [Act.put, List.setIfInBounds_toArray, List.set_cons_zero, List.set_cons_succ])
                refine' wpAnyH_take (i := 4) (oi := { dst := some 46, op := Go.Op.move (Go.Operand.tmp 0), type := 29, pos := "victim.go:79", after := #[{ on := 2, ground := Go.Ground.guard }], guard := some (2, false) }) (v := _) rfl (by kernel_rfl) (by kernel_rfl) (by kernel_rfl) (fun _ _ _ h => h) (Or.inl ⟨by rfl, ?hy5⟩) (by assumption) ?rest5
                case hy5 => (intro w hSw; (try dsimp only at hSw); go_simp; try (with_reducible rfl))
                (try simp only [Act.put, List.setIfInBounds_toArray, List.set_cons_zero, List.set_cons_succ])
                refine' wpAnyH_take (i := 5) (oi := { dst := some 47, op := Go.Op.move (Go.Operand.tmp 10), type := 3, pos := "victim.go:79", after := #[{ on := 2, ground := Go.Ground.guard }], guard := some (2, false) }) (v := _) rfl (by kernel_rfl) (by kernel_rfl) (by kernel_rfl) (fun _ _ _ h => h) (Or.inl ⟨by rfl, ?hy6⟩) (by assumption) ?rest6
                case hy6 => (intro w hSw; (try dsimp only at hSw); go_simp; try (with_reducible rfl))
                (try simp only [Act.put, List.setIfInBounds_toArray, List.set_cons_zero, List.set_cons_succ])
                refine' wpAnyH_take (i := 6) (oi := { dst := some 48, op := Go.Op.indexAddr 29 (Go.Operand.tmp 46) (Go.Operand.tmp 47), type := 0, pos := "victim.go:79", after := #[{ on := 4, ground := Go.Ground.data }, { on := 5, ground := Go.Ground.data }, { on := 2, ground := Go.Ground.guard }], guard := some (2, false) }) (v := _) rfl (by kernel_rfl) (by kernel_rfl) (by kernel_rfl) (fun _ _ _ h => h) (Or.inl ⟨by rfl, ?hy7⟩) (by assumption) ?rest7
                case hy7 => (intro w hSw; (try dsimp only at hSw); go_simp; try (with_reducible rfl))
                (try simp only [Act.put, List.setIfInBounds_toArray, List.set_cons_zero, List.set_cons_succ])
                refine' wpAnyH_take (i := 7) (oi := { dst := some 49, op := Go.Op.load 24 (Go.Operand.tmp 48), type := 24, pos := "victim.go:79", after := #[{ on := 6, ground := Go.Ground.data }, { on := 2, ground := Go.Ground.guard }], guard := some (2, false) }) (v := _) rfl (by kernel_rfl) (by kernel_rfl) (by kernel_rfl) (fun _ _ _ h => h) (Or.inl ⟨by rfl, ?hy8⟩) (by assumption) ?rest8
                case hy8 => (intro w hSw; (try dsimp only at hSw); go_simp; try (with_reducible rfl))
                (try simp only [Act.put, List.setIfInBounds_toArray, List.set_cons_zero, List.set_cons_succ])
                refine' wpAnyH_take (i := 8) (oi := { dst := some 50, op := Go.Op.move (Go.Operand.tmp 1), type := 3, pos := "victim.go:79", after := #[{ on := 2, ground := Go.Ground.guard }], guard := some (2, false) }) (v := _) rfl (by kernel_rfl) (by kernel_rfl) (by kernel_rfl) (fun _ _ _ h => h) (Or.inl ⟨by rfl, ?hy9⟩) (by assumption) ?rest9
                case hy9 => (intro w hSw; (try dsimp only at hSw); go_simp; try (with_reducible rfl))
                (try simp only [Act.put, List.setIfInBounds_toArray, List.set_cons_zero, List.set_cons_succ])
                refine' wpAnyH_take (i := 9) (oi := { dst := some 51, op := Go.Op.move (Go.Operand.tmp 2), type := 22, pos := "victim.go:79", after := #[{ on := 2, ground := Go.Ground.guard }], guard := some (2, false) }) (v := _) rfl (by kernel_rfl) (by kernel_rfl) (by kernel_rfl) (fun _ _ _ h => h) (Or.inl ⟨by rfl, ?hy10⟩) (by assumption) ?rest10
                case hy10 => (intro w hSw; (try dsimp only at hSw); go_simp; try (with_reducible rfl))
                (try simp only [Act.put, List.setIfInBounds_toArray, List.set_cons_zero, List.set_cons_succ])
                refine wpAnyH_ready (rs := [10]) (by kernel_rfl) (by simp) ?_
                refine AllReadyH.cons (o := { dst := some 52, op := Go.Op.call { callee := Go.Callee.value (Go.Operand.func 10), args := #[Go.Operand.tmp 45, Go.Operand.tmp 49, Go.Operand.tmp 50, Go.Operand.tmp 51], argTypes := #[24, 24, 3, 22] }, type := 4, pos := "victim.go:79", after := #[{ on := 3, ground := Go.Ground.data }, { on := 7, ground := Go.Ground.data }, { on := 8, ground := Go.Ground.data }, { on := 9, ground := Go.Ground.data }, { on := 2, ground := Go.Ground.chain }, { on := 2, ground := Go.Ground.guard }], guard := some (2, false) }) rfl (fun K hK => ?_) AllReadyH.nil
                go_simp
                refine (callK (S := (fun w' : World => w'.cell? ⟨wr.heap.size, 0, none⟩ = some (.int .i64 l[k].used) ∧ w'.cell? ⟨wr.heap.size, 1, none⟩ = some (.int .i64 l[k].live) ∧ w'.cell? ⟨wr.heap.size, 2, none⟩ = some (.int .u64 l[k].age) ∧ w'.cell? ⟨wr.heap.size, 3, none⟩ = some (.int .u64 l[k].wear) ∧ w'.cell? (ad.add (j * 4)) = some (.int .i64 l[j].used) ∧ w'.cell? ⟨(ad.add (j * 4)).block, (ad.add (j * 4)).off + 1, none⟩ = some (.int .i64 l[j].live) ∧ w'.cell? ⟨(ad.add (j * 4)).block, (ad.add (j * 4)).off + 2, none⟩ = some (.int .u64 l[j].age) ∧ w'.cell? ⟨(ad.add (j * 4)).block, (ad.add (j * 4)).off + 3, none⟩ = some (.int .u64 l[j].wear) ∧ Hid (Below w.heap.size w w'))) hS.out (fun W _ => hkj.out W) (by assumption)).mono ?_
                rintro e w' ⟨rfl, hq0, hq1, hq2, hq3, hq4, hq5, hq6, hq7, hq8⟩
                refine hK.out _ _ ⟨hq0, hq1, hq2, hq3, hq4, hq5, hq6, hq7, hq8⟩ (fun hHeld => ?_)
                clear hK K
                (try simp only [Act.put, List.setIfInBounds_toArray, List.set_cons_zero, List.set_cons_succ])
                refine' wpAnyH_take (i := 11) (oi := { dst := some 53, op := Go.Op.pick (Go.Operand.tmp 44) (Go.Operand.const (Go.Value.bool true)) (Go.Operand.tmp 52), type := 4, pos := "victim.go:79", after := #[{ on := 2, ground := Go.Ground.data }, { on := 10, ground := Go.Ground.data }], guard := none }) (v := _) rfl (by kernel_rfl) (by kernel_rfl) (by kernel_rfl) (fun _ _ _ h => h) (Or.inl ⟨by rfl, ?hy11⟩) (by assumption) ?rest11
                case hy11 => (intro w hSw; (try dsimp only at hSw); go_simp; try (with_reducible rfl))
                (try simp only [Act.put, List.setIfInBounds_toArray, List.set_cons_zero, List.set_cons_succ])
                refine' wpAnyH_take (i := 12) (oi := { dst := some 54, op := Go.Op.move (Go.Operand.tmp 53), type := 4, pos := "victim.go:79", after := #[{ on := 11, ground := Go.Ground.data }, { on := 10, ground := Go.Ground.chain }], guard := none }) (v := _) rfl (by kernel_rfl) (by kernel_rfl) (by kernel_rfl) (fun _ _ _ h => h) (Or.inl ⟨by rfl, ?hy12⟩) (by assumption) ?rest12
                case hy12 => (intro w hSw; (try dsimp only at hSw); go_simp; try (with_reducible rfl))
                (try simp only [Act.put, List.setIfInBounds_toArray, List.set_cons_zero, List.set_cons_succ])
                refine wpAnyH_take (i := 13) (oi := { dst := some 55, op := Go.Op.move (Go.Operand.tmp 0), type := 29, pos := "victim.go:79", after := #[{ on := 12, ground := Go.Ground.guard }], guard := some (12, false) }) (v := undef) rfl (by kernel_rfl) (by kernel_rfl) (by kernel_rfl) (fun _ _ _ h => h) (Or.inr ⟨by rfl, rfl⟩) (by assumption) ?_
                (try simp only [Act.put, List.setIfInBounds_toArray, List.set_cons_zero, List.set_cons_succ])
                refine wpAnyH_take (i := 14) (oi := { dst := some 56, op := Go.Op.move (Go.Operand.tmp 10), type := 3, pos := "victim.go:79", after := #[{ on := 12, ground := Go.Ground.guard }], guard := some (12, false) }) (v := undef) rfl (by kernel_rfl) (by kernel_rfl) (by kernel_rfl) (fun _ _ _ h => h) (Or.inr ⟨by rfl, rfl⟩) (by assumption) ?_
                (try simp only [Act.put, List.setIfInBounds_toArray, List.set_cons_zero, List.set_cons_succ])
                refine wpAnyH_take (i := 15) (oi := { dst := some 57, op := Go.Op.indexAddr 29 (Go.Operand.tmp 55) (Go.Operand.tmp 56), type := 0, pos := "victim.go:79", after := #[{ on := 13, ground := Go.Ground.data }, { on := 14, ground := Go.Ground.data }, { on := 12, ground := Go.Ground.guard }], guard := some (12, false) }) (v := undef) rfl (by kernel_rfl) (by kernel_rfl) (by kernel_rfl) (fun _ _ _ h => h) (Or.inr ⟨by rfl, rfl⟩) (by assumption) ?_
                (try simp only [Act.put, List.setIfInBounds_toArray, List.set_cons_zero, List.set_cons_succ])
                refine wpAnyH_take (i := 16) (oi := { dst := some 58, op := Go.Op.load 24 (Go.Operand.tmp 57), type := 24, pos := "victim.go:79", after := #[{ on := 15, ground := Go.Ground.data }, { on := 12, ground := Go.Ground.guard }], guard := some (12, false) }) (v := undef) rfl (by kernel_rfl) (by kernel_rfl) (by kernel_rfl) (fun _ _ _ h => h) (Or.inr ⟨by rfl, rfl⟩) (by assumption) ?_
                (try simp only [Act.put, List.setIfInBounds_toArray, List.set_cons_zero, List.set_cons_succ])
                refine wpAnyH_take (i := 17) (oi := { dst := some 59, op := Go.Op.load 24 (Go.Operand.tmp 12), type := 24, pos := "victim.go:79", after := #[{ on := 12, ground := Go.Ground.guard }], guard := some (12, false) }) (v := undef) rfl (by kernel_rfl) (by kernel_rfl) (by kernel_rfl) (fun _ _ _ h => h) (Or.inr ⟨by rfl, rfl⟩) (by assumption) ?_
                (try simp only [Act.put, List.setIfInBounds_toArray, List.set_cons_zero, List.set_cons_succ])
                refine wpAnyH_take (i := 18) (oi := { dst := some 60, op := Go.Op.move (Go.Operand.tmp 1), type := 3, pos := "victim.go:79", after := #[{ on := 12, ground := Go.Ground.guard }], guard := some (12, false) }) (v := undef) rfl (by kernel_rfl) (by kernel_rfl) (by kernel_rfl) (fun _ _ _ h => h) (Or.inr ⟨by rfl, rfl⟩) (by assumption) ?_
                (try simp only [Act.put, List.setIfInBounds_toArray, List.set_cons_zero, List.set_cons_succ])
                refine wpAnyH_take (i := 19) (oi := { dst := some 61, op := Go.Op.move (Go.Operand.tmp 2), type := 22, pos := "victim.go:79", after := #[{ on := 12, ground := Go.Ground.guard }], guard := some (12, false) }) (v := undef) rfl (by kernel_rfl) (by kernel_rfl) (by kernel_rfl) (fun _ _ _ h => h) (Or.inr ⟨by rfl, rfl⟩) (by assumption) ?_
                (try simp only [Act.put, List.setIfInBounds_toArray, List.set_cons_zero, List.set_cons_succ])
                refine wpAnyH_take (i := 20) (oi := { dst := some 62, op := Go.Op.call { callee := Go.Callee.value (Go.Operand.func 10), args := #[Go.Operand.tmp 58, Go.Operand.tmp 59, Go.Operand.tmp 60, Go.Operand.tmp 61], argTypes := #[24, 24, 3, 22] }, type := 4, pos := "victim.go:79", after := #[{ on := 16, ground := Go.Ground.data }, { on := 17, ground := Go.Ground.data }, { on := 18, ground := Go.Ground.data }, { on := 19, ground := Go.Ground.data }, { on := 12, ground := Go.Ground.chain }, { on := 12, ground := Go.Ground.guard }], guard := some (12, false) }) (v := undef) rfl (by kernel_rfl) (by kernel_rfl) (by kernel_rfl) (fun _ _ _ h => h) (Or.inr ⟨by rfl, rfl⟩) (by assumption) ?_
                (try simp only [Act.put, List.setIfInBounds_toArray, List.set_cons_zero, List.set_cons_succ])
                refine wpAnyH_take (i := 21) (oi := { dst := some 63, op := Go.Op.unOp Go.UnOp.not 4 (Go.Operand.tmp 62), type := 4, pos := "victim.go:79", after := #[{ on := 20, ground := Go.Ground.data }, { on := 12, ground := Go.Ground.guard }], guard := some (12, false) }) (v := undef) rfl (by kernel_rfl) (by kernel_rfl) (by kernel_rfl) (fun _ _ _ h => h) (Or.inr ⟨by rfl, rfl⟩) (by assumption) ?_
                (try simp only [Act.put, List.setIfInBounds_toArray, List.set_cons_zero, List.set_cons_succ])
                refine wpAnyH_take (i := 22) (oi := { dst := some 64, op := Go.Op.move (Go.Operand.tmp 63), type := 4, pos := "victim.go:79", after := #[{ on := 21, ground := Go.Ground.data }, { on := 20, ground := Go.Ground.chain }, { on := 12, ground := Go.Ground.guard }], guard := some (12, false) }) (v := undef) rfl (by kernel_rfl) (by kernel_rfl) (by kernel_rfl) (fun _ _ _ h => h) (Or.inr ⟨by rfl, rfl⟩) (by assumption) ?_
                (try simp only [Act.put, List.setIfInBounds_toArray, List.set_cons_zero, List.set_cons_succ])
                refine wpAnyH_take (i := 23) (oi := { dst := some 65, op := Go.Op.fieldAddr 24 (Go.Operand.tmp 12) 3, type := 0, pos := "victim.go:79", after := #[{ on := 22, ground := Go.Ground.guard }], guard := some (22, true) }) (v := undef) rfl (by kernel_rfl) (by kernel_rfl) (by kernel_rfl) (fun _ _ _ h => h) (Or.inr ⟨by rfl, rfl⟩) (by assumption) ?_
                (try simp only [Act.put, List.setIfInBounds_toArray, List.set_cons_zero, List.set_cons_succ])
                refine wpAnyH_take (i := 24) (oi := { dst := some 66, op := Go.Op.load 22 (Go.Operand.tmp 65), type := 22, pos := "victim.go:79", after := #[{ on := 23, ground := Go.Ground.data }, { on := 22, ground := Go.Ground.guard }], guard := some (22, true) }) (v := undef) rfl (by kernel_rfl) (by kernel_rfl) (by kernel_rfl) (fun _ _ _ h => h) (Or.inr ⟨by rfl, rfl⟩) (by assumption) ?_
                (try simp only [Act.put, List.setIfInBounds_toArray, List.set_cons_zero, List.set_cons_succ])
                refine wpAnyH_take (i := 25) (oi := { dst := some 67, op := Go.Op.move (Go.Operand.tmp 0), type := 29, pos := "victim.go:79", after := #[{ on := 22, ground := Go.Ground.guard }], guard := some (22, true) }) (v := undef) rfl (by kernel_rfl) (by kernel_rfl) (by kernel_rfl) (fun _ _ _ h => h) (Or.inr ⟨by rfl, rfl⟩) (by assumption) ?_
                (try simp only [Act.put, List.setIfInBounds_toArray, List.set_cons_zero, List.set_cons_succ])
                refine wpAnyH_take (i := 26) (oi := { dst := some 68, op := Go.Op.move (Go.Operand.tmp 10), type := 3, pos := "victim.go:79", after := #[{ on := 22, ground := Go.Ground.guard }], guard := some (22, true) }) (v := undef) rfl (by kernel_rfl) (by kernel_rfl) (by kernel_rfl) (fun _ _ _ h => h) (Or.inr ⟨by rfl, rfl⟩) (by assumption) ?_
                (try simp only [Act.put, List.setIfInBounds_toArray, List.set_cons_zero, List.set_cons_succ])
                refine wpAnyH_take (i := 27) (oi := { dst := some 69, op := Go.Op.indexAddr 29 (Go.Operand.tmp 67) (Go.Operand.tmp 68), type := 0, pos := "victim.go:79", after := #[{ on := 25, ground := Go.Ground.data }, { on := 26, ground := Go.Ground.data }, { on := 22, ground := Go.Ground.guard }], guard := some (22, true) }) (v := undef) rfl (by kernel_rfl) (by kernel_rfl) (by kernel_rfl) (fun _ _ _ h => h) (Or.inr ⟨by rfl, rfl⟩) (by assumption) ?_
                (try simp only [Act.put, List.setIfInBounds_toArray, List.set_cons_zero, List.set_cons_succ])
                refine wpAnyH_take (i := 28) (oi := { dst := some 70, op := Go.Op.fieldAddr 24 (Go.Operand.tmp 69) 3, type := 0, pos := "victim.go:79", after := #[{ on := 27, ground := Go.Ground.data }, { on := 22, ground := Go.Ground.guard }], guard := some (22, true) }) (v := undef) rfl (by kernel_rfl) (by kernel_rfl) (by kernel_rfl) (fun _ _ _ h => h) (Or.inr ⟨by rfl, rfl⟩) (by assumption) ?_
                (try simp only [Act.put, List.setIfInBounds_toArray, List.set_cons_zero, List.set_cons_succ])
                refine wpAnyH_take (i := 29) (oi := { dst := some 71, op := Go.Op.load 22 (Go.Operand.tmp 70), type := 22, pos := "victim.go:79", after := #[{ on := 28, ground := Go.Ground.data }, { on := 22, ground := Go.Ground.guard }], guard := some (22, true) }) (v := undef) rfl (by kernel_rfl) (by kernel_rfl) (by kernel_rfl) (fun _ _ _ h => h) (Or.inr ⟨by rfl, rfl⟩) (by assumption) ?_
                (try simp only [Act.put, List.setIfInBounds_toArray, List.set_cons_zero, List.set_cons_succ])
                refine wpAnyH_take (i := 30) (oi := { dst := some 72, op := Go.Op.binOp Go.BinOp.lss 22 (Go.Operand.tmp 66) (Go.Operand.tmp 71) 22, type := 4, pos := "victim.go:79", after := #[{ on := 24, ground := Go.Ground.data }, { on := 29, ground := Go.Ground.data }, { on := 22, ground := Go.Ground.guard }], guard := some (22, true) }) (v := undef) rfl (by kernel_rfl) (by kernel_rfl) (by kernel_rfl) (fun _ _ _ h => h) (Or.inr ⟨by rfl, rfl⟩) (by assumption) ?_
                (try simp only [Act.put, List.setIfInBounds_toArray, List.set_cons_zero, List.set_cons_succ])
                refine wpAnyH_take (i := 31) (oi := { dst := some 73, op := Go.Op.pick (Go.Operand.tmp 64) (Go.Operand.tmp 72) (Go.Operand.const (Go.Value.bool false)), type := 4, pos := "victim.go:79", after := #[{ on := 22, ground := Go.Ground.data }, { on := 30, ground := Go.Ground.data }, { on := 12, ground := Go.Ground.guard }], guard := some (12, false) }) (v := undef) rfl (by kernel_rfl) (by kernel_rfl) (by kernel_rfl) (fun _ _ _ h => h) (Or.inr ⟨by rfl, rfl⟩) (by assumption) ?_
                (try simp only [Act.put, List.setIfInBounds_toArray, List.set_cons_zero, List.set_cons_succ])
                refine' wpAnyH_take (i := 32) (oi := { dst := some 74, op := Go.Op.pick (Go.Operand.tmp 54) (Go.Operand.const (Go.Value.bool true)) (Go.Operand.tmp 73), type := 4, pos := "victim.go:79", after := #[{ on := 12, ground := Go.Ground.data }, { on := 31, ground := Go.Ground.data }], guard := none }) (v := _) rfl (by kernel_rfl) (by kernel_rfl) (by kernel_rfl) (fun _ _ _ h => h) (Or.inl ⟨by rfl, ?hy13⟩) (by assumption) ?rest13
                case hy13 => (intro w hSw; (try dsimp only at hSw); go_simp; try (with_reducible rfl))
                (try simp only [Act.put, List.setIfInBounds_toArray, List.set_cons_zero, List.set_cons_succ])
                refine wpAnyH_done (by kernel_rfl) ?_ _
                refine NoPanic.normal ?_
                all_goals go_wp2
                all_goals go_roundw
                all_goals (first | (case rel => exact ⟨k + 1, by omega, by go_num, by rw [hs.out], hq8.out⟩) | skip)
                all_goals (simp [intOf]; omega)
              | false =>
                cases q2 : betS l[j] l[k] size now with
                | true =>
                  have hw : wins l[k] l[j] size now = false := by unfold wins; simp [*]
                  have hs := Lib.hid (ch_keep (opn := opn) hlt hjl hj hw)
                  rw [q1] at hkj
                  rw [q2] at hjk2
                  rw [hj]
                  clear hw hc hj hrg q1 q2
                  go_wp2
                  refine wp_region_noPanic ?_
                  refine wp_region_held_drew (S := (fun w' : World => w'.cell? ⟨wr.heap.size, 0, none⟩ = some (.int .i64 l[k].used) ∧ w'.cell? ⟨wr.heap.size, 1, none⟩ = some (.int .i64 l[k].live) ∧ w'.cell? ⟨wr.heap.size, 2, none⟩ = some (.int .u64 l[k].age) ∧ w'.cell? ⟨wr.heap.size, 3, none⟩ = some (.int .u64 l[k].wear) ∧ w'.cell? (ad.add (j * 4)) = some (.int .i64 l[j].used) ∧ w'.cell? ⟨(ad.add (j * 4)).block, (ad.add (j * 4)).off + 1, none⟩ = some (.int .i64 l[j].live) ∧ w'.cell? ⟨(ad.add (j * 4)).block, (ad.add (j * 4)).off + 2, none⟩ = some (.int .u64 l[j].age) ∧ w'.cell? ⟨(ad.add (j * 4)).block, (ad.add (j * 4)).off + 3, none⟩ = some (.int .u64 l[j].wear) ∧ Hid (Below w.heap.size w w'))) (by kernel_rfl) ⟨bx0, bx1, bx2, bx3, g0, g1, g2, g3, below_drewN hBh.out 1⟩ (fun hHeld => ?_)
                  refine' wpAnyH_take (i := 0) (oi := { dst := some 42, op := Go.Op.move (Go.Operand.tmp 10), type := 3, pos := "victim.go:79", after := #[], guard := none }) (v := _) rfl (by kernel_rfl) (by kernel_rfl) (by kernel_rfl) (fun _ _ _ h => h) (Or.inl ⟨by rfl, ?hy14⟩) (by assumption) ?rest14
                  case hy14 => (intro w hSw; (try dsimp only at hSw); go_simp; try (with_reducible rfl))
                  (try simp only [Act.put, List.setIfInBounds_toArray, List.set_cons_zero, List.set_cons_succ])
                  refine' wpAnyH_take (i := 1) (oi := { dst := some 43, op := Go.Op.binOp Go.BinOp.lss 3 (Go.Operand.tmp 42) (Go.Operand.const (Go.Value.int Go.IntKind.i64 0)) 3, type := 4, pos := "victim.go:79", after := #[{ on := 0, ground := Go.Ground.data }], guard := none }) (v := _) rfl (by kernel_rfl) (by kernel_rfl) (by kernel_rfl) (fun _ _ _ h => h) (Or.inl ⟨by rfl, ?hy15⟩) (by assumption) ?rest15
                  case hy15 => (intro w hSw; (try dsimp only at hSw); go_simp; try (with_reducible rfl))
                  (try simp only [Act.put, List.setIfInBounds_toArray, List.set_cons_zero, List.set_cons_succ])
                  refine' wpAnyH_take (i := 2) (oi := { dst := some 44, op := Go.Op.move (Go.Operand.tmp 43), type := 4, pos := "victim.go:79", after := #[{ on := 1, ground := Go.Ground.data }], guard := none }) (v := _) rfl (by kernel_rfl) (by kernel_rfl) (by kernel_rfl) (fun _ _ _ h => h) (Or.inl ⟨by rfl, ?hy16⟩) (by assumption) ?rest16
                  case hy16 => (intro w hSw; (try dsimp only at hSw); go_simp; try (with_reducible rfl))
                  (try simp only [Act.put, List.setIfInBounds_toArray, List.set_cons_zero, List.set_cons_succ])
                  refine' wpAnyH_take (i := 3) (oi := { dst := some 45, op := Go.Op.load 24 (Go.Operand.tmp 12), type := 24, pos := "victim.go:79", after := #[{ on := 2, ground := Go.Ground.guard }], guard := some (2, false) }) (v := _) rfl (by kernel_rfl) (by kernel_rfl) (by kernel_rfl) (fun _ _ _ h => h) (Or.inl ⟨by rfl, ?hy17⟩) (by assumption) ?rest17
                  case hy17 => (intro w hSw; (try dsimp only at hSw); go_simp; try (with_reducible rfl))
                  (try simp only [Act.put, List.setIfInBounds_toArray, List.set_cons_zero, List.set_cons_succ])
                  refine' wpAnyH_take (i := 4) (oi := { dst := some 46, op := Go.Op.move (Go.Operand.tmp 0), type := 29, pos := "victim.go:79", after := #[{ on := 2, ground := Go.Ground.guard }], guard := some (2, false) }) (v := _) rfl (by kernel_rfl) (by kernel_rfl) (by kernel_rfl) (fun _ _ _ h => h) (Or.inl ⟨by rfl, ?hy18⟩) (by assumption) ?rest18
                  case hy18 => (intro w hSw; (try dsimp only at hSw); go_simp; try (with_reducible rfl))
                  (try simp only [Act.put, List.setIfInBounds_toArray, List.set_cons_zero, List.set_cons_succ])
                  refine' wpAnyH_take (i := 5) (oi := { dst := some 47, op := Go.Op.move (Go.Operand.tmp 10), type := 3, pos := "victim.go:79", after := #[{ on := 2, ground := Go.Ground.guard }], guard := some (2, false) }) (v := _) rfl (by kernel_rfl) (by kernel_rfl) (by kernel_rfl) (fun _ _ _ h => h) (Or.inl ⟨by rfl, ?hy19⟩) (by assumption) ?rest19
                  case hy19 => (intro w hSw; (try dsimp only at hSw); go_simp; try (with_reducible rfl))
                  (try simp only [Act.put, List.setIfInBounds_toArray, List.set_cons_zero, List.set_cons_succ])
                  refine' wpAnyH_take (i := 6) (oi := { dst := some 48, op := Go.Op.indexAddr 29 (Go.Operand.tmp 46) (Go.Operand.tmp 47), type := 0, pos := "victim.go:79", after := #[{ on := 4, ground := Go.Ground.data }, { on := 5, ground := Go.Ground.data }, { on := 2, ground := Go.Ground.guard }], guard := some (2, false) }) (v := _) rfl (by kernel_rfl) (by kernel_rfl) (by kernel_rfl) (fun _ _ _ h => h) (Or.inl ⟨by rfl, ?hy20⟩) (by assumption) ?rest20
                  case hy20 => (intro w hSw; (try dsimp only at hSw); go_simp; try (with_reducible rfl))
                  (try simp only [Act.put, List.setIfInBounds_toArray, List.set_cons_zero, List.set_cons_succ])
                  refine' wpAnyH_take (i := 7) (oi := { dst := some 49, op := Go.Op.load 24 (Go.Operand.tmp 48), type := 24, pos := "victim.go:79", after := #[{ on := 6, ground := Go.Ground.data }, { on := 2, ground := Go.Ground.guard }], guard := some (2, false) }) (v := _) rfl (by kernel_rfl) (by kernel_rfl) (by kernel_rfl) (fun _ _ _ h => h) (Or.inl ⟨by rfl, ?hy21⟩) (by assumption) ?rest21
                  case hy21 => (intro w hSw; (try dsimp only at hSw); go_simp; try (with_reducible rfl))
                  (try simp only [Act.put, List.setIfInBounds_toArray, List.set_cons_zero, List.set_cons_succ])
                  refine' wpAnyH_take (i := 8) (oi := { dst := some 50, op := Go.Op.move (Go.Operand.tmp 1), type := 3, pos := "victim.go:79", after := #[{ on := 2, ground := Go.Ground.guard }], guard := some (2, false) }) (v := _) rfl (by kernel_rfl) (by kernel_rfl) (by kernel_rfl) (fun _ _ _ h => h) (Or.inl ⟨by rfl, ?hy22⟩) (by assumption) ?rest22
                  case hy22 => (intro w hSw; (try dsimp only at hSw); go_simp; try (with_reducible rfl))
                  (try simp only [Act.put, List.setIfInBounds_toArray, List.set_cons_zero, List.set_cons_succ])
                  refine' wpAnyH_take (i := 9) (oi := { dst := some 51, op := Go.Op.move (Go.Operand.tmp 2), type := 22, pos := "victim.go:79", after := #[{ on := 2, ground := Go.Ground.guard }], guard := some (2, false) }) (v := _) rfl (by kernel_rfl) (by kernel_rfl) (by kernel_rfl) (fun _ _ _ h => h) (Or.inl ⟨by rfl, ?hy23⟩) (by assumption) ?rest23
                  case hy23 => (intro w hSw; (try dsimp only at hSw); go_simp; try (with_reducible rfl))
                  (try simp only [Act.put, List.setIfInBounds_toArray, List.set_cons_zero, List.set_cons_succ])
                  refine wpAnyH_ready (rs := [10]) (by kernel_rfl) (by simp) ?_
                  refine AllReadyH.cons (o := { dst := some 52, op := Go.Op.call { callee := Go.Callee.value (Go.Operand.func 10), args := #[Go.Operand.tmp 45, Go.Operand.tmp 49, Go.Operand.tmp 50, Go.Operand.tmp 51], argTypes := #[24, 24, 3, 22] }, type := 4, pos := "victim.go:79", after := #[{ on := 3, ground := Go.Ground.data }, { on := 7, ground := Go.Ground.data }, { on := 8, ground := Go.Ground.data }, { on := 9, ground := Go.Ground.data }, { on := 2, ground := Go.Ground.chain }, { on := 2, ground := Go.Ground.guard }], guard := some (2, false) }) rfl (fun K hK => ?_) AllReadyH.nil
                  go_simp
                  refine (callK (S := (fun w' : World => w'.cell? ⟨wr.heap.size, 0, none⟩ = some (.int .i64 l[k].used) ∧ w'.cell? ⟨wr.heap.size, 1, none⟩ = some (.int .i64 l[k].live) ∧ w'.cell? ⟨wr.heap.size, 2, none⟩ = some (.int .u64 l[k].age) ∧ w'.cell? ⟨wr.heap.size, 3, none⟩ = some (.int .u64 l[k].wear) ∧ w'.cell? (ad.add (j * 4)) = some (.int .i64 l[j].used) ∧ w'.cell? ⟨(ad.add (j * 4)).block, (ad.add (j * 4)).off + 1, none⟩ = some (.int .i64 l[j].live) ∧ w'.cell? ⟨(ad.add (j * 4)).block, (ad.add (j * 4)).off + 2, none⟩ = some (.int .u64 l[j].age) ∧ w'.cell? ⟨(ad.add (j * 4)).block, (ad.add (j * 4)).off + 3, none⟩ = some (.int .u64 l[j].wear) ∧ Hid (Below w.heap.size w w'))) hS.out (fun W _ => hkj.out W) (by assumption)).mono ?_
                  rintro e w' ⟨rfl, hq0, hq1, hq2, hq3, hq4, hq5, hq6, hq7, hq8⟩
                  refine hK.out _ _ ⟨hq0, hq1, hq2, hq3, hq4, hq5, hq6, hq7, hq8⟩ (fun hHeld => ?_)
                  clear hK K
                  (try simp only [Act.put, List.setIfInBounds_toArray, List.set_cons_zero, List.set_cons_succ])
                  refine' wpAnyH_take (i := 11) (oi := { dst := some 53, op := Go.Op.pick (Go.Operand.tmp 44) (Go.Operand.const (Go.Value.bool true)) (Go.Operand.tmp 52), type := 4, pos := "victim.go:79", after := #[{ on := 2, ground := Go.Ground.data }, { on := 10, ground := Go.Ground.data }], guard := none }) (v := _) rfl (by kernel_rfl) (by kernel_rfl) (by kernel_rfl) (fun _ _ _ h => h) (Or.inl ⟨by rfl, ?hy24⟩) (by assumption) ?rest24
                  case hy24 => (intro w hSw; (try dsimp only at hSw); go_simp; try (with_reducible rfl))
                  (try simp only [Act.put, List.setIfInBounds_toArray, List.set_cons_zero, List.set_cons_succ])
                  refine' wpAnyH_take (i := 12) (oi := { dst := some 54, op := Go.Op.move (Go.Operand.tmp 53), type := 4, pos := "victim.go:79", after := #[{ on := 11, ground := Go.Ground.data }, { on := 10, ground := Go.Ground.chain }], guard := none }) (v := _) rfl (by kernel_rfl) (by kernel_rfl) (by kernel_rfl) (fun _ _ _ h => h) (Or.inl ⟨by rfl, ?hy25⟩) (by assumption) ?rest25
                  case hy25 => (intro w hSw; (try dsimp only at hSw); go_simp; try (with_reducible rfl))
                  (try simp only [Act.put, List.setIfInBounds_toArray, List.set_cons_zero, List.set_cons_succ])
                  refine' wpAnyH_take (i := 13) (oi := { dst := some 55, op := Go.Op.move (Go.Operand.tmp 0), type := 29, pos := "victim.go:79", after := #[{ on := 12, ground := Go.Ground.guard }], guard := some (12, false) }) (v := _) rfl (by kernel_rfl) (by kernel_rfl) (by kernel_rfl) (fun _ _ _ h => h) (Or.inl ⟨by rfl, ?hy26⟩) (by assumption) ?rest26
                  case hy26 => (intro w hSw; (try dsimp only at hSw); go_simp; try (with_reducible rfl))
                  (try simp only [Act.put, List.setIfInBounds_toArray, List.set_cons_zero, List.set_cons_succ])
                  refine' wpAnyH_take (i := 14) (oi := { dst := some 56, op := Go.Op.move (Go.Operand.tmp 10), type := 3, pos := "victim.go:79", after := #[{ on := 12, ground := Go.Ground.guard }], guard := some (12, false) }) (v := _) rfl (by kernel_rfl) (by kernel_rfl) (by kernel_rfl) (fun _ _ _ h => h) (Or.inl ⟨by rfl, ?hy27⟩) (by assumption) ?rest27
                  case hy27 => (intro w hSw; (try dsimp only at hSw); go_simp; try (with_reducible rfl))
                  (try simp only [Act.put, List.setIfInBounds_toArray, List.set_cons_zero, List.set_cons_succ])
                  refine' wpAnyH_take (i := 15) (oi := { dst := some 57, op := Go.Op.indexAddr 29 (Go.Operand.tmp 55) (Go.Operand.tmp 56), type := 0, pos := "victim.go:79", after := #[{ on := 13, ground := Go.Ground.data }, { on := 14, ground := Go.Ground.data }, { on := 12, ground := Go.Ground.guard }], guard := some (12, false) }) (v := _) rfl (by kernel_rfl) (by kernel_rfl) (by kernel_rfl) (fun _ _ _ h => h) (Or.inl ⟨by rfl, ?hy28⟩) (by assumption) ?rest28
                  case hy28 => (intro w hSw; (try dsimp only at hSw); go_simp; try (with_reducible rfl))
                  (try simp only [Act.put, List.setIfInBounds_toArray, List.set_cons_zero, List.set_cons_succ])
                  refine' wpAnyH_take (i := 16) (oi := { dst := some 58, op := Go.Op.load 24 (Go.Operand.tmp 57), type := 24, pos := "victim.go:79", after := #[{ on := 15, ground := Go.Ground.data }, { on := 12, ground := Go.Ground.guard }], guard := some (12, false) }) (v := _) rfl (by kernel_rfl) (by kernel_rfl) (by kernel_rfl) (fun _ _ _ h => h) (Or.inl ⟨by rfl, ?hy29⟩) (by assumption) ?rest29
                  case hy29 => (intro w hSw; (try dsimp only at hSw); go_simp; try (with_reducible rfl))
                  (try simp only [Act.put, List.setIfInBounds_toArray, List.set_cons_zero, List.set_cons_succ])
                  refine' wpAnyH_take (i := 17) (oi := { dst := some 59, op := Go.Op.load 24 (Go.Operand.tmp 12), type := 24, pos := "victim.go:79", after := #[{ on := 12, ground := Go.Ground.guard }], guard := some (12, false) }) (v := _) rfl (by kernel_rfl) (by kernel_rfl) (by kernel_rfl) (fun _ _ _ h => h) (Or.inl ⟨by rfl, ?hy30⟩) (by assumption) ?rest30
                  case hy30 => (intro w hSw; (try dsimp only at hSw); go_simp; try (with_reducible rfl))
                  (try simp only [Act.put, List.setIfInBounds_toArray, List.set_cons_zero, List.set_cons_succ])
                  refine' wpAnyH_take (i := 18) (oi := { dst := some 60, op := Go.Op.move (Go.Operand.tmp 1), type := 3, pos := "victim.go:79", after := #[{ on := 12, ground := Go.Ground.guard }], guard := some (12, false) }) (v := _) rfl (by kernel_rfl) (by kernel_rfl) (by kernel_rfl) (fun _ _ _ h => h) (Or.inl ⟨by rfl, ?hy31⟩) (by assumption) ?rest31
                  case hy31 => (intro w hSw; (try dsimp only at hSw); go_simp; try (with_reducible rfl))
                  (try simp only [Act.put, List.setIfInBounds_toArray, List.set_cons_zero, List.set_cons_succ])
                  refine' wpAnyH_take (i := 19) (oi := { dst := some 61, op := Go.Op.move (Go.Operand.tmp 2), type := 22, pos := "victim.go:79", after := #[{ on := 12, ground := Go.Ground.guard }], guard := some (12, false) }) (v := _) rfl (by kernel_rfl) (by kernel_rfl) (by kernel_rfl) (fun _ _ _ h => h) (Or.inl ⟨by rfl, ?hy32⟩) (by assumption) ?rest32
                  case hy32 => (intro w hSw; (try dsimp only at hSw); go_simp; try (with_reducible rfl))
                  (try simp only [Act.put, List.setIfInBounds_toArray, List.set_cons_zero, List.set_cons_succ])
                  refine wpAnyH_ready (rs := [20]) (by kernel_rfl) (by simp) ?_
                  refine AllReadyH.cons (o := { dst := some 62, op := Go.Op.call { callee := Go.Callee.value (Go.Operand.func 10), args := #[Go.Operand.tmp 58, Go.Operand.tmp 59, Go.Operand.tmp 60, Go.Operand.tmp 61], argTypes := #[24, 24, 3, 22] }, type := 4, pos := "victim.go:79", after := #[{ on := 16, ground := Go.Ground.data }, { on := 17, ground := Go.Ground.data }, { on := 18, ground := Go.Ground.data }, { on := 19, ground := Go.Ground.data }, { on := 12, ground := Go.Ground.chain }, { on := 12, ground := Go.Ground.guard }], guard := some (12, false) }) rfl (fun K hK => ?_) AllReadyH.nil
                  go_simp
                  refine (callK (S := (fun w' : World => w'.cell? ⟨wr.heap.size, 0, none⟩ = some (.int .i64 l[k].used) ∧ w'.cell? ⟨wr.heap.size, 1, none⟩ = some (.int .i64 l[k].live) ∧ w'.cell? ⟨wr.heap.size, 2, none⟩ = some (.int .u64 l[k].age) ∧ w'.cell? ⟨wr.heap.size, 3, none⟩ = some (.int .u64 l[k].wear) ∧ w'.cell? (ad.add (j * 4)) = some (.int .i64 l[j].used) ∧ w'.cell? ⟨(ad.add (j * 4)).block, (ad.add (j * 4)).off + 1, none⟩ = some (.int .i64 l[j].live) ∧ w'.cell? ⟨(ad.add (j * 4)).block, (ad.add (j * 4)).off + 2, none⟩ = some (.int .u64 l[j].age) ∧ w'.cell? ⟨(ad.add (j * 4)).block, (ad.add (j * 4)).off + 3, none⟩ = some (.int .u64 l[j].wear) ∧ Hid (Below w.heap.size w w'))) hS.out (fun W _ => hjk2.out W) (by assumption)).mono ?_
                  rintro e w' ⟨rfl, hq0, hq1, hq2, hq3, hq4, hq5, hq6, hq7, hq8⟩
                  refine hK.out _ _ ⟨hq0, hq1, hq2, hq3, hq4, hq5, hq6, hq7, hq8⟩ (fun hHeld => ?_)
                  clear hK K
                  (try simp only [Act.put, List.setIfInBounds_toArray, List.set_cons_zero, List.set_cons_succ])
                  refine' wpAnyH_take (i := 21) (oi := { dst := some 63, op := Go.Op.unOp Go.UnOp.not 4 (Go.Operand.tmp 62), type := 4, pos := "victim.go:79", after := #[{ on := 20, ground := Go.Ground.data }, { on := 12, ground := Go.Ground.guard }], guard := some (12, false) }) (v := _) rfl (by kernel_rfl) (by kernel_rfl) (by kernel_rfl) (fun _ _ _ h => h) (Or.inl ⟨by rfl, ?hy33⟩) (by assumption) ?rest33
                  case hy33 => (intro w hSw; (try dsimp only at hSw); go_simp; try (with_reducible rfl))
                  (try simp only [Act.put, List.setIfInBounds_toArray, List.set_cons_zero, List.set_cons_succ])
                  refine' wpAnyH_take (i := 22) (oi := { dst := some 64, op := Go.Op.move (Go.Operand.tmp 63), type := 4, pos := "victim.go:79", after := #[{ on := 21, ground := Go.Ground.data }, { on := 20, ground := Go.Ground.chain }, { on := 12, ground := Go.Ground.guard }], guard := some (12, false) }) (v := _) rfl (by kernel_rfl) (by kernel_rfl) (by kernel_rfl) (fun _ _ _ h => h) (Or.inl ⟨by rfl, ?hy34⟩) (by assumption) ?rest34
                  case hy34 => (intro w hSw; (try dsimp only at hSw); go_simp; try (with_reducible rfl))
                  (try simp only [Act.put, List.setIfInBounds_toArray, List.set_cons_zero, List.set_cons_succ])
                  refine wpAnyH_take (i := 23) (oi := { dst := some 65, op := Go.Op.fieldAddr 24 (Go.Operand.tmp 12) 3, type := 0, pos := "victim.go:79", after := #[{ on := 22, ground := Go.Ground.guard }], guard := some (22, true) }) (v := undef) rfl (by kernel_rfl) (by kernel_rfl) (by kernel_rfl) (fun _ _ _ h => h) (Or.inr ⟨by rfl, rfl⟩) (by assumption) ?_
                  (try simp only [Act.put, List.setIfInBounds_toArray, List.set_cons_zero, List.set_cons_succ])
                  refine wpAnyH_take (i := 24) (oi := { dst := some 66, op := Go.Op.load 22 (Go.Operand.tmp 65), type := 22, pos := "victim.go:79", after := #[{ on := 23, ground := Go.Ground.data }, { on := 22, ground := Go.Ground.guard }], guard := some (22, true) }) (v := undef) rfl (by kernel_rfl) (by kernel_rfl) (by kernel_rfl) (fun _ _ _ h => h) (Or.inr ⟨by rfl, rfl⟩) (by assumption) ?_
                  (try simp only [Act.put, List.setIfInBounds_toArray, List.set_cons_zero, List.set_cons_succ])
                  refine wpAnyH_take (i := 25) (oi := { dst := some 67, op := Go.Op.move (Go.Operand.tmp 0), type := 29, pos := "victim.go:79", after := #[{ on := 22, ground := Go.Ground.guard }], guard := some (22, true) }) (v := undef) rfl (by kernel_rfl) (by kernel_rfl) (by kernel_rfl) (fun _ _ _ h => h) (Or.inr ⟨by rfl, rfl⟩) (by assumption) ?_
                  (try simp only [Act.put, List.setIfInBounds_toArray, List.set_cons_zero, List.set_cons_succ])
                  refine wpAnyH_take (i := 26) (oi := { dst := some 68, op := Go.Op.move (Go.Operand.tmp 10), type := 3, pos := "victim.go:79", after := #[{ on := 22, ground := Go.Ground.guard }], guard := some (22, true) }) (v := undef) rfl (by kernel_rfl) (by kernel_rfl) (by kernel_rfl) (fun _ _ _ h => h) (Or.inr ⟨by rfl, rfl⟩) (by assumption) ?_
                  (try simp only [Act.put, List.setIfInBounds_toArray, List.set_cons_zero, List.set_cons_succ])
                  refine wpAnyH_take (i := 27) (oi := { dst := some 69, op := Go.Op.indexAddr 29 (Go.Operand.tmp 67) (Go.Operand.tmp 68), type := 0, pos := "victim.go:79", after := #[{ on := 25, ground := Go.Ground.data }, { on := 26, ground := Go.Ground.data }, { on := 22, ground := Go.Ground.guard }], guard := some (22, true) }) (v := undef) rfl (by kernel_rfl) (by kernel_rfl) (by kernel_rfl) (fun _ _ _ h => h) (Or.inr ⟨by rfl, rfl⟩) (by assumption) ?_
                  (try simp only [Act.put, List.setIfInBounds_toArray, List.set_cons_zero, List.set_cons_succ])
                  refine wpAnyH_take (i := 28) (oi := { dst := some 70, op := Go.Op.fieldAddr 24 (Go.Operand.tmp 69) 3, type := 0, pos := "victim.go:79", after := #[{ on := 27, ground := Go.Ground.data }, { on := 22, ground := Go.Ground.guard }], guard := some (22, true) }) (v := undef) rfl (by kernel_rfl) (by kernel_rfl) (by kernel_rfl) (fun _ _ _ h => h) (Or.inr ⟨by rfl, rfl⟩) (by assumption) ?_
                  (try simp only [Act.put, List.setIfInBounds_toArray, List.set_cons_zero, List.set_cons_succ])
                  refine wpAnyH_take (i := 29) (oi := { dst := some 71, op := Go.Op.load 22 (Go.Operand.tmp 70), type := 22, pos := "victim.go:79", after := #[{ on := 28, ground := Go.Ground.data }, { on := 22, ground := Go.Ground.guard }], guard := some (22, true) }) (v := undef) rfl (by kernel_rfl) (by kernel_rfl) (by kernel_rfl) (fun _ _ _ h => h) (Or.inr ⟨by rfl, rfl⟩) (by assumption) ?_
                  (try simp only [Act.put, List.setIfInBounds_toArray, List.set_cons_zero, List.set_cons_succ])
                  refine wpAnyH_take (i := 30) (oi := { dst := some 72, op := Go.Op.binOp Go.BinOp.lss 22 (Go.Operand.tmp 66) (Go.Operand.tmp 71) 22, type := 4, pos := "victim.go:79", after := #[{ on := 24, ground := Go.Ground.data }, { on := 29, ground := Go.Ground.data }, { on := 22, ground := Go.Ground.guard }], guard := some (22, true) }) (v := undef) rfl (by kernel_rfl) (by kernel_rfl) (by kernel_rfl) (fun _ _ _ h => h) (Or.inr ⟨by rfl, rfl⟩) (by assumption) ?_
                  (try simp only [Act.put, List.setIfInBounds_toArray, List.set_cons_zero, List.set_cons_succ])
                  refine' wpAnyH_take (i := 31) (oi := { dst := some 73, op := Go.Op.pick (Go.Operand.tmp 64) (Go.Operand.tmp 72) (Go.Operand.const (Go.Value.bool false)), type := 4, pos := "victim.go:79", after := #[{ on := 22, ground := Go.Ground.data }, { on := 30, ground := Go.Ground.data }, { on := 12, ground := Go.Ground.guard }], guard := some (12, false) }) (v := _) rfl (by kernel_rfl) (by kernel_rfl) (by kernel_rfl) (fun _ _ _ h => h) (Or.inl ⟨by rfl, ?hy35⟩) (by assumption) ?rest35
                  case hy35 => (intro w hSw; (try dsimp only at hSw); go_simp; try (with_reducible rfl))
                  (try simp only [Act.put, List.setIfInBounds_toArray, List.set_cons_zero, List.set_cons_succ])
                  refine' wpAnyH_take (i := 32) (oi := { dst := some 74, op := Go.Op.pick (Go.Operand.tmp 54) (Go.Operand.const (Go.Value.bool true)) (Go.Operand.tmp 73), type := 4, pos := "victim.go:79", after := #[{ on := 12, ground := Go.Ground.data }, { on := 31, ground := Go.Ground.data }], guard := none }) (v := _) rfl (by kernel_rfl) (by kernel_rfl) (by kernel_rfl) (fun _ _ _ h => h) (Or.inl ⟨by rfl, ?hy36⟩) (by assumption) ?rest36
                  case hy36 => (intro w hSw; (try dsimp only at hSw); go_simp; try (with_reducible rfl))
                  (try simp only [Act.put, List.setIfInBounds_toArray, List.set_cons_zero, List.set_cons_succ])
                  refine wpAnyH_done (by kernel_rfl) ?_ _
                  refine NoPanic.normal ?_
                  all_goals go_wp2
                  all_goals go_roundw
                  all_goals (first | (case rel => exact ⟨k + 1, by omega, by go_num, by rw [hs.out], hq8.out⟩) | skip)
                  all_goals (simp [intOf]; omega)
                | false =>
                  by_cases q3 : l[k].wear < l[j].wear
                  · have d3 : decide (l[k].wear < l[j].wear) = true := decide_eq_true q3
                    have hw : wins l[k] l[j] size now = true := by unfold wins; simp [*]
                    have hs := Lib.hid (ch_take hlt hjl hc hj hw)
                    rw [q1] at hkj
                    rw [q2] at hjk2
                    rw [hj]
                    clear hw hc hj hrg q1 q2 q3
                    go_wp2
                    refine wp_region_noPanic ?_
                    refine wp_region_held_drew (S := (fun w' : World => w'.cell? ⟨wr.heap.size, 0, none⟩ = some (.int .i64 l[k].used) ∧ w'.cell? ⟨wr.heap.size, 1, none⟩ = some (.int .i64 l[k].live) ∧ w'.cell? ⟨wr.heap.size, 2, none⟩ = some (.int .u64 l[k].age) ∧ w'.cell? ⟨wr.heap.size, 3, none⟩ = some (.int .u64 l[k].wear) ∧ w'.cell? (ad.add (j * 4)) = some (.int .i64 l[j].used) ∧ w'.cell? ⟨(ad.add (j * 4)).block, (ad.add (j * 4)).off + 1, none⟩ = some (.int .i64 l[j].live) ∧ w'.cell? ⟨(ad.add (j * 4)).block, (ad.add (j * 4)).off + 2, none⟩ = some (.int .u64 l[j].age) ∧ w'.cell? ⟨(ad.add (j * 4)).block, (ad.add (j * 4)).off + 3, none⟩ = some (.int .u64 l[j].wear) ∧ Hid (Below w.heap.size w w'))) (by kernel_rfl) ⟨bx0, bx1, bx2, bx3, g0, g1, g2, g3, below_drewN hBh.out 1⟩ (fun hHeld => ?_)
                    refine' wpAnyH_take (i := 0) (oi := { dst := some 42, op := Go.Op.move (Go.Operand.tmp 10), type := 3, pos := "victim.go:79", after := #[], guard := none }) (v := _) rfl (by kernel_rfl) (by kernel_rfl) (by kernel_rfl) (fun _ _ _ h => h) (Or.inl ⟨by rfl, ?hy37⟩) (by assumption) ?rest37
                    case hy37 => (intro w hSw; (try dsimp only at hSw); go_simp; try (with_reducible rfl))
                    (try simp only [Act.put, List.setIfInBounds_toArray, List.set_cons_zero, List.set_cons_succ])
                    refine' wpAnyH_take (i := 1) (oi := { dst := some 43, op := Go.Op.binOp Go.BinOp.lss 3 (Go.Operand.tmp 42) (Go.Operand.const (Go.Value.int Go.IntKind.i64 0)) 3, type := 4, pos := "victim.go:79", after := #[{ on := 0, ground := Go.Ground.data }], guard := none }) (v := _) rfl (by kernel_rfl) (by kernel_rfl) (by kernel_rfl) (fun _ _ _ h => h) (Or.inl ⟨by rfl, ?hy38⟩) (by assumption) ?rest38
                    case hy38 => (intro w hSw; (try dsimp only at hSw); go_simp; try (with_reducible rfl))
                    (try simp only [Act.put, List.setIfInBounds_toArray, List.set_cons_zero, List.set_cons_succ])
                    refine' wpAnyH_take (i := 2) (oi := { dst := some 44, op := Go.Op.move (Go.Operand.tmp 43), type := 4, pos := "victim.go:79", after := #[{ on := 1, ground := Go.Ground.data }], guard := none }) (v := _) rfl (by kernel_rfl) (by kernel_rfl) (by kernel_rfl) (fun _ _ _ h => h) (Or.inl ⟨by rfl, ?hy39⟩) (by assumption) ?rest39
                    case hy39 => (intro w hSw; (try dsimp only at hSw); go_simp; try (with_reducible rfl))
                    (try simp only [Act.put, List.setIfInBounds_toArray, List.set_cons_zero, List.set_cons_succ])
                    refine' wpAnyH_take (i := 3) (oi := { dst := some 45, op := Go.Op.load 24 (Go.Operand.tmp 12), type := 24, pos := "victim.go:79", after := #[{ on := 2, ground := Go.Ground.guard }], guard := some (2, false) }) (v := _) rfl (by kernel_rfl) (by kernel_rfl) (by kernel_rfl) (fun _ _ _ h => h) (Or.inl ⟨by rfl, ?hy40⟩) (by assumption) ?rest40
                    case hy40 => (intro w hSw; (try dsimp only at hSw); go_simp; try (with_reducible rfl))
                    (try simp only [Act.put, List.setIfInBounds_toArray, List.set_cons_zero, List.set_cons_succ])
                    refine' wpAnyH_take (i := 4) (oi := { dst := some 46, op := Go.Op.move (Go.Operand.tmp 0), type := 29, pos := "victim.go:79", after := #[{ on := 2, ground := Go.Ground.guard }], guard := some (2, false) }) (v := _) rfl (by kernel_rfl) (by kernel_rfl) (by kernel_rfl) (fun _ _ _ h => h) (Or.inl ⟨by rfl, ?hy41⟩) (by assumption) ?rest41
                    case hy41 => (intro w hSw; (try dsimp only at hSw); go_simp; try (with_reducible rfl))
                    (try simp only [Act.put, List.setIfInBounds_toArray, List.set_cons_zero, List.set_cons_succ])
                    refine' wpAnyH_take (i := 5) (oi := { dst := some 47, op := Go.Op.move (Go.Operand.tmp 10), type := 3, pos := "victim.go:79", after := #[{ on := 2, ground := Go.Ground.guard }], guard := some (2, false) }) (v := _) rfl (by kernel_rfl) (by kernel_rfl) (by kernel_rfl) (fun _ _ _ h => h) (Or.inl ⟨by rfl, ?hy42⟩) (by assumption) ?rest42
                    case hy42 => (intro w hSw; (try dsimp only at hSw); go_simp; try (with_reducible rfl))
                    (try simp only [Act.put, List.setIfInBounds_toArray, List.set_cons_zero, List.set_cons_succ])
                    refine' wpAnyH_take (i := 6) (oi := { dst := some 48, op := Go.Op.indexAddr 29 (Go.Operand.tmp 46) (Go.Operand.tmp 47), type := 0, pos := "victim.go:79", after := #[{ on := 4, ground := Go.Ground.data }, { on := 5, ground := Go.Ground.data }, { on := 2, ground := Go.Ground.guard }], guard := some (2, false) }) (v := _) rfl (by kernel_rfl) (by kernel_rfl) (by kernel_rfl) (fun _ _ _ h => h) (Or.inl ⟨by rfl, ?hy43⟩) (by assumption) ?rest43
                    case hy43 => (intro w hSw; (try dsimp only at hSw); go_simp; try (with_reducible rfl))
                    (try simp only [Act.put, List.setIfInBounds_toArray, List.set_cons_zero, List.set_cons_succ])
                    refine' wpAnyH_take (i := 7) (oi := { dst := some 49, op := Go.Op.load 24 (Go.Operand.tmp 48), type := 24, pos := "victim.go:79", after := #[{ on := 6, ground := Go.Ground.data }, { on := 2, ground := Go.Ground.guard }], guard := some (2, false) }) (v := _) rfl (by kernel_rfl) (by kernel_rfl) (by kernel_rfl) (fun _ _ _ h => h) (Or.inl ⟨by rfl, ?hy44⟩) (by assumption) ?rest44
                    case hy44 => (intro w hSw; (try dsimp only at hSw); go_simp; try (with_reducible rfl))
                    (try simp only [Act.put, List.setIfInBounds_toArray, List.set_cons_zero, List.set_cons_succ])
                    refine' wpAnyH_take (i := 8) (oi := { dst := some 50, op := Go.Op.move (Go.Operand.tmp 1), type := 3, pos := "victim.go:79", after := #[{ on := 2, ground := Go.Ground.guard }], guard := some (2, false) }) (v := _) rfl (by kernel_rfl) (by kernel_rfl) (by kernel_rfl) (fun _ _ _ h => h) (Or.inl ⟨by rfl, ?hy45⟩) (by assumption) ?rest45
                    case hy45 => (intro w hSw; (try dsimp only at hSw); go_simp; try (with_reducible rfl))
                    (try simp only [Act.put, List.setIfInBounds_toArray, List.set_cons_zero, List.set_cons_succ])
                    refine' wpAnyH_take (i := 9) (oi := { dst := some 51, op := Go.Op.move (Go.Operand.tmp 2), type := 22, pos := "victim.go:79", after := #[{ on := 2, ground := Go.Ground.guard }], guard := some (2, false) }) (v := _) rfl (by kernel_rfl) (by kernel_rfl) (by kernel_rfl) (fun _ _ _ h => h) (Or.inl ⟨by rfl, ?hy46⟩) (by assumption) ?rest46
                    case hy46 => (intro w hSw; (try dsimp only at hSw); go_simp; try (with_reducible rfl))
                    (try simp only [Act.put, List.setIfInBounds_toArray, List.set_cons_zero, List.set_cons_succ])
                    refine wpAnyH_ready (rs := [10]) (by kernel_rfl) (by simp) ?_
                    refine AllReadyH.cons (o := { dst := some 52, op := Go.Op.call { callee := Go.Callee.value (Go.Operand.func 10), args := #[Go.Operand.tmp 45, Go.Operand.tmp 49, Go.Operand.tmp 50, Go.Operand.tmp 51], argTypes := #[24, 24, 3, 22] }, type := 4, pos := "victim.go:79", after := #[{ on := 3, ground := Go.Ground.data }, { on := 7, ground := Go.Ground.data }, { on := 8, ground := Go.Ground.data }, { on := 9, ground := Go.Ground.data }, { on := 2, ground := Go.Ground.chain }, { on := 2, ground := Go.Ground.guard }], guard := some (2, false) }) rfl (fun K hK => ?_) AllReadyH.nil
                    go_simp
                    refine (callK (S := (fun w' : World => w'.cell? ⟨wr.heap.size, 0, none⟩ = some (.int .i64 l[k].used) ∧ w'.cell? ⟨wr.heap.size, 1, none⟩ = some (.int .i64 l[k].live) ∧ w'.cell? ⟨wr.heap.size, 2, none⟩ = some (.int .u64 l[k].age) ∧ w'.cell? ⟨wr.heap.size, 3, none⟩ = some (.int .u64 l[k].wear) ∧ w'.cell? (ad.add (j * 4)) = some (.int .i64 l[j].used) ∧ w'.cell? ⟨(ad.add (j * 4)).block, (ad.add (j * 4)).off + 1, none⟩ = some (.int .i64 l[j].live) ∧ w'.cell? ⟨(ad.add (j * 4)).block, (ad.add (j * 4)).off + 2, none⟩ = some (.int .u64 l[j].age) ∧ w'.cell? ⟨(ad.add (j * 4)).block, (ad.add (j * 4)).off + 3, none⟩ = some (.int .u64 l[j].wear) ∧ Hid (Below w.heap.size w w'))) hS.out (fun W _ => hkj.out W) (by assumption)).mono ?_
                    rintro e w' ⟨rfl, hq0, hq1, hq2, hq3, hq4, hq5, hq6, hq7, hq8⟩
                    refine hK.out _ _ ⟨hq0, hq1, hq2, hq3, hq4, hq5, hq6, hq7, hq8⟩ (fun hHeld => ?_)
                    clear hK K
                    (try simp only [Act.put, List.setIfInBounds_toArray, List.set_cons_zero, List.set_cons_succ])
                    refine' wpAnyH_take (i := 11) (oi := { dst := some 53, op := Go.Op.pick (Go.Operand.tmp 44) (Go.Operand.const (Go.Value.bool true)) (Go.Operand.tmp 52), type := 4, pos := "victim.go:79", after := #[{ on := 2, ground := Go.Ground.data }, { on := 10, ground := Go.Ground.data }], guard := none }) (v := _) rfl (by kernel_rfl) (by kernel_rfl) (by kernel_rfl) (fun _ _ _ h => h) (Or.inl ⟨by rfl, ?hy47⟩) (by assumption) ?rest47
                    case hy47 => (intro w hSw; (try dsimp only at hSw); go_simp; try (with_reducible rfl))
                    (try simp only [Act.put, List.setIfInBounds_toArray, List.set_cons_zero, List.set_cons_succ])
                    refine' wpAnyH_take (i := 12) (oi := { dst := some 54, op := Go.Op.move (Go.Operand.tmp 53), type := 4, pos := "victim.go:79", after := #[{ on := 11, ground := Go.Ground.data }, { on := 10, ground := Go.Ground.chain }], guard := none }) (v := _) rfl (by kernel_rfl) (by kernel_rfl) (by kernel_rfl) (fun _ _ _ h => h) (Or.inl ⟨by rfl, ?hy48⟩) (by assumption) ?rest48
                    case hy48 => (intro w hSw; (try dsimp only at hSw); go_simp; try (with_reducible rfl))
                    (try simp only [Act.put, List.setIfInBounds_toArray, List.set_cons_zero, List.set_cons_succ])
                    refine' wpAnyH_take (i := 13) (oi := { dst := some 55, op := Go.Op.move (Go.Operand.tmp 0), type := 29, pos := "victim.go:79", after := #[{ on := 12, ground := Go.Ground.guard }], guard := some (12, false) }) (v := _) rfl (by kernel_rfl) (by kernel_rfl) (by kernel_rfl) (fun _ _ _ h => h) (Or.inl ⟨by rfl, ?hy49⟩) (by assumption) ?rest49
                    case hy49 => (intro w hSw; (try dsimp only at hSw); go_simp; try (with_reducible rfl))
                    (try simp only [Act.put, List.setIfInBounds_toArray, List.set_cons_zero, List.set_cons_succ])
                    refine' wpAnyH_take (i := 14) (oi := { dst := some 56, op := Go.Op.move (Go.Operand.tmp 10), type := 3, pos := "victim.go:79", after := #[{ on := 12, ground := Go.Ground.guard }], guard := some (12, false) }) (v := _) rfl (by kernel_rfl) (by kernel_rfl) (by kernel_rfl) (fun _ _ _ h => h) (Or.inl ⟨by rfl, ?hy50⟩) (by assumption) ?rest50
                    case hy50 => (intro w hSw; (try dsimp only at hSw); go_simp; try (with_reducible rfl))
                    (try simp only [Act.put, List.setIfInBounds_toArray, List.set_cons_zero, List.set_cons_succ])
                    refine' wpAnyH_take (i := 15) (oi := { dst := some 57, op := Go.Op.indexAddr 29 (Go.Operand.tmp 55) (Go.Operand.tmp 56), type := 0, pos := "victim.go:79", after := #[{ on := 13, ground := Go.Ground.data }, { on := 14, ground := Go.Ground.data }, { on := 12, ground := Go.Ground.guard }], guard := some (12, false) }) (v := _) rfl (by kernel_rfl) (by kernel_rfl) (by kernel_rfl) (fun _ _ _ h => h) (Or.inl ⟨by rfl, ?hy51⟩) (by assumption) ?rest51
                    case hy51 => (intro w hSw; (try dsimp only at hSw); go_simp; try (with_reducible rfl))
                    (try simp only [Act.put, List.setIfInBounds_toArray, List.set_cons_zero, List.set_cons_succ])
                    refine' wpAnyH_take (i := 16) (oi := { dst := some 58, op := Go.Op.load 24 (Go.Operand.tmp 57), type := 24, pos := "victim.go:79", after := #[{ on := 15, ground := Go.Ground.data }, { on := 12, ground := Go.Ground.guard }], guard := some (12, false) }) (v := _) rfl (by kernel_rfl) (by kernel_rfl) (by kernel_rfl) (fun _ _ _ h => h) (Or.inl ⟨by rfl, ?hy52⟩) (by assumption) ?rest52
                    case hy52 => (intro w hSw; (try dsimp only at hSw); go_simp; try (with_reducible rfl))
                    (try simp only [Act.put, List.setIfInBounds_toArray, List.set_cons_zero, List.set_cons_succ])
                    refine' wpAnyH_take (i := 17) (oi := { dst := some 59, op := Go.Op.load 24 (Go.Operand.tmp 12), type := 24, pos := "victim.go:79", after := #[{ on := 12, ground := Go.Ground.guard }], guard := some (12, false) }) (v := _) rfl (by kernel_rfl) (by kernel_rfl) (by kernel_rfl) (fun _ _ _ h => h) (Or.inl ⟨by rfl, ?hy53⟩) (by assumption) ?rest53
                    case hy53 => (intro w hSw; (try dsimp only at hSw); go_simp; try (with_reducible rfl))
                    (try simp only [Act.put, List.setIfInBounds_toArray, List.set_cons_zero, List.set_cons_succ])
                    refine' wpAnyH_take (i := 18) (oi := { dst := some 60, op := Go.Op.move (Go.Operand.tmp 1), type := 3, pos := "victim.go:79", after := #[{ on := 12, ground := Go.Ground.guard }], guard := some (12, false) }) (v := _) rfl (by kernel_rfl) (by kernel_rfl) (by kernel_rfl) (fun _ _ _ h => h) (Or.inl ⟨by rfl, ?hy54⟩) (by assumption) ?rest54
                    case hy54 => (intro w hSw; (try dsimp only at hSw); go_simp; try (with_reducible rfl))
                    (try simp only [Act.put, List.setIfInBounds_toArray, List.set_cons_zero, List.set_cons_succ])
                    refine' wpAnyH_take (i := 19) (oi := { dst := some 61, op := Go.Op.move (Go.Operand.tmp 2), type := 22, pos := "victim.go:79", after := #[{ on := 12, ground := Go.Ground.guard }], guard := some (12, false) }) (v := _) rfl (by kernel_rfl) (by kernel_rfl) (by kernel_rfl) (fun _ _ _ h => h) (Or.inl ⟨by rfl, ?hy55⟩) (by assumption) ?rest55
                    case hy55 => (intro w hSw; (try dsimp only at hSw); go_simp; try (with_reducible rfl))
                    (try simp only [Act.put, List.setIfInBounds_toArray, List.set_cons_zero, List.set_cons_succ])
                    refine wpAnyH_ready (rs := [20]) (by kernel_rfl) (by simp) ?_
                    refine AllReadyH.cons (o := { dst := some 62, op := Go.Op.call { callee := Go.Callee.value (Go.Operand.func 10), args := #[Go.Operand.tmp 58, Go.Operand.tmp 59, Go.Operand.tmp 60, Go.Operand.tmp 61], argTypes := #[24, 24, 3, 22] }, type := 4, pos := "victim.go:79", after := #[{ on := 16, ground := Go.Ground.data }, { on := 17, ground := Go.Ground.data }, { on := 18, ground := Go.Ground.data }, { on := 19, ground := Go.Ground.data }, { on := 12, ground := Go.Ground.chain }, { on := 12, ground := Go.Ground.guard }], guard := some (12, false) }) rfl (fun K hK => ?_) AllReadyH.nil
                    go_simp
                    refine (callK (S := (fun w' : World => w'.cell? ⟨wr.heap.size, 0, none⟩ = some (.int .i64 l[k].used) ∧ w'.cell? ⟨wr.heap.size, 1, none⟩ = some (.int .i64 l[k].live) ∧ w'.cell? ⟨wr.heap.size, 2, none⟩ = some (.int .u64 l[k].age) ∧ w'.cell? ⟨wr.heap.size, 3, none⟩ = some (.int .u64 l[k].wear) ∧ w'.cell? (ad.add (j * 4)) = some (.int .i64 l[j].used) ∧ w'.cell? ⟨(ad.add (j * 4)).block, (ad.add (j * 4)).off + 1, none⟩ = some (.int .i64 l[j].live) ∧ w'.cell? ⟨(ad.add (j * 4)).block, (ad.add (j * 4)).off + 2, none⟩ = some (.int .u64 l[j].age) ∧ w'.cell? ⟨(ad.add (j * 4)).block, (ad.add (j * 4)).off + 3, none⟩ = some (.int .u64 l[j].wear) ∧ Hid (Below w.heap.size w w'))) hS.out (fun W _ => hjk2.out W) (by assumption)).mono ?_
                    rintro e w' ⟨rfl, hq0, hq1, hq2, hq3, hq4, hq5, hq6, hq7, hq8⟩
                    refine hK.out _ _ ⟨hq0, hq1, hq2, hq3, hq4, hq5, hq6, hq7, hq8⟩ (fun hHeld => ?_)
                    clear hK K
                    (try simp only [Act.put, List.setIfInBounds_toArray, List.set_cons_zero, List.set_cons_succ])
                    refine' wpAnyH_take (i := 21) (oi := { dst := some 63, op := Go.Op.unOp Go.UnOp.not 4 (Go.Operand.tmp 62), type := 4, pos := "victim.go:79", after := #[{ on := 20, ground := Go.Ground.data }, { on := 12, ground := Go.Ground.guard }], guard := some (12, false) }) (v := _) rfl (by kernel_rfl) (by kernel_rfl) (by kernel_rfl) (fun _ _ _ h => h) (Or.inl ⟨by rfl, ?hy56⟩) (by assumption) ?rest56
                    case hy56 => (intro w hSw; (try dsimp only at hSw); go_simp; try (with_reducible rfl))
                    (try simp only [Act.put, List.setIfInBounds_toArray, List.set_cons_zero, List.set_cons_succ])
                    refine' wpAnyH_take (i := 22) (oi := { dst := some 64, op := Go.Op.move (Go.Operand.tmp 63), type := 4, pos := "victim.go:79", after := #[{ on := 21, ground := Go.Ground.data }, { on := 20, ground := Go.Ground.chain }, { on := 12, ground := Go.Ground.guard }], guard := some (12, false) }) (v := _) rfl (by kernel_rfl) (by kernel_rfl) (by kernel_rfl) (fun _ _ _ h => h) (Or.inl ⟨by rfl, ?hy57⟩) (by assumption) ?rest57
                    case hy57 => (intro w hSw; (try dsimp only at hSw); go_simp; try (with_reducible rfl))
                    (try simp only [Act.put, List.setIfInBounds_toArray, List.set_cons_zero, List.set_cons_succ])
                    refine' wpAnyH_take (i := 23) (oi := { dst := some 65, op := Go.Op.fieldAddr 24 (Go.Operand.tmp 12) 3, type := 0, pos := "victim.go:79", after := #[{ on := 22, ground := Go.Ground.guard }], guard := some (22, true) }) (v := _) rfl (by kernel_rfl) (by kernel_rfl) (by kernel_rfl) (fun _ _ _ h => h) (Or.inl ⟨by rfl, ?hy58⟩) (by assumption) ?rest58
                    case hy58 => (intro w hSw; (try dsimp only at hSw); go_simp; try (with_reducible rfl))
                    (try simp only [Act.put, List.setIfInBounds_toArray, List.set_cons_zero, List.set_cons_succ])
                    refine' wpAnyH_take (i := 24) (oi := { dst := some 66, op := Go.Op.load 22 (Go.Operand.tmp 65), type := 22, pos := "victim.go:79", after := #[{ on := 23, ground := Go.Ground.data }, { on := 22, ground := Go.Ground.guard }], guard := some (22, true) }) (v := _) rfl (by kernel_rfl) (by kernel_rfl) (by kernel_rfl) (fun _ _ _ h => h) (Or.inl ⟨by rfl, ?hy59⟩) (by assumption) ?rest59
                    case hy59 => (intro w hSw; (try dsimp only at hSw); go_simp; try (with_reducible rfl))
                    (try simp only [Act.put, List.setIfInBounds_toArray, List.set_cons_zero, List.set_cons_succ])
                    refine' wpAnyH_take (i := 25) (oi := { dst := some 67, op := Go.Op.move (Go.Operand.tmp 0), type := 29, pos := "victim.go:79", after := #[{ on := 22, ground := Go.Ground.guard }], guard := some (22, true) }) (v := _) rfl (by kernel_rfl) (by kernel_rfl) (by kernel_rfl) (fun _ _ _ h => h) (Or.inl ⟨by rfl, ?hy60⟩) (by assumption) ?rest60
                    case hy60 => (intro w hSw; (try dsimp only at hSw); go_simp; try (with_reducible rfl))
                    (try simp only [Act.put, List.setIfInBounds_toArray, List.set_cons_zero, List.set_cons_succ])
                    refine' wpAnyH_take (i := 26) (oi := { dst := some 68, op := Go.Op.move (Go.Operand.tmp 10), type := 3, pos := "victim.go:79", after := #[{ on := 22, ground := Go.Ground.guard }], guard := some (22, true) }) (v := _) rfl (by kernel_rfl) (by kernel_rfl) (by kernel_rfl) (fun _ _ _ h => h) (Or.inl ⟨by rfl, ?hy61⟩) (by assumption) ?rest61
                    case hy61 => (intro w hSw; (try dsimp only at hSw); go_simp; try (with_reducible rfl))
                    (try simp only [Act.put, List.setIfInBounds_toArray, List.set_cons_zero, List.set_cons_succ])
                    refine' wpAnyH_take (i := 27) (oi := { dst := some 69, op := Go.Op.indexAddr 29 (Go.Operand.tmp 67) (Go.Operand.tmp 68), type := 0, pos := "victim.go:79", after := #[{ on := 25, ground := Go.Ground.data }, { on := 26, ground := Go.Ground.data }, { on := 22, ground := Go.Ground.guard }], guard := some (22, true) }) (v := _) rfl (by kernel_rfl) (by kernel_rfl) (by kernel_rfl) (fun _ _ _ h => h) (Or.inl ⟨by rfl, ?hy62⟩) (by assumption) ?rest62
                    case hy62 => (intro w hSw; (try dsimp only at hSw); go_simp; try (with_reducible rfl))
                    (try simp only [Act.put, List.setIfInBounds_toArray, List.set_cons_zero, List.set_cons_succ])
                    refine' wpAnyH_take (i := 28) (oi := { dst := some 70, op := Go.Op.fieldAddr 24 (Go.Operand.tmp 69) 3, type := 0, pos := "victim.go:79", after := #[{ on := 27, ground := Go.Ground.data }, { on := 22, ground := Go.Ground.guard }], guard := some (22, true) }) (v := _) rfl (by kernel_rfl) (by kernel_rfl) (by kernel_rfl) (fun _ _ _ h => h) (Or.inl ⟨by rfl, ?hy63⟩) (by assumption) ?rest63
                    case hy63 => (intro w hSw; (try dsimp only at hSw); go_simp; try (with_reducible rfl))
                    (try simp only [Act.put, List.setIfInBounds_toArray, List.set_cons_zero, List.set_cons_succ])
                    refine' wpAnyH_take (i := 29) (oi := { dst := some 71, op := Go.Op.load 22 (Go.Operand.tmp 70), type := 22, pos := "victim.go:79", after := #[{ on := 28, ground := Go.Ground.data }, { on := 22, ground := Go.Ground.guard }], guard := some (22, true) }) (v := _) rfl (by kernel_rfl) (by kernel_rfl) (by kernel_rfl) (fun _ _ _ h => h) (Or.inl ⟨by rfl, ?hy64⟩) (by assumption) ?rest64
                    case hy64 => (intro w hSw; (try dsimp only at hSw); go_simp; try (with_reducible rfl))
                    (try simp only [Act.put, List.setIfInBounds_toArray, List.set_cons_zero, List.set_cons_succ])
                    refine' wpAnyH_take (i := 30) (oi := { dst := some 72, op := Go.Op.binOp Go.BinOp.lss 22 (Go.Operand.tmp 66) (Go.Operand.tmp 71) 22, type := 4, pos := "victim.go:79", after := #[{ on := 24, ground := Go.Ground.data }, { on := 29, ground := Go.Ground.data }, { on := 22, ground := Go.Ground.guard }], guard := some (22, true) }) (v := _) rfl (by kernel_rfl) (by kernel_rfl) (by kernel_rfl) (fun _ _ _ h => h) (Or.inl ⟨by rfl, ?hy65⟩) (by assumption) ?rest65
                    case hy65 => (intro w hSw; (try dsimp only at hSw); go_simp; try (with_reducible rfl))
                    (try simp only [Act.put, List.setIfInBounds_toArray, List.set_cons_zero, List.set_cons_succ])
                    refine' wpAnyH_take (i := 31) (oi := { dst := some 73, op := Go.Op.pick (Go.Operand.tmp 64) (Go.Operand.tmp 72) (Go.Operand.const (Go.Value.bool false)), type := 4, pos := "victim.go:79", after := #[{ on := 22, ground := Go.Ground.data }, { on := 30, ground := Go.Ground.data }, { on := 12, ground := Go.Ground.guard }], guard := some (12, false) }) (v := _) rfl (by kernel_rfl) (by kernel_rfl) (by kernel_rfl) (fun _ _ _ h => h) (Or.inl ⟨by rfl, ?hy66⟩) (by assumption) ?rest66
                    case hy66 => (intro w hSw; (try dsimp only at hSw); go_simp; try (with_reducible rfl))
                    (try simp only [Act.put, List.setIfInBounds_toArray, List.set_cons_zero, List.set_cons_succ])
                    refine' wpAnyH_take (i := 32) (oi := { dst := some 74, op := Go.Op.pick (Go.Operand.tmp 54) (Go.Operand.const (Go.Value.bool true)) (Go.Operand.tmp 73), type := 4, pos := "victim.go:79", after := #[{ on := 12, ground := Go.Ground.data }, { on := 31, ground := Go.Ground.data }], guard := none }) (v := _) rfl (by kernel_rfl) (by kernel_rfl) (by kernel_rfl) (fun _ _ _ h => h) (Or.inl ⟨by rfl, ?hy67⟩) (by assumption) ?rest67
                    case hy67 => (intro w hSw; (try dsimp only at hSw); go_simp; try (with_reducible rfl))
                    (try simp only [Act.put, List.setIfInBounds_toArray, List.set_cons_zero, List.set_cons_succ])
                    refine wpAnyH_done (by kernel_rfl) ?_ _
                    refine NoPanic.normal ?_
                    all_goals go_wp2
                    all_goals go_roundw
                    all_goals (first | (case rel => exact ⟨k + 1, by omega, by go_num, by rw [hs.out], hq8.out⟩) | skip)
                    all_goals (simp [intOf]; omega)
                  · have d3 : decide (l[k].wear < l[j].wear) = false := decide_eq_false q3
                    have hw : wins l[k] l[j] size now = false := by unfold wins; simp [*]
                    have hs := Lib.hid (ch_keep (opn := opn) hlt hjl hj hw)
                    rw [q1] at hkj
                    rw [q2] at hjk2
                    rw [hj]
                    clear hw hc hj hrg q1 q2 q3
                    go_wp2
                    refine wp_region_noPanic ?_
                    refine wp_region_held_drew (S := (fun w' : World => w'.cell? ⟨wr.heap.size, 0, none⟩ = some (.int .i64 l[k].used) ∧ w'.cell? ⟨wr.heap.size, 1, none⟩ = some (.int .i64 l[k].live) ∧ w'.cell? ⟨wr.heap.size, 2, none⟩ = some (.int .u64 l[k].age) ∧ w'.cell? ⟨wr.heap.size, 3, none⟩ = some (.int .u64 l[k].wear) ∧ w'.cell? (ad.add (j * 4)) = some (.int .i64 l[j].used) ∧ w'.cell? ⟨(ad.add (j * 4)).block, (ad.add (j * 4)).off + 1, none⟩ = some (.int .i64 l[j].live) ∧ w'.cell? ⟨(ad.add (j * 4)).block, (ad.add (j * 4)).off + 2, none⟩ = some (.int .u64 l[j].age) ∧ w'.cell? ⟨(ad.add (j * 4)).block, (ad.add (j * 4)).off + 3, none⟩ = some (.int .u64 l[j].wear) ∧ Hid (Below w.heap.size w w'))) (by kernel_rfl) ⟨bx0, bx1, bx2, bx3, g0, g1, g2, g3, below_drewN hBh.out 1⟩ (fun hHeld => ?_)
                    refine' wpAnyH_take (i := 0) (oi := { dst := some 42, op := Go.Op.move (Go.Operand.tmp 10), type := 3, pos := "victim.go:79", after := #[], guard := none }) (v := _) rfl (by kernel_rfl) (by kernel_rfl) (by kernel_rfl) (fun _ _ _ h => h) (Or.inl ⟨by rfl, ?hy68⟩) (by assumption) ?rest68
                    case hy68 => (intro w hSw; (try dsimp only at hSw); go_simp; try (with_reducible rfl))
                    (try simp only [Act.put, List.setIfInBounds_toArray, List.set_cons_zero, List.set_cons_succ])
                    refine' wpAnyH_take (i := 1) (oi := { dst := some 43, op := Go.Op.binOp Go.BinOp.lss 3 (Go.Operand.tmp 42) (Go.Operand.const (Go.Value.int Go.IntKind.i64 0)) 3, type := 4, pos := "victim.go:79", after := #[{ on := 0, ground := Go.Ground.data }], guard := none }) (v := _) rfl (by kernel_rfl) (by kernel_rfl) (by kernel_rfl) (fun _ _ _ h => h) (Or.inl ⟨by rfl, ?hy69⟩) (by assumption) ?rest69
                    case hy69 => (intro w hSw; (try dsimp only at hSw); go_simp; try (with_reducible rfl))
                    (try simp only [Act.put, List.setIfInBounds_toArray, List.set_cons_zero, List.set_cons_succ])
                    refine' wpAnyH_take (i := 2) (oi := { dst := some 44, op := Go.Op.move (Go.Operand.tmp 43), type := 4, pos := "victim.go:79", after := #[{ on := 1, ground := Go.Ground.data }], guard := none }) (v := _) rfl (by kernel_rfl) (by kernel_rfl) (by kernel_rfl) (fun _ _ _ h => h) (Or.inl ⟨by rfl, ?hy70⟩) (by assumption) ?rest70
                    case hy70 => (intro w hSw; (try dsimp only at hSw); go_simp; try (with_reducible rfl))
                    (try simp only [Act.put, List.setIfInBounds_toArray, List.set_cons_zero, List.set_cons_succ])
                    refine' wpAnyH_take (i := 3) (oi := { dst := some 45, op := Go.Op.load 24 (Go.Operand.tmp 12), type := 24, pos := "victim.go:79", after := #[{ on := 2, ground := Go.Ground.guard }], guard := some (2, false) }) (v := _) rfl (by kernel_rfl) (by kernel_rfl) (by kernel_rfl) (fun _ _ _ h => h) (Or.inl ⟨by rfl, ?hy71⟩) (by assumption) ?rest71
                    case hy71 => (intro w hSw; (try dsimp only at hSw); go_simp; try (with_reducible rfl))
                    (try simp only [Act.put, List.setIfInBounds_toArray, List.set_cons_zero, List.set_cons_succ])
                    refine' wpAnyH_take (i := 4) (oi := { dst := some 46, op := Go.Op.move (Go.Operand.tmp 0), type := 29, pos := "victim.go:79", after := #[{ on := 2, ground := Go.Ground.guard }], guard := some (2, false) }) (v := _) rfl (by kernel_rfl) (by kernel_rfl) (by kernel_rfl) (fun _ _ _ h => h) (Or.inl ⟨by rfl, ?hy72⟩) (by assumption) ?rest72
                    case hy72 => (intro w hSw; (try dsimp only at hSw); go_simp; try (with_reducible rfl))
                    (try simp only [Act.put, List.setIfInBounds_toArray, List.set_cons_zero, List.set_cons_succ])
                    refine' wpAnyH_take (i := 5) (oi := { dst := some 47, op := Go.Op.move (Go.Operand.tmp 10), type := 3, pos := "victim.go:79", after := #[{ on := 2, ground := Go.Ground.guard }], guard := some (2, false) }) (v := _) rfl (by kernel_rfl) (by kernel_rfl) (by kernel_rfl) (fun _ _ _ h => h) (Or.inl ⟨by rfl, ?hy73⟩) (by assumption) ?rest73
                    case hy73 => (intro w hSw; (try dsimp only at hSw); go_simp; try (with_reducible rfl))
                    (try simp only [Act.put, List.setIfInBounds_toArray, List.set_cons_zero, List.set_cons_succ])
                    refine' wpAnyH_take (i := 6) (oi := { dst := some 48, op := Go.Op.indexAddr 29 (Go.Operand.tmp 46) (Go.Operand.tmp 47), type := 0, pos := "victim.go:79", after := #[{ on := 4, ground := Go.Ground.data }, { on := 5, ground := Go.Ground.data }, { on := 2, ground := Go.Ground.guard }], guard := some (2, false) }) (v := _) rfl (by kernel_rfl) (by kernel_rfl) (by kernel_rfl) (fun _ _ _ h => h) (Or.inl ⟨by rfl, ?hy74⟩) (by assumption) ?rest74
                    case hy74 => (intro w hSw; (try dsimp only at hSw); go_simp; try (with_reducible rfl))
                    (try simp only [Act.put, List.setIfInBounds_toArray, List.set_cons_zero, List.set_cons_succ])
                    refine' wpAnyH_take (i := 7) (oi := { dst := some 49, op := Go.Op.load 24 (Go.Operand.tmp 48), type := 24, pos := "victim.go:79", after := #[{ on := 6, ground := Go.Ground.data }, { on := 2, ground := Go.Ground.guard }], guard := some (2, false) }) (v := _) rfl (by kernel_rfl) (by kernel_rfl) (by kernel_rfl) (fun _ _ _ h => h) (Or.inl ⟨by rfl, ?hy75⟩) (by assumption) ?rest75
                    case hy75 => (intro w hSw; (try dsimp only at hSw); go_simp; try (with_reducible rfl))
                    (try simp only [Act.put, List.setIfInBounds_toArray, List.set_cons_zero, List.set_cons_succ])
                    refine' wpAnyH_take (i := 8) (oi := { dst := some 50, op := Go.Op.move (Go.Operand.tmp 1), type := 3, pos := "victim.go:79", after := #[{ on := 2, ground := Go.Ground.guard }], guard := some (2, false) }) (v := _) rfl (by kernel_rfl) (by kernel_rfl) (by kernel_rfl) (fun _ _ _ h => h) (Or.inl ⟨by rfl, ?hy76⟩) (by assumption) ?rest76
                    case hy76 => (intro w hSw; (try dsimp only at hSw); go_simp; try (with_reducible rfl))
                    (try simp only [Act.put, List.setIfInBounds_toArray, List.set_cons_zero, List.set_cons_succ])
                    refine' wpAnyH_take (i := 9) (oi := { dst := some 51, op := Go.Op.move (Go.Operand.tmp 2), type := 22, pos := "victim.go:79", after := #[{ on := 2, ground := Go.Ground.guard }], guard := some (2, false) }) (v := _) rfl (by kernel_rfl) (by kernel_rfl) (by kernel_rfl) (fun _ _ _ h => h) (Or.inl ⟨by rfl, ?hy77⟩) (by assumption) ?rest77
                    case hy77 => (intro w hSw; (try dsimp only at hSw); go_simp; try (with_reducible rfl))
                    (try simp only [Act.put, List.setIfInBounds_toArray, List.set_cons_zero, List.set_cons_succ])
                    refine wpAnyH_ready (rs := [10]) (by kernel_rfl) (by simp) ?_
                    refine AllReadyH.cons (o := { dst := some 52, op := Go.Op.call { callee := Go.Callee.value (Go.Operand.func 10), args := #[Go.Operand.tmp 45, Go.Operand.tmp 49, Go.Operand.tmp 50, Go.Operand.tmp 51], argTypes := #[24, 24, 3, 22] }, type := 4, pos := "victim.go:79", after := #[{ on := 3, ground := Go.Ground.data }, { on := 7, ground := Go.Ground.data }, { on := 8, ground := Go.Ground.data }, { on := 9, ground := Go.Ground.data }, { on := 2, ground := Go.Ground.chain }, { on := 2, ground := Go.Ground.guard }], guard := some (2, false) }) rfl (fun K hK => ?_) AllReadyH.nil
                    go_simp
                    refine (callK (S := (fun w' : World => w'.cell? ⟨wr.heap.size, 0, none⟩ = some (.int .i64 l[k].used) ∧ w'.cell? ⟨wr.heap.size, 1, none⟩ = some (.int .i64 l[k].live) ∧ w'.cell? ⟨wr.heap.size, 2, none⟩ = some (.int .u64 l[k].age) ∧ w'.cell? ⟨wr.heap.size, 3, none⟩ = some (.int .u64 l[k].wear) ∧ w'.cell? (ad.add (j * 4)) = some (.int .i64 l[j].used) ∧ w'.cell? ⟨(ad.add (j * 4)).block, (ad.add (j * 4)).off + 1, none⟩ = some (.int .i64 l[j].live) ∧ w'.cell? ⟨(ad.add (j * 4)).block, (ad.add (j * 4)).off + 2, none⟩ = some (.int .u64 l[j].age) ∧ w'.cell? ⟨(ad.add (j * 4)).block, (ad.add (j * 4)).off + 3, none⟩ = some (.int .u64 l[j].wear) ∧ Hid (Below w.heap.size w w'))) hS.out (fun W _ => hkj.out W) (by assumption)).mono ?_
                    rintro e w' ⟨rfl, hq0, hq1, hq2, hq3, hq4, hq5, hq6, hq7, hq8⟩
                    refine hK.out _ _ ⟨hq0, hq1, hq2, hq3, hq4, hq5, hq6, hq7, hq8⟩ (fun hHeld => ?_)
                    clear hK K
                    (try simp only [Act.put, List.setIfInBounds_toArray, List.set_cons_zero, List.set_cons_succ])
                    refine' wpAnyH_take (i := 11) (oi := { dst := some 53, op := Go.Op.pick (Go.Operand.tmp 44) (Go.Operand.const (Go.Value.bool true)) (Go.Operand.tmp 52), type := 4, pos := "victim.go:79", after := #[{ on := 2, ground := Go.Ground.data }, { on := 10, ground := Go.Ground.data }], guard := none }) (v := _) rfl (by kernel_rfl) (by kernel_rfl) (by kernel_rfl) (fun _ _ _ h => h) (Or.inl ⟨by rfl, ?hy78⟩) (by assumption) ?rest78
                    case hy78 => (intro w hSw; (try dsimp only at hSw); go_simp; try (with_reducible rfl))
                    (try simp only [Act.put, List.setIfInBounds_toArray, List.set_cons_zero, List.set_cons_succ])
                    refine' wpAnyH_take (i := 12) (oi := { dst := some 54, op := Go.Op.move (Go.Operand.tmp 53), type := 4, pos := "victim.go:79", after := #[{ on := 11, ground := Go.Ground.data }, { on := 10, ground := Go.Ground.chain }], guard := none }) (v := _) rfl (by kernel_rfl) (by kernel_rfl) (by kernel_rfl) (fun _ _ _ h => h) (Or.inl ⟨by rfl, ?hy79⟩) (by assumption) ?rest79
                    case hy79 => (intro w hSw; (try dsimp only at hSw); go_simp; try (with_reducible rfl))
                    (try simp only [Act.put, List.setIfInBounds_toArray, List.set_cons_zero, List.set_cons_succ])
                    refine' wpAnyH_take (i := 13) (oi := { dst := some 55, op := Go.Op.move (Go.Operand.tmp 0), type := 29, pos := "victim.go:79", after := #[{ on := 12, ground := Go.Ground.guard }], guard := some (12, false) }) (v := _) rfl (by kernel_rfl) (by kernel_rfl) (by kernel_rfl) (fun _ _ _ h => h) (Or.inl ⟨by rfl, ?hy80⟩) (by assumption) ?rest80
                    case hy80 => (intro w hSw; (try dsimp only at hSw); go_simp; try (with_reducible rfl))
                    (try simp only [Act.put, List.setIfInBounds_toArray, List.set_cons_zero, List.set_cons_succ])
                    refine' wpAnyH_take (i := 14) (oi := { dst := some 56, op := Go.Op.move (Go.Operand.tmp 10), type := 3, pos := "victim.go:79", after := #[{ on := 12, ground := Go.Ground.guard }], guard := some (12, false) }) (v := _) rfl (by kernel_rfl) (by kernel_rfl) (by kernel_rfl) (fun _ _ _ h => h) (Or.inl ⟨by rfl, ?hy81⟩) (by assumption) ?rest81
                    case hy81 => (intro w hSw; (try dsimp only at hSw); go_simp; try (with_reducible rfl))
                    (try simp only [Act.put, List.setIfInBounds_toArray, List.set_cons_zero, List.set_cons_succ])
                    refine' wpAnyH_take (i := 15) (oi := { dst := some 57, op := Go.Op.indexAddr 29 (Go.Operand.tmp 55) (Go.Operand.tmp 56), type := 0, pos := "victim.go:79", after := #[{ on := 13, ground := Go.Ground.data }, { on := 14, ground := Go.Ground.data }, { on := 12, ground := Go.Ground.guard }], guard := some (12, false) }) (v := _) rfl (by kernel_rfl) (by kernel_rfl) (by kernel_rfl) (fun _ _ _ h => h) (Or.inl ⟨by rfl, ?hy82⟩) (by assumption) ?rest82
                    case hy82 => (intro w hSw; (try dsimp only at hSw); go_simp; try (with_reducible rfl))
                    (try simp only [Act.put, List.setIfInBounds_toArray, List.set_cons_zero, List.set_cons_succ])
                    refine' wpAnyH_take (i := 16) (oi := { dst := some 58, op := Go.Op.load 24 (Go.Operand.tmp 57), type := 24, pos := "victim.go:79", after := #[{ on := 15, ground := Go.Ground.data }, { on := 12, ground := Go.Ground.guard }], guard := some (12, false) }) (v := _) rfl (by kernel_rfl) (by kernel_rfl) (by kernel_rfl) (fun _ _ _ h => h) (Or.inl ⟨by rfl, ?hy83⟩) (by assumption) ?rest83
                    case hy83 => (intro w hSw; (try dsimp only at hSw); go_simp; try (with_reducible rfl))
                    (try simp only [Act.put, List.setIfInBounds_toArray, List.set_cons_zero, List.set_cons_succ])
                    refine' wpAnyH_take (i := 17) (oi := { dst := some 59, op := Go.Op.load 24 (Go.Operand.tmp 12), type := 24, pos := "victim.go:79", after := #[{ on := 12, ground := Go.Ground.guard }], guard := some (12, false) }) (v := _) rfl (by kernel_rfl) (by kernel_rfl) (by kernel_rfl) (fun _ _ _ h => h) (Or.inl ⟨by rfl, ?hy84⟩) (by assumption) ?rest84
                    case hy84 => (intro w hSw; (try dsimp only at hSw); go_simp; try (with_reducible rfl))
                    (try simp only [Act.put, List.setIfInBounds_toArray, List.set_cons_zero, List.set_cons_succ])
                    refine' wpAnyH_take (i := 18) (oi := { dst := some 60, op := Go.Op.move (Go.Operand.tmp 1), type := 3, pos := "victim.go:79", after := #[{ on := 12, ground := Go.Ground.guard }], guard := some (12, false) }) (v := _) rfl (by kernel_rfl) (by kernel_rfl) (by kernel_rfl) (fun _ _ _ h => h) (Or.inl ⟨by rfl, ?hy85⟩) (by assumption) ?rest85
                    case hy85 => (intro w hSw; (try dsimp only at hSw); go_simp; try (with_reducible rfl))
                    (try simp only [Act.put, List.setIfInBounds_toArray, List.set_cons_zero, List.set_cons_succ])
                    refine' wpAnyH_take (i := 19) (oi := { dst := some 61, op := Go.Op.move (Go.Operand.tmp 2), type := 22, pos := "victim.go:79", after := #[{ on := 12, ground := Go.Ground.guard }], guard := some (12, false) }) (v := _) rfl (by kernel_rfl) (by kernel_rfl) (by kernel_rfl) (fun _ _ _ h => h) (Or.inl ⟨by rfl, ?hy86⟩) (by assumption) ?rest86
                    case hy86 => (intro w hSw; (try dsimp only at hSw); go_simp; try (with_reducible rfl))
                    (try simp only [Act.put, List.setIfInBounds_toArray, List.set_cons_zero, List.set_cons_succ])
                    refine wpAnyH_ready (rs := [20]) (by kernel_rfl) (by simp) ?_
                    refine AllReadyH.cons (o := { dst := some 62, op := Go.Op.call { callee := Go.Callee.value (Go.Operand.func 10), args := #[Go.Operand.tmp 58, Go.Operand.tmp 59, Go.Operand.tmp 60, Go.Operand.tmp 61], argTypes := #[24, 24, 3, 22] }, type := 4, pos := "victim.go:79", after := #[{ on := 16, ground := Go.Ground.data }, { on := 17, ground := Go.Ground.data }, { on := 18, ground := Go.Ground.data }, { on := 19, ground := Go.Ground.data }, { on := 12, ground := Go.Ground.chain }, { on := 12, ground := Go.Ground.guard }], guard := some (12, false) }) rfl (fun K hK => ?_) AllReadyH.nil
                    go_simp
                    refine (callK (S := (fun w' : World => w'.cell? ⟨wr.heap.size, 0, none⟩ = some (.int .i64 l[k].used) ∧ w'.cell? ⟨wr.heap.size, 1, none⟩ = some (.int .i64 l[k].live) ∧ w'.cell? ⟨wr.heap.size, 2, none⟩ = some (.int .u64 l[k].age) ∧ w'.cell? ⟨wr.heap.size, 3, none⟩ = some (.int .u64 l[k].wear) ∧ w'.cell? (ad.add (j * 4)) = some (.int .i64 l[j].used) ∧ w'.cell? ⟨(ad.add (j * 4)).block, (ad.add (j * 4)).off + 1, none⟩ = some (.int .i64 l[j].live) ∧ w'.cell? ⟨(ad.add (j * 4)).block, (ad.add (j * 4)).off + 2, none⟩ = some (.int .u64 l[j].age) ∧ w'.cell? ⟨(ad.add (j * 4)).block, (ad.add (j * 4)).off + 3, none⟩ = some (.int .u64 l[j].wear) ∧ Hid (Below w.heap.size w w'))) hS.out (fun W _ => hjk2.out W) (by assumption)).mono ?_
                    rintro e w' ⟨rfl, hq0, hq1, hq2, hq3, hq4, hq5, hq6, hq7, hq8⟩
                    refine hK.out _ _ ⟨hq0, hq1, hq2, hq3, hq4, hq5, hq6, hq7, hq8⟩ (fun hHeld => ?_)
                    clear hK K
                    (try simp only [Act.put, List.setIfInBounds_toArray, List.set_cons_zero, List.set_cons_succ])
                    refine' wpAnyH_take (i := 21) (oi := { dst := some 63, op := Go.Op.unOp Go.UnOp.not 4 (Go.Operand.tmp 62), type := 4, pos := "victim.go:79", after := #[{ on := 20, ground := Go.Ground.data }, { on := 12, ground := Go.Ground.guard }], guard := some (12, false) }) (v := _) rfl (by kernel_rfl) (by kernel_rfl) (by kernel_rfl) (fun _ _ _ h => h) (Or.inl ⟨by rfl, ?hy87⟩) (by assumption) ?rest87
                    case hy87 => (intro w hSw; (try dsimp only at hSw); go_simp; try (with_reducible rfl))
                    (try simp only [Act.put, List.setIfInBounds_toArray, List.set_cons_zero, List.set_cons_succ])
                    refine' wpAnyH_take (i := 22) (oi := { dst := some 64, op := Go.Op.move (Go.Operand.tmp 63), type := 4, pos := "victim.go:79", after := #[{ on := 21, ground := Go.Ground.data }, { on := 20, ground := Go.Ground.chain }, { on := 12, ground := Go.Ground.guard }], guard := some (12, false) }) (v := _) rfl (by kernel_rfl) (by kernel_rfl) (by kernel_rfl) (fun _ _ _ h => h) (Or.inl ⟨by rfl, ?hy88⟩) (by assumption) ?rest88
                    case hy88 => (intro w hSw; (try dsimp only at hSw); go_simp; try (with_reducible rfl))
                    (try simp only [Act.put, List.setIfInBounds_toArray, List.set_cons_zero, List.set_cons_succ])
                    refine' wpAnyH_take (i := 23) (oi := { dst := some 65, op := Go.Op.fieldAddr 24 (Go.Operand.tmp 12) 3, type := 0, pos := "victim.go:79", after := #[{ on := 22, ground := Go.Ground.guard }], guard := some (22, true) }) (v := _) rfl (by kernel_rfl) (by kernel_rfl) (by kernel_rfl) (fun _ _ _ h => h) (Or.inl ⟨by rfl, ?hy89⟩) (by assumption) ?rest89
                    case hy89 => (intro w hSw; (try dsimp only at hSw); go_simp; try (with_reducible rfl))
                    (try simp only [Act.put, List.setIfInBounds_toArray, List.set_cons_zero, List.set_cons_succ])
                    refine' wpAnyH_take (i := 24) (oi := { dst := some 66, op := Go.Op.load 22 (Go.Operand.tmp 65), type := 22, pos := "victim.go:79", after := #[{ on := 23, ground := Go.Ground.data }, { on := 22, ground := Go.Ground.guard }], guard := some (22, true) }) (v := _) rfl (by kernel_rfl) (by kernel_rfl) (by kernel_rfl) (fun _ _ _ h => h) (Or.inl ⟨by rfl, ?hy90⟩) (by assumption) ?rest90
                    case hy90 => (intro w hSw; (try dsimp only at hSw); go_simp; try (with_reducible rfl))
                    (try simp only [Act.put, List.setIfInBounds_toArray, List.set_cons_zero, List.set_cons_succ])
                    refine' wpAnyH_take (i := 25) (oi := { dst := some 67, op := Go.Op.move (Go.Operand.tmp 0), type := 29, pos := "victim.go:79", after := #[{ on := 22, ground := Go.Ground.guard }], guard := some (22, true) }) (v := _) rfl (by kernel_rfl) (by kernel_rfl) (by kernel_rfl) (fun _ _ _ h => h) (Or.inl ⟨by rfl, ?hy91⟩) (by assumption) ?rest91
                    case hy91 => (intro w hSw; (try dsimp only at hSw); go_simp; try (with_reducible rfl))
                    (try simp only [Act.put, List.setIfInBounds_toArray, List.set_cons_zero, List.set_cons_succ])
                    refine' wpAnyH_take (i := 26) (oi := { dst := some 68, op := Go.Op.move (Go.Operand.tmp 10), type := 3, pos := "victim.go:79", after := #[{ on := 22, ground := Go.Ground.guard }], guard := some (22, true) }) (v := _) rfl (by kernel_rfl) (by kernel_rfl) (by kernel_rfl) (fun _ _ _ h => h) (Or.inl ⟨by rfl, ?hy92⟩) (by assumption) ?rest92
                    case hy92 => (intro w hSw; (try dsimp only at hSw); go_simp; try (with_reducible rfl))
                    (try simp only [Act.put, List.setIfInBounds_toArray, List.set_cons_zero, List.set_cons_succ])
                    refine' wpAnyH_take (i := 27) (oi := { dst := some 69, op := Go.Op.indexAddr 29 (Go.Operand.tmp 67) (Go.Operand.tmp 68), type := 0, pos := "victim.go:79", after := #[{ on := 25, ground := Go.Ground.data }, { on := 26, ground := Go.Ground.data }, { on := 22, ground := Go.Ground.guard }], guard := some (22, true) }) (v := _) rfl (by kernel_rfl) (by kernel_rfl) (by kernel_rfl) (fun _ _ _ h => h) (Or.inl ⟨by rfl, ?hy93⟩) (by assumption) ?rest93
                    case hy93 => (intro w hSw; (try dsimp only at hSw); go_simp; try (with_reducible rfl))
                    (try simp only [Act.put, List.setIfInBounds_toArray, List.set_cons_zero, List.set_cons_succ])
                    refine' wpAnyH_take (i := 28) (oi := { dst := some 70, op := Go.Op.fieldAddr 24 (Go.Operand.tmp 69) 3, type := 0, pos := "victim.go:79", after := #[{ on := 27, ground := Go.Ground.data }, { on := 22, ground := Go.Ground.guard }], guard := some (22, true) }) (v := _) rfl (by kernel_rfl) (by kernel_rfl) (by kernel_rfl) (fun _ _ _ h => h) (Or.inl ⟨by rfl, ?hy94⟩) (by assumption) ?rest94
                    case hy94 => (intro w hSw; (try dsimp only at hSw); go_simp; try (with_reducible rfl))
                    (try simp only [Act.put, List.setIfInBounds_toArray, List.set_cons_zero, List.set_cons_succ])
                    refine' wpAnyH_take (i := 29) (oi := { dst := some 71, op := Go.Op.load 22 (Go.Operand.tmp 70), type := 22, pos := "victim.go:79", after := #[{ on := 28, ground := Go.Ground.data }, { on := 22, ground := Go.Ground.guard }], guard := some (22, true) }) (v := _) rfl (by kernel_rfl) (by kernel_rfl) (by kernel_rfl) (fun _ _ _ h => h) (Or.inl ⟨by rfl, ?hy95⟩) (by assumption) ?rest95
                    case hy95 => (intro w hSw; (try dsimp only at hSw); go_simp; try (with_reducible rfl))
                    (try simp only [Act.put, List.setIfInBounds_toArray, List.set_cons_zero, List.set_cons_succ])
                    refine' wpAnyH_take (i := 30) (oi := { dst := some 72, op := Go.Op.binOp Go.BinOp.lss 22 (Go.Operand.tmp 66) (Go.Operand.tmp 71) 22, type := 4, pos := "victim.go:79", after := #[{ on := 24, ground := Go.Ground.data }, { on := 29, ground := Go.Ground.data }, { on := 22, ground := Go.Ground.guard }], guard := some (22, true) }) (v := _) rfl (by kernel_rfl) (by kernel_rfl) (by kernel_rfl) (fun _ _ _ h => h) (Or.inl ⟨by rfl, ?hy96⟩) (by assumption) ?rest96
                    case hy96 => (intro w hSw; (try dsimp only at hSw); go_simp; try (with_reducible rfl))
                    (try simp only [Act.put, List.setIfInBounds_toArray, List.set_cons_zero, List.set_cons_succ])
                    refine' wpAnyH_take (i := 31) (oi := { dst := some 73, op := Go.Op.pick (Go.Operand.tmp 64) (Go.Operand.tmp 72) (Go.Operand.const (Go.Value.bool false)), type := 4, pos := "victim.go:79", after := #[{ on := 22, ground := Go.Ground.data }, { on := 30, ground := Go.Ground.data }, { on := 12, ground := Go.Ground.guard }], guard := some (12, false) }) (v := _) rfl (by kernel_rfl) (by kernel_rfl) (by kernel_rfl) (fun _ _ _ h => h) (Or.inl ⟨by rfl, ?hy97⟩) (by assumption) ?rest97
                    case hy97 => (intro w hSw; (try dsimp only at hSw); go_simp; try (with_reducible rfl))
                    (try simp only [Act.put, List.setIfInBounds_toArray, List.set_cons_zero, List.set_cons_succ])
                    refine' wpAnyH_take (i := 32) (oi := { dst := some 74, op := Go.Op.pick (Go.Operand.tmp 54) (Go.Operand.const (Go.Value.bool true)) (Go.Operand.tmp 73), type := 4, pos := "victim.go:79", after := #[{ on := 12, ground := Go.Ground.data }, { on := 31, ground := Go.Ground.data }], guard := none }) (v := _) rfl (by kernel_rfl) (by kernel_rfl) (by kernel_rfl) (fun _ _ _ h => h) (Or.inl ⟨by rfl, ?hy98⟩) (by assumption) ?rest98
                    case hy98 => (intro w hSw; (try dsimp only at hSw); go_simp; try (with_reducible rfl))
                    (try simp only [Act.put, List.setIfInBounds_toArray, List.set_cons_zero, List.set_cons_succ])
                    refine wpAnyH_done (by kernel_rfl) ?_ _
                    refine NoPanic.normal ?_
                    all_goals go_wp2
                    all_goals go_roundw
                    all_goals (first | (case rel => exact ⟨k + 1, by omega, by go_num, by rw [hs.out], hq8.out⟩) | skip)
                    all_goals (simp [intOf]; omega)
        · obtain rfl : k = l.length := by omega
          have hrg := chTo_range l size now opn l.length
          by_cases hb : chTo l size now opn l.length < 0
          · have hr2 := Lib.hid (show chooseR l size now opn = (0, 9) by rw [hr.out, if_pos hb])
            generalize chTo l size now opn l.length = b at *
            go_wp2
            go_ret2
            exact ⟨by rw [hr2.out]; rfl, hB⟩
          · have hr2 := Lib.hid (show chooseR l size now opn = (chTo l size now opn l.length, 0) by rw [hr.out, if_neg hb])
            generalize chTo l size now opn l.length = b at *
            go_wp2
            go_ret2
            exact ⟨by rw [hr2.out]; rfl, hB⟩
end Go.Proofs.Ytnjmllkcodppgaa
