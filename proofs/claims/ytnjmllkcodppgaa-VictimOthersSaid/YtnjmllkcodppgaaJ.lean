/- Contract of tegularef18.Choose. -/
import Derived.Test.YtnjmllkcodppgaaI
namespace Go.Proofs.Ytnjmllkcodppgaa
open Go.RowKit
set_option linter.unusedVariables false

set_option maxHeartbeats 8000000 in
theorem rChoose (A : Option Addr) (c : Nat) (l : List BI) (size now opn : Int) (w : World) (hl : l.length ≤ 1000) (h : Bs w A l) (hok : ∀ b ∈ l, u64 b.age) (gn : u64 now) :
    Calls Try.prog 13 #[.slice A l.length c, .int .i64 size, .int .u64 now, .int .i64 opn] w fun e w' => e = .returned (.tuple #[.int .i64 (chooseR l size now opn).1, .int .i64 (chooseR l size now opn).2]) ∧ Below w.heap.size w w' := by
  have hl0 : l.length ≤ 9223372036854775807 := by omega
  cases hv : vld l size with
  | false =>
    have hr := Lib.hid (show chooseR l size now opn = (0, 1) by unfold chooseR; rw [hv]; rfl)
    have hv' := Lib.hid hv
    clear hv
    go_enter Try.func13, Try.ntmps13
    go_wp2_with fail
    refine (refValid A c l size _ hl0 h).mono ?_
    rintro e w1 ⟨rfl, hq⟩
    have hb1 := hq.below
    rw [hv'.out]
    go_wp2
    go_ret2
    exact ⟨by rw [hr.out]; rfl, hb1⟩
  | true =>
    by_cases hbig : 1048576 < size
    · have hr := Lib.hid (show chooseR l size now opn = (0, 1) by unfold chooseR; rw [if_neg (by omega)])
      have hv' := Lib.hid hv
      clear hv
      go_enter Try.func13, Try.ntmps13
      go_wp2_with fail
      refine (refValid A c l size _ hl0 h).mono ?_
      rintro e w1 ⟨rfl, hq⟩
      have hb1 := hq.below
      rw [hv'.out]
      go_wp2
      go_ret2
      exact ⟨by rw [hr.out]; rfl, hb1⟩
    · have hsz : size ≤ 1048576 := by omega
      clear hbig
      have hr := Lib.hid (show chooseR l size now opn = (if chTo l size now opn l.length < 0 then (0, 9) else (chTo l size now opn l.length, 0)) by unfold chooseR; rw [if_pos ⟨hv, hsz⟩])
      have hv' := Lib.hid hv
      clear hv
      go_enter Try.func13, Try.ntmps13
      go_wp2_with fail
      refine (refValid A c l size _ hl0 h).mono ?_
      rintro e w1 ⟨rfl, hq⟩
      have hb1 := hq.below
      rw [hv'.out]
      clear hq
      go_wp2
      go_loopw [10, 11] (fun b v wr => ∃ k : Nat, k ≤ l.length ∧ v = .int .i64 k ∧ b = .int .i64 (chTo l size now opn k) ∧ Below w.heap.size w wr) (fun _ v _ => l.length - (intOf v).toNat)
      case atStart => exact ⟨0, Nat.zero_le _, rfl, rfl, hb1⟩
      case round =>
        obtain ⟨k, hk, rfl, rfl, hB⟩ := hrel
        by_cases hlt : k < l.length
        · obtain ⟨ad, rfl, c0, c1, c2, c3⟩ := (h.below hB).at_ hlt
          have hrg := chTo_range l size now opn k
          have hrc := Lib.hid (fun W (hW : Below w.heap.size w W) => rCand (some ad) c l size opn k W hl (h.below hW) hlt)
          cases hc : cand l[k] size opn k with
          | false =>
            have hs := Lib.hid (ch_no (now := now) hlt hc)
            rw [hc] at hrc
            clear hc
            generalize chTo l size now opn k = b at *
            go_wp2_with fail
            refine (hrc.out _ hB).mono ?_
            rintro e w2 ⟨rfl, rfl⟩
            go_wp2
            go_roundw
            case rel => exact ⟨k + 1, by omega, by go_num, by rw [hs.out], hB⟩
            case measure => simp [intOf]; omega
          | true =>
            rw [hc] at hrc
            by_cases hb : chTo l size now opn k < 0
            · have hs := Lib.hid (ch_first hlt hc hb)
              have d : decide (chTo l size now opn k < 0) = true := decide_eq_true hb
              clear hc hb
              generalize chTo l size now opn k = b at *
              go_wp2_with fail
              refine (hrc.out _ hB).mono ?_
              rintro e w2 ⟨rfl, rfl⟩
              go_wp2
              go_quiet (fail)
              go_wp2
              go_roundw
              case rel => exact ⟨k + 1, by omega, by go_num, by rw [hs.out], below_drewN hB _⟩
              case measure => simp [intOf]; omega
            · obtain ⟨j, hj⟩ : ∃ j : Nat, chTo l size now opn k = j := ⟨(chTo l size now opn k).toNat, by omega⟩
              have hjl : j < l.length := by omega
              obtain ⟨ad', had, f0, f1, f2, f3⟩ := (h.below hB).at_ hjl
              cases had
              have d : decide ((j : Int) < 0) = false := by simp
              have hjk : (j : Int) < k := by omega
              have hkj := Lib.hid (fun W => rBetter l[k] l[j] size now W (hok _ (List.getElem_mem hlt)) (hok _ (List.getElem_mem hjl)) gn)
              have hjk2 := Lib.hid (fun W => rBetter l[j] l[k] size now W (hok _ (List.getElem_mem hjl)) (hok _ (List.getElem_mem hlt)) gn)
              have hS : ∀ W W' : World, (fun w' : World => w'.cell? (ad.add (k * 4)) = some (.int .i64 l[k].used) ∧ w'.cell? ⟨(ad.add (k * 4)).block, (ad.add (k * 4)).off + 1, none⟩ = some (.int .i64 l[k].live) ∧ w'.cell? ⟨(ad.add (k * 4)).block, (ad.add (k * 4)).off + 2, none⟩ = some (.int .u64 l[k].age) ∧ w'.cell? ⟨(ad.add (k * 4)).block, (ad.add (k * 4)).off + 3, none⟩ = some (.int .u64 l[k].wear) ∧ w'.cell? (ad.add (j * 4)) = some (.int .i64 l[j].used) ∧ w'.cell? ⟨(ad.add (j * 4)).block, (ad.add (j * 4)).off + 1, none⟩ = some (.int .i64 l[j].live) ∧ w'.cell? ⟨(ad.add (j * 4)).block, (ad.add (j * 4)).off + 2, none⟩ = some (.int .u64 l[j].age) ∧ w'.cell? ⟨(ad.add (j * 4)).block, (ad.add (j * 4)).off + 3, none⟩ = some (.int .u64 l[j].wear) ∧ Hid (Below w.heap.size w w')) W → Below W.heap.size W W' → (fun w' : World => w'.cell? (ad.add (k * 4)) = some (.int .i64 l[k].used) ∧ w'.cell? ⟨(ad.add (k * 4)).block, (ad.add (k * 4)).off + 1, none⟩ = some (.int .i64 l[k].live) ∧ w'.cell? ⟨(ad.add (k * 4)).block, (ad.add (k * 4)).off + 2, none⟩ = some (.int .u64 l[k].age) ∧ w'.cell? ⟨(ad.add (k * 4)).block, (ad.add (k * 4)).off + 3, none⟩ = some (.int .u64 l[k].wear) ∧ w'.cell? (ad.add (j * 4)) = some (.int .i64 l[j].used) ∧ w'.cell? ⟨(ad.add (j * 4)).block, (ad.add (j * 4)).off + 1, none⟩ = some (.int .i64 l[j].live) ∧ w'.cell? ⟨(ad.add (j * 4)).block, (ad.add (j * 4)).off + 2, none⟩ = some (.int .u64 l[j].age) ∧ w'.cell? ⟨(ad.add (j * 4)).block, (ad.add (j * 4)).off + 3, none⟩ = some (.int .u64 l[j].wear) ∧ Hid (Below w.heap.size w w')) W' := by
                rintro W W' ⟨k0, k1, k2, k3, k4, k5, k6, k7, k8⟩ hb
                exact ⟨cell_below hb k0, cell_below hb k1, cell_below hb k2, cell_below hb k3, cell_below hb k4, cell_below hb k5, cell_below hb k6, cell_below hb k7, below_then k8.out k8.out.size hb⟩
              replace hS := Lib.hid hS
              have hBh := Lib.hid hB
              clear hb
              cases q1 : betS l[k] l[j] size now with
              | true =>
                have hw : wins l[k] l[j] size now = true := by unfold wins; simp [*]
                have hs := Lib.hid (ch_take hlt hjl hc hj hw)
                rw [q1] at hkj
                rw [hj]
                clear hw hc hj hrg q1 hjk2
                go_wp2_with fail
                refine (hrc.out _ hB).mono ?_
                rintro e w2 ⟨rfl, rfl⟩
                go_wp2
                refine wp_region_noPanic ?_
                refine wp_region_held_drew (S := (fun w' : World => w'.cell? (ad.add (k * 4)) = some (.int .i64 l[k].used) ∧ w'.cell? ⟨(ad.add (k * 4)).block, (ad.add (k * 4)).off + 1, none⟩ = some (.int .i64 l[k].live) ∧ w'.cell? ⟨(ad.add (k * 4)).block, (ad.add (k * 4)).off + 2, none⟩ = some (.int .u64 l[k].age) ∧ w'.cell? ⟨(ad.add (k * 4)).block, (ad.add (k * 4)).off + 3, none⟩ = some (.int .u64 l[k].wear) ∧ w'.cell? (ad.add (j * 4)) = some (.int .i64 l[j].used) ∧ w'.cell? ⟨(ad.add (j * 4)).block, (ad.add (j * 4)).off + 1, none⟩ = some (.int .i64 l[j].live) ∧ w'.cell? ⟨(ad.add (j * 4)).block, (ad.add (j * 4)).off + 2, none⟩ = some (.int .u64 l[j].age) ∧ w'.cell? ⟨(ad.add (j * 4)).block, (ad.add (j * 4)).off + 3, none⟩ = some (.int .u64 l[j].wear) ∧ Hid (Below w.heap.size w w'))) (by kernel_rfl) ⟨c0, c1, c2, c3, f0, f1, f2, f3, below_drewN hBh.out 1⟩ (fun hHeld => ?_)
                refine' wpAnyH_take (i := 0) (oi := { dst := some 32, op := Go.Op.move (Go.Operand.tmp 10), type := 3, pos := "ref.go:77", after := #[], guard := none }) (v := _) rfl (by kernel_rfl) (by kernel_rfl) (by kernel_rfl) (fun _ _ _ h => h) (Or.inl ⟨by rfl, ?hy99⟩) (by assumption) ?rest99
                case hy99 => (intro w hSw; (try dsimp only at hSw); go_simp; try (with_reducible rfl))
                (try simp only [Act.put, List.setIfInBounds_toArray, List.set_cons_zero, List.set_cons_succ])
                refine' wpAnyH_take (i := 1) (oi := { dst := some 33, op := Go.Op.binOp Go.BinOp.lss 3 (Go.Operand.tmp 32) (Go.Operand.const (Go.Value.int Go.IntKind.i64 0)) 3, type := 4, pos := "ref.go:77", after := #[{ on := 0, ground := Go.Ground.data }], guard := none }) (v := _) rfl (by kernel_rfl) (by kernel_rfl) (by kernel_rfl) (fun _ _ _ h => h) (Or.inl ⟨by rfl, ?hy100⟩) (by assumption) ?rest100
                case hy100 => (intro w hSw; (try dsimp only at hSw); go_simp; try (with_reducible rfl))
                (try simp only [Act.put, List.setIfInBounds_toArray, List.set_cons_zero, List.set_cons_succ])
                refine' wpAnyH_take (i := 2) (oi := { dst := some 34, op := Go.Op.move (Go.Operand.tmp 33), type := 4, pos := "ref.go:77", after := #[{ on := 1, ground := Go.Ground.data }], guard := none }) (v := _) rfl (by kernel_rfl) (by kernel_rfl) (by kernel_rfl) (fun _ _ _ h => h) (Or.inl ⟨by rfl, ?hy101⟩) (by assumption) ?rest101
                case hy101 => (intro w hSw; (try dsimp only at hSw); go_simp; try (with_reducible rfl))
                (try simp only [Act.put, List.setIfInBounds_toArray, List.set_cons_zero, List.set_cons_succ])
                refine' wpAnyH_take (i := 3) (oi := { dst := some 35, op := Go.Op.move (Go.Operand.tmp 0), type := 29, pos := "ref.go:77", after := #[{ on := 2, ground := Go.Ground.guard }], guard := some (2, false) }) (v := _) rfl (by kernel_rfl) (by kernel_rfl) (by kernel_rfl) (fun _ _ _ h => h) (Or.inl ⟨by rfl, ?hy102⟩) (by assumption) ?rest102
                case hy102 => (intro w hSw; (try dsimp only at hSw); go_simp; try (with_reducible rfl))
                (try simp only [Act.put, List.setIfInBounds_toArray, List.set_cons_zero, List.set_cons_succ])
                refine' wpAnyH_take (i := 4) (oi := { dst := some 36, op := Go.Op.move (Go.Operand.tmp 11), type := 3, pos := "ref.go:77", after := #[{ on := 2, ground := Go.Ground.guard }], guard := some (2, false) }) (v := _) rfl (by kernel_rfl) (by kernel_rfl) (by kernel_rfl) (fun _ _ _ h => h) (Or.inl ⟨by rfl, ?hy103⟩) (by assumption) ?rest103
                case hy103 => (intro w hSw; (try dsimp only at hSw); go_simp; try (with_reducible rfl))
                (try simp only [Act.put, List.setIfInBounds_toArray, List.set_cons_zero, List.set_cons_succ])
                refine' wpAnyH_take (i := 5) (oi := { dst := some 37, op := Go.Op.indexAddr 29 (Go.Operand.tmp 35) (Go.Operand.tmp 36), type := 0, pos := "ref.go:77", after := #[{ on := 3, ground := Go.Ground.data }, { on := 4, ground := Go.Ground.data }, { on := 2, ground := Go.Ground.guard }], guard := some (2, false) }) (v := _) rfl (by kernel_rfl) (by kernel_rfl) (by kernel_rfl) (fun _ _ _ h => h) (Or.inl ⟨by rfl, ?hy104⟩) (by assumption) ?rest104
                case hy104 => (intro w hSw; (try dsimp only at hSw); go_simp; try (with_reducible rfl))
                (try simp only [Act.put, List.setIfInBounds_toArray, List.set_cons_zero, List.set_cons_succ])
                refine' wpAnyH_take (i := 6) (oi := { dst := some 38, op := Go.Op.load 24 (Go.Operand.tmp 37), type := 24, pos := "ref.go:77", after := #[{ on := 5, ground := Go.Ground.data }, { on := 2, ground := Go.Ground.guard }], guard := some (2, false) }) (v := _) rfl (by kernel_rfl) (by kernel_rfl) (by kernel_rfl) (fun _ _ _ h => h) (Or.inl ⟨by rfl, ?hy105⟩) (by assumption) ?rest105
                case hy105 => (intro w hSw; (try dsimp only at hSw); go_simp; try (with_reducible rfl))
                (try simp only [Act.put, List.setIfInBounds_toArray, List.set_cons_zero, List.set_cons_succ])
                refine' wpAnyH_take (i := 7) (oi := { dst := some 39, op := Go.Op.move (Go.Operand.tmp 0), type := 29, pos := "ref.go:77", after := #[{ on := 2, ground := Go.Ground.guard }], guard := some (2, false) }) (v := _) rfl (by kernel_rfl) (by kernel_rfl) (by kernel_rfl) (fun _ _ _ h => h) (Or.inl ⟨by rfl, ?hy106⟩) (by assumption) ?rest106
                case hy106 => (intro w hSw; (try dsimp only at hSw); go_simp; try (with_reducible rfl))
                (try simp only [Act.put, List.setIfInBounds_toArray, List.set_cons_zero, List.set_cons_succ])
                refine' wpAnyH_take (i := 8) (oi := { dst := some 40, op := Go.Op.move (Go.Operand.tmp 10), type := 3, pos := "ref.go:77", after := #[{ on := 2, ground := Go.Ground.guard }], guard := some (2, false) }) (v := _) rfl (by kernel_rfl) (by kernel_rfl) (by kernel_rfl) (fun _ _ _ h => h) (Or.inl ⟨by rfl, ?hy107⟩) (by assumption) ?rest107
                case hy107 => (intro w hSw; (try dsimp only at hSw); go_simp; try (with_reducible rfl))
                (try simp only [Act.put, List.setIfInBounds_toArray, List.set_cons_zero, List.set_cons_succ])
                refine' wpAnyH_take (i := 9) (oi := { dst := some 41, op := Go.Op.indexAddr 29 (Go.Operand.tmp 39) (Go.Operand.tmp 40), type := 0, pos := "ref.go:77", after := #[{ on := 7, ground := Go.Ground.data }, { on := 8, ground := Go.Ground.data }, { on := 2, ground := Go.Ground.guard }], guard := some (2, false) }) (v := _) rfl (by kernel_rfl) (by kernel_rfl) (by kernel_rfl) (fun _ _ _ h => h) (Or.inl ⟨by rfl, ?hy108⟩) (by assumption) ?rest108
                case hy108 => (intro w hSw; (try dsimp only at hSw); go_simp; try (with_reducible rfl))
                (try simp only [Act.put, List.setIfInBounds_toArray, List.set_cons_zero, List.set_cons_succ])
                refine' wpAnyH_take (i := 10) (oi := { dst := some 42, op := Go.Op.load 24 (Go.Operand.tmp 41), type := 24, pos := "ref.go:77", after := #[{ on := 9, ground := Go.Ground.data }, { on := 2, ground := Go.Ground.guard }], guard := some (2, false) }) (v := _) rfl (by kernel_rfl) (by kernel_rfl) (by kernel_rfl) (fun _ _ _ h => h) (Or.inl ⟨by rfl, ?hy109⟩) (by assumption) ?rest109
                case hy109 => (intro w hSw; (try dsimp only at hSw); go_simp; try (with_reducible rfl))
                (try simp only [Act.put, List.setIfInBounds_toArray, List.set_cons_zero, List.set_cons_succ])
                refine' wpAnyH_take (i := 11) (oi := { dst := some 43, op := Go.Op.move (Go.Operand.tmp 1), type := 3, pos := "ref.go:77", after := #[{ on := 2, ground := Go.Ground.guard }], guard := some (2, false) }) (v := _) rfl (by kernel_rfl) (by kernel_rfl) (by kernel_rfl) (fun _ _ _ h => h) (Or.inl ⟨by rfl, ?hy110⟩) (by assumption) ?rest110
                case hy110 => (intro w hSw; (try dsimp only at hSw); go_simp; try (with_reducible rfl))
                (try simp only [Act.put, List.setIfInBounds_toArray, List.set_cons_zero, List.set_cons_succ])
                refine' wpAnyH_take (i := 12) (oi := { dst := some 44, op := Go.Op.move (Go.Operand.tmp 2), type := 22, pos := "ref.go:77", after := #[{ on := 2, ground := Go.Ground.guard }], guard := some (2, false) }) (v := _) rfl (by kernel_rfl) (by kernel_rfl) (by kernel_rfl) (fun _ _ _ h => h) (Or.inl ⟨by rfl, ?hy111⟩) (by assumption) ?rest111
                case hy111 => (intro w hSw; (try dsimp only at hSw); go_simp; try (with_reducible rfl))
                (try simp only [Act.put, List.setIfInBounds_toArray, List.set_cons_zero, List.set_cons_succ])
                refine wpAnyH_ready (rs := [13]) (by kernel_rfl) (by simp) ?_
                refine AllReadyH.cons (o := { dst := some 45, op := Go.Op.call { callee := Go.Callee.value (Go.Operand.func 11), args := #[Go.Operand.tmp 38, Go.Operand.tmp 42, Go.Operand.tmp 43, Go.Operand.tmp 44], argTypes := #[24, 24, 3, 22] }, type := 4, pos := "ref.go:77", after := #[{ on := 6, ground := Go.Ground.data }, { on := 10, ground := Go.Ground.data }, { on := 11, ground := Go.Ground.data }, { on := 12, ground := Go.Ground.data }, { on := 2, ground := Go.Ground.chain }, { on := 2, ground := Go.Ground.guard }], guard := some (2, false) }) rfl (fun K hK => ?_) AllReadyH.nil
                go_simp
                refine (callK (S := (fun w' : World => w'.cell? (ad.add (k * 4)) = some (.int .i64 l[k].used) ∧ w'.cell? ⟨(ad.add (k * 4)).block, (ad.add (k * 4)).off + 1, none⟩ = some (.int .i64 l[k].live) ∧ w'.cell? ⟨(ad.add (k * 4)).block, (ad.add (k * 4)).off + 2, none⟩ = some (.int .u64 l[k].age) ∧ w'.cell? ⟨(ad.add (k * 4)).block, (ad.add (k * 4)).off + 3, none⟩ = some (.int .u64 l[k].wear) ∧ w'.cell? (ad.add (j * 4)) = some (.int .i64 l[j].used) ∧ w'.cell? ⟨(ad.add (j * 4)).block, (ad.add (j * 4)).off + 1, none⟩ = some (.int .i64 l[j].live) ∧ w'.cell? ⟨(ad.add (j * 4)).block, (ad.add (j * 4)).off + 2, none⟩ = some (.int .u64 l[j].age) ∧ w'.cell? ⟨(ad.add (j * 4)).block, (ad.add (j * 4)).off + 3, none⟩ = some (.int .u64 l[j].wear) ∧ Hid (Below w.heap.size w w'))) hS.out (fun W _ => hkj.out W) (by assumption)).mono ?_
                rintro e w' ⟨rfl, hq0, hq1, hq2, hq3, hq4, hq5, hq6, hq7, hq8⟩
                refine hK.out _ _ ⟨hq0, hq1, hq2, hq3, hq4, hq5, hq6, hq7, hq8⟩ (fun hHeld => ?_)
                clear hK K
                (try simp only [Act.put, List.setIfInBounds_toArray, List.set_cons_zero, List.set_cons_succ])
                refine' wpAnyH_take (i := 14) (oi := { dst := some 46, op := Go.Op.pick (Go.Operand.tmp 34) (Go.Operand.const (Go.Value.bool true)) (Go.Operand.tmp 45), type := 4, pos := "ref.go:77", after := #[{ on := 2, ground := Go.Ground.data }, { on := 13, ground := Go.Ground.data }], guard := none }) (v := _) rfl (by kernel_rfl) (by kernel_rfl) (by kernel_rfl) (fun _ _ _ h => h) (Or.inl ⟨by rfl, ?hy112⟩) (by assumption) ?rest112
                case hy112 => (intro w hSw; (try dsimp only at hSw); go_simp; try (with_reducible rfl))
                (try simp only [Act.put, List.setIfInBounds_toArray, List.set_cons_zero, List.set_cons_succ])
                refine' wpAnyH_take (i := 15) (oi := { dst := some 47, op := Go.Op.move (Go.Operand.tmp 46), type := 4, pos := "ref.go:77", after := #[{ on := 14, ground := Go.Ground.data }, { on := 13, ground := Go.Ground.chain }], guard := none }) (v := _) rfl (by kernel_rfl) (by kernel_rfl) (by kernel_rfl) (fun _ _ _ h => h) (Or.inl ⟨by rfl, ?hy113⟩) (by assumption) ?rest113
                case hy113 => (intro w hSw; (try dsimp only at hSw); go_simp; try (with_reducible rfl))
                (try simp only [Act.put, List.setIfInBounds_toArray, List.set_cons_zero, List.set_cons_succ])
                refine wpAnyH_take (i := 16) (oi := { dst := some 48, op := Go.Op.move (Go.Operand.tmp 0), type := 29, pos := "ref.go:77", after := #[{ on := 15, ground := Go.Ground.guard }], guard := some (15, false) }) (v := undef) rfl (by kernel_rfl) (by kernel_rfl) (by kernel_rfl) (fun _ _ _ h => h) (Or.inr ⟨by rfl, rfl⟩) (by assumption) ?_
                (try simp only [Act.put, List.setIfInBounds_toArray, List.set_cons_zero, List.set_cons_succ])
                refine wpAnyH_take (i := 17) (oi := { dst := some 49, op := Go.Op.move (Go.Operand.tmp 10), type := 3, pos := "ref.go:77", after := #[{ on := 15, ground := Go.Ground.guard }], guard := some (15, false) }) (v := undef) rfl (by kernel_rfl) (by kernel_rfl) (by kernel_rfl) (fun _ _ _ h => h) (Or.inr ⟨by rfl, rfl⟩) (by assumption) ?_
                (try simp only [Act.put, List.setIfInBounds_toArray, List.set_cons_zero, List.set_cons_succ])
                refine wpAnyH_take (i := 18) (oi := { dst := some 50, op := Go.Op.indexAddr 29 (Go.Operand.tmp 48) (Go.Operand.tmp 49), type := 0, pos := "ref.go:77", after := #[{ on := 16, ground := Go.Ground.data }, { on := 17, ground := Go.Ground.data }, { on := 15, ground := Go.Ground.guard }], guard := some (15, false) }) (v := undef) rfl (by kernel_rfl) (by kernel_rfl) (by kernel_rfl) (fun _ _ _ h => h) (Or.inr ⟨by rfl, rfl⟩) (by assumption) ?_
                (try simp only [Act.put, List.setIfInBounds_toArray, List.set_cons_zero, List.set_cons_succ])
                refine wpAnyH_take (i := 19) (oi := { dst := some 51, op := Go.Op.load 24 (Go.Operand.tmp 50), type := 24, pos := "ref.go:77", after := #[{ on := 18, ground := Go.Ground.data }, { on := 15, ground := Go.Ground.guard }], guard := some (15, false) }) (v := undef) rfl (by kernel_rfl) (by kernel_rfl) (by kernel_rfl) (fun _ _ _ h => h) (Or.inr ⟨by rfl, rfl⟩) (by assumption) ?_
                (try simp only [Act.put, List.setIfInBounds_toArray, List.set_cons_zero, List.set_cons_succ])
                refine wpAnyH_take (i := 20) (oi := { dst := some 52, op := Go.Op.move (Go.Operand.tmp 0), type := 29, pos := "ref.go:77", after := #[{ on := 15, ground := Go.Ground.guard }], guard := some (15, false) }) (v := undef) rfl (by kernel_rfl) (by kernel_rfl) (by kernel_rfl) (fun _ _ _ h => h) (Or.inr ⟨by rfl, rfl⟩) (by assumption) ?_
                (try simp only [Act.put, List.setIfInBounds_toArray, List.set_cons_zero, List.set_cons_succ])
                refine wpAnyH_take (i := 21) (oi := { dst := some 53, op := Go.Op.move (Go.Operand.tmp 11), type := 3, pos := "ref.go:77", after := #[{ on := 15, ground := Go.Ground.guard }], guard := some (15, false) }) (v := undef) rfl (by kernel_rfl) (by kernel_rfl) (by kernel_rfl) (fun _ _ _ h => h) (Or.inr ⟨by rfl, rfl⟩) (by assumption) ?_
                (try simp only [Act.put, List.setIfInBounds_toArray, List.set_cons_zero, List.set_cons_succ])
                refine wpAnyH_take (i := 22) (oi := { dst := some 54, op := Go.Op.indexAddr 29 (Go.Operand.tmp 52) (Go.Operand.tmp 53), type := 0, pos := "ref.go:77", after := #[{ on := 20, ground := Go.Ground.data }, { on := 21, ground := Go.Ground.data }, { on := 15, ground := Go.Ground.guard }], guard := some (15, false) }) (v := undef) rfl (by kernel_rfl) (by kernel_rfl) (by kernel_rfl) (fun _ _ _ h => h) (Or.inr ⟨by rfl, rfl⟩) (by assumption) ?_
                (try simp only [Act.put, List.setIfInBounds_toArray, List.set_cons_zero, List.set_cons_succ])
                refine wpAnyH_take (i := 23) (oi := { dst := some 55, op := Go.Op.load 24 (Go.Operand.tmp 54), type := 24, pos := "ref.go:77", after := #[{ on := 22, ground := Go.Ground.data }, { on := 15, ground := Go.Ground.guard }], guard := some (15, false) }) (v := undef) rfl (by kernel_rfl) (by kernel_rfl) (by kernel_rfl) (fun _ _ _ h => h) (Or.inr ⟨by rfl, rfl⟩) (by assumption) ?_
                (try simp only [Act.put, List.setIfInBounds_toArray, List.set_cons_zero, List.set_cons_succ])
                refine wpAnyH_take (i := 24) (oi := { dst := some 56, op := Go.Op.move (Go.Operand.tmp 1), type := 3, pos := "ref.go:77", after := #[{ on := 15, ground := Go.Ground.guard }], guard := some (15, false) }) (v := undef) rfl (by kernel_rfl) (by kernel_rfl) (by kernel_rfl) (fun _ _ _ h => h) (Or.inr ⟨by rfl, rfl⟩) (by assumption) ?_
                (try simp only [Act.put, List.setIfInBounds_toArray, List.set_cons_zero, List.set_cons_succ])
                refine wpAnyH_take (i := 25) (oi := { dst := some 57, op := Go.Op.move (Go.Operand.tmp 2), type := 22, pos := "ref.go:77", after := #[{ on := 15, ground := Go.Ground.guard }], guard := some (15, false) }) (v := undef) rfl (by kernel_rfl) (by kernel_rfl) (by kernel_rfl) (fun _ _ _ h => h) (Or.inr ⟨by rfl, rfl⟩) (by assumption) ?_
                (try simp only [Act.put, List.setIfInBounds_toArray, List.set_cons_zero, List.set_cons_succ])
                refine wpAnyH_take (i := 26) (oi := { dst := some 58, op := Go.Op.call { callee := Go.Callee.value (Go.Operand.func 11), args := #[Go.Operand.tmp 51, Go.Operand.tmp 55, Go.Operand.tmp 56, Go.Operand.tmp 57], argTypes := #[24, 24, 3, 22] }, type := 4, pos := "ref.go:77", after := #[{ on := 19, ground := Go.Ground.data }, { on := 23, ground := Go.Ground.data }, { on := 24, ground := Go.Ground.data }, { on := 25, ground := Go.Ground.data }, { on := 15, ground := Go.Ground.chain }, { on := 15, ground := Go.Ground.guard }], guard := some (15, false) }) (v := undef) rfl (by kernel_rfl) (by kernel_rfl) (by kernel_rfl) (fun _ _ _ h => h) (Or.inr ⟨by rfl, rfl⟩) (by assumption) ?_
                (try simp only [Act.put, List.setIfInBounds_toArray, List.set_cons_zero, List.set_cons_succ])
                refine wpAnyH_take (i := 27) (oi := { dst := some 59, op := Go.Op.unOp Go.UnOp.not 4 (Go.Operand.tmp 58), type := 4, pos := "ref.go:77", after := #[{ on := 26, ground := Go.Ground.data }, { on := 15, ground := Go.Ground.guard }], guard := some (15, false) }) (v := undef) rfl (by kernel_rfl) (by kernel_rfl) (by kernel_rfl) (fun _ _ _ h => h) (Or.inr ⟨by rfl, rfl⟩) (by assumption) ?_
                (try simp only [Act.put, List.setIfInBounds_toArray, List.set_cons_zero, List.set_cons_succ])
                refine wpAnyH_take (i := 28) (oi := { dst := some 60, op := Go.Op.move (Go.Operand.tmp 59), type := 4, pos := "ref.go:77", after := #[{ on := 27, ground := Go.Ground.data }, { on := 26, ground := Go.Ground.chain }, { on := 15, ground := Go.Ground.guard }], guard := some (15, false) }) (v := undef) rfl (by kernel_rfl) (by kernel_rfl) (by kernel_rfl) (fun _ _ _ h => h) (Or.inr ⟨by rfl, rfl⟩) (by assumption) ?_
                (try simp only [Act.put, List.setIfInBounds_toArray, List.set_cons_zero, List.set_cons_succ])
                refine wpAnyH_take (i := 29) (oi := { dst := some 61, op := Go.Op.move (Go.Operand.tmp 0), type := 29, pos := "ref.go:77", after := #[{ on := 28, ground := Go.Ground.guard }], guard := some (28, true) }) (v := undef) rfl (by kernel_rfl) (by kernel_rfl) (by kernel_rfl) (fun _ _ _ h => h) (Or.inr ⟨by rfl, rfl⟩) (by assumption) ?_
                (try simp only [Act.put, List.setIfInBounds_toArray, List.set_cons_zero, List.set_cons_succ])
                refine wpAnyH_take (i := 30) (oi := { dst := some 62, op := Go.Op.move (Go.Operand.tmp 11), type := 3, pos := "ref.go:77", after := #[{ on := 28, ground := Go.Ground.guard }], guard := some (28, true) }) (v := undef) rfl (by kernel_rfl) (by kernel_rfl) (by kernel_rfl) (fun _ _ _ h => h) (Or.inr ⟨by rfl, rfl⟩) (by assumption) ?_
                (try simp only [Act.put, List.setIfInBounds_toArray, List.set_cons_zero, List.set_cons_succ])
                refine wpAnyH_take (i := 31) (oi := { dst := some 63, op := Go.Op.indexAddr 29 (Go.Operand.tmp 61) (Go.Operand.tmp 62), type := 0, pos := "ref.go:77", after := #[{ on := 29, ground := Go.Ground.data }, { on := 30, ground := Go.Ground.data }, { on := 28, ground := Go.Ground.guard }], guard := some (28, true) }) (v := undef) rfl (by kernel_rfl) (by kernel_rfl) (by kernel_rfl) (fun _ _ _ h => h) (Or.inr ⟨by rfl, rfl⟩) (by assumption) ?_
                (try simp only [Act.put, List.setIfInBounds_toArray, List.set_cons_zero, List.set_cons_succ])
                refine wpAnyH_take (i := 32) (oi := { dst := some 64, op := Go.Op.fieldAddr 24 (Go.Operand.tmp 63) 3, type := 0, pos := "ref.go:77", after := #[{ on := 31, ground := Go.Ground.data }, { on := 28, ground := Go.Ground.guard }], guard := some (28, true) }) (v := undef) rfl (by kernel_rfl) (by kernel_rfl) (by kernel_rfl) (fun _ _ _ h => h) (Or.inr ⟨by rfl, rfl⟩) (by assumption) ?_
                (try simp only [Act.put, List.setIfInBounds_toArray, List.set_cons_zero, List.set_cons_succ])
                refine wpAnyH_take (i := 33) (oi := { dst := some 65, op := Go.Op.load 22 (Go.Operand.tmp 64), type := 22, pos := "ref.go:77", after := #[{ on := 32, ground := Go.Ground.data }, { on := 28, ground := Go.Ground.guard }], guard := some (28, true) }) (v := undef) rfl (by kernel_rfl) (by kernel_rfl) (by kernel_rfl) (fun _ _ _ h => h) (Or.inr ⟨by rfl, rfl⟩) (by assumption) ?_
                (try simp only [Act.put, List.setIfInBounds_toArray, List.set_cons_zero, List.set_cons_succ])
                refine wpAnyH_take (i := 34) (oi := { dst := some 66, op := Go.Op.move (Go.Operand.tmp 0), type := 29, pos := "ref.go:77", after := #[{ on := 28, ground := Go.Ground.guard }], guard := some (28, true) }) (v := undef) rfl (by kernel_rfl) (by kernel_rfl) (by kernel_rfl) (fun _ _ _ h => h) (Or.inr ⟨by rfl, rfl⟩) (by assumption) ?_
                (try simp only [Act.put, List.setIfInBounds_toArray, List.set_cons_zero, List.set_cons_succ])
                refine wpAnyH_take (i := 35) (oi := { dst := some 67, op := Go.Op.move (Go.Operand.tmp 10), type := 3, pos := "ref.go:77", after := #[{ on := 28, ground := Go.Ground.guard }], guard := some (28, true) }) (v := undef) rfl (by kernel_rfl) (by kernel_rfl) (by kernel_rfl) (fun _ _ _ h => h) (Or.inr ⟨by rfl, rfl⟩) (by assumption) ?_
                (try simp only [Act.put, List.setIfInBounds_toArray, List.set_cons_zero, List.set_cons_succ])
                refine wpAnyH_take (i := 36) (oi := { dst := some 68, op := Go.Op.indexAddr 29 (Go.Operand.tmp 66) (Go.Operand.tmp 67), type := 0, pos := "ref.go:77", after := #[{ on := 34, ground := Go.Ground.data }, { on := 35, ground := Go.Ground.data }, { on := 28, ground := Go.Ground.guard }], guard := some (28, true) }) (v := undef) rfl (by kernel_rfl) (by kernel_rfl) (by kernel_rfl) (fun _ _ _ h => h) (Or.inr ⟨by rfl, rfl⟩) (by assumption) ?_
                (try simp only [Act.put, List.setIfInBounds_toArray, List.set_cons_zero, List.set_cons_succ])
                refine wpAnyH_take (i := 37) (oi := { dst := some 69, op := Go.Op.fieldAddr 24 (Go.Operand.tmp 68) 3, type := 0, pos := "ref.go:77", after := #[{ on := 36, ground := Go.Ground.data }, { on := 28, ground := Go.Ground.guard }], guard := some (28, true) }) (v := undef) rfl (by kernel_rfl) (by kernel_rfl) (by kernel_rfl) (fun _ _ _ h => h) (Or.inr ⟨by rfl, rfl⟩) (by assumption) ?_
                (try simp only [Act.put, List.setIfInBounds_toArray, List.set_cons_zero, List.set_cons_succ])
                refine wpAnyH_take (i := 38) (oi := { dst := some 70, op := Go.Op.load 22 (Go.Operand.tmp 69), type := 22, pos := "ref.go:77", after := #[{ on := 37, ground := Go.Ground.data }, { on := 28, ground := Go.Ground.guard }], guard := some (28, true) }) (v := undef) rfl (by kernel_rfl) (by kernel_rfl) (by kernel_rfl) (fun _ _ _ h => h) (Or.inr ⟨by rfl, rfl⟩) (by assumption) ?_
                (try simp only [Act.put, List.setIfInBounds_toArray, List.set_cons_zero, List.set_cons_succ])
                refine wpAnyH_take (i := 39) (oi := { dst := some 71, op := Go.Op.binOp Go.BinOp.lss 22 (Go.Operand.tmp 65) (Go.Operand.tmp 70) 22, type := 4, pos := "ref.go:77", after := #[{ on := 33, ground := Go.Ground.data }, { on := 38, ground := Go.Ground.data }, { on := 28, ground := Go.Ground.guard }], guard := some (28, true) }) (v := undef) rfl (by kernel_rfl) (by kernel_rfl) (by kernel_rfl) (fun _ _ _ h => h) (Or.inr ⟨by rfl, rfl⟩) (by assumption) ?_
                (try simp only [Act.put, List.setIfInBounds_toArray, List.set_cons_zero, List.set_cons_succ])
                refine wpAnyH_take (i := 40) (oi := { dst := some 72, op := Go.Op.pick (Go.Operand.tmp 60) (Go.Operand.tmp 71) (Go.Operand.const (Go.Value.bool false)), type := 4, pos := "ref.go:77", after := #[{ on := 28, ground := Go.Ground.data }, { on := 39, ground := Go.Ground.data }, { on := 15, ground := Go.Ground.guard }], guard := some (15, false) }) (v := undef) rfl (by kernel_rfl) (by kernel_rfl) (by kernel_rfl) (fun _ _ _ h => h) (Or.inr ⟨by rfl, rfl⟩) (by assumption) ?_
                (try simp only [Act.put, List.setIfInBounds_toArray, List.set_cons_zero, List.set_cons_succ])
                refine' wpAnyH_take (i := 41) (oi := { dst := some 73, op := Go.Op.pick (Go.Operand.tmp 47) (Go.Operand.const (Go.Value.bool true)) (Go.Operand.tmp 72), type := 4, pos := "ref.go:77", after := #[{ on := 15, ground := Go.Ground.data }, { on := 40, ground := Go.Ground.data }], guard := none }) (v := _) rfl (by kernel_rfl) (by kernel_rfl) (by kernel_rfl) (fun _ _ _ h => h) (Or.inl ⟨by rfl, ?hy114⟩) (by assumption) ?rest114
                case hy114 => (intro w hSw; (try dsimp only at hSw); go_simp; try (with_reducible rfl))
                (try simp only [Act.put, List.setIfInBounds_toArray, List.set_cons_zero, List.set_cons_succ])
                refine wpAnyH_done (by kernel_rfl) ?_ _
                refine NoPanic.normal ?_
                all_goals go_wp2
                all_goals go_roundw
                all_goals (first | (case rel => exact ⟨k + 1, by omega, by go_num, by rw [hs.out], hq8.out⟩) | skip)
                all_goals (simp [intOf]; omega)
              | false =>
                cases q2 : betS l[j] l[k] size now with
                | true =>
                  have hw : wins l[k] l[j] size now = false := by unfold wins; simp [*]
                  have hs := Lib.hid (ch_keep (opn := opn) hlt hjl hj hw)
                  rw [q1] at hkj
                  rw [q2] at hjk2
                  rw [hj]
                  clear hw hc hj hrg q1 q2
                  go_wp2_with fail
                  refine (hrc.out _ hB).mono ?_
                  rintro e w2 ⟨rfl, rfl⟩
                  go_wp2
                  refine wp_region_noPanic ?_
                  refine wp_region_held_drew (S := (fun w' : World => w'.cell? (ad.add (k * 4)) = some (.int .i64 l[k].used) ∧ w'.cell? ⟨(ad.add (k * 4)).block, (ad.add (k * 4)).off + 1, none⟩ = some (.int .i64 l[k].live) ∧ w'.cell? ⟨(ad.add (k * 4)).block, (ad.add (k * 4)).off + 2, none⟩ = some (.int .u64 l[k].age) ∧ w'.cell? ⟨(ad.add (k * 4)).block, (ad.add (k * 4)).off + 3, none⟩ = some (.int .u64 l[k].wear) ∧ w'.cell? (ad.add (j * 4)) = some (.int .i64 l[j].used) ∧ w'.cell? ⟨(ad.add (j * 4)).block, (ad.add (j * 4)).off + 1, none⟩ = some (.int .i64 l[j].live) ∧ w'.cell? ⟨(ad.add (j * 4)).block, (ad.add (j * 4)).off + 2, none⟩ = some (.int .u64 l[j].age) ∧ w'.cell? ⟨(ad.add (j * 4)).block, (ad.add (j * 4)).off + 3, none⟩ = some (.int .u64 l[j].wear) ∧ Hid (Below w.heap.size w w'))) (by kernel_rfl) ⟨c0, c1, c2, c3, f0, f1, f2, f3, below_drewN hBh.out 1⟩ (fun hHeld => ?_)
                  refine' wpAnyH_take (i := 0) (oi := { dst := some 32, op := Go.Op.move (Go.Operand.tmp 10), type := 3, pos := "ref.go:77", after := #[], guard := none }) (v := _) rfl (by kernel_rfl) (by kernel_rfl) (by kernel_rfl) (fun _ _ _ h => h) (Or.inl ⟨by rfl, ?hy115⟩) (by assumption) ?rest115
                  case hy115 => (intro w hSw; (try dsimp only at hSw); go_simp; try (with_reducible rfl))
                  (try simp only [Act.put, List.setIfInBounds_toArray, List.set_cons_zero, List.set_cons_succ])
                  refine' wpAnyH_take (i := 1) (oi := { dst := some 33, op := Go.Op.binOp Go.BinOp.lss 3 (Go.Operand.tmp 32) (Go.Operand.const (Go.Value.int Go.IntKind.i64 0)) 3, type := 4, pos := "ref.go:77", after := #[{ on := 0, ground := Go.Ground.data }], guard := none }) (v := _) rfl (by kernel_rfl) (by kernel_rfl) (by kernel_rfl) (fun _ _ _ h => h) (Or.inl ⟨by rfl, ?hy116⟩) (by assumption) ?rest116
                  case hy116 => (intro w hSw; (try dsimp only at hSw); go_simp; try (with_reducible rfl))
                  (try simp only [Act.put, List.setIfInBounds_toArray, List.set_cons_zero, List.set_cons_succ])
                  refine' wpAnyH_take (i := 2) (oi := { dst := some 34, op := Go.Op.move (Go.Operand.tmp 33), type := 4, pos := "ref.go:77", after := #[{ on := 1, ground := Go.Ground.data }], guard := none }) (v := _) rfl (by kernel_rfl) (by kernel_rfl) (by kernel_rfl) (fun _ _ _ h => h) (Or.inl ⟨by rfl, ?hy117⟩) (by assumption) ?rest117
                  case hy117 => (intro w hSw; (try dsimp only at hSw); go_simp; try (with_reducible rfl))
                  (try simp only [Act.put, List.setIfInBounds_toArray, List.set_cons_zero, List.set_cons_succ])
                  refine' wpAnyH_take (i := 3) (oi := { dst := some 35, op := Go.Op.move (Go.Operand.tmp 0), type := 29, pos := "ref.go:77", after := #[{ on := 2, ground := Go.Ground.guard }], guard := some (2, false) }) (v := _) rfl (by kernel_rfl) (by kernel_rfl) (by kernel_rfl) (fun _ _ _ h => h) (Or.inl ⟨by rfl, ?hy118⟩) (by assumption) ?rest118
                  case hy118 => (intro w hSw; (try dsimp only at hSw); go_simp; try (with_reducible rfl))
                  (try simp only [Act.put, List.setIfInBounds_toArray, List.set_cons_zero, List.set_cons_succ])
                  refine' wpAnyH_take (i := 4) (oi := { dst := some 36, op := Go.Op.move (Go.Operand.tmp 11), type := 3, pos := "ref.go:77", after := #[{ on := 2, ground := Go.Ground.guard }], guard := some (2, false) }) (v := _) rfl (by kernel_rfl) (by kernel_rfl) (by kernel_rfl) (fun _ _ _ h => h) (Or.inl ⟨by rfl, ?hy119⟩) (by assumption) ?rest119
                  case hy119 => (intro w hSw; (try dsimp only at hSw); go_simp; try (with_reducible rfl))
                  (try simp only [Act.put, List.setIfInBounds_toArray, List.set_cons_zero, List.set_cons_succ])
                  refine' wpAnyH_take (i := 5) (oi := { dst := some 37, op := Go.Op.indexAddr 29 (Go.Operand.tmp 35) (Go.Operand.tmp 36), type := 0, pos := "ref.go:77", after := #[{ on := 3, ground := Go.Ground.data }, { on := 4, ground := Go.Ground.data }, { on := 2, ground := Go.Ground.guard }], guard := some (2, false) }) (v := _) rfl (by kernel_rfl) (by kernel_rfl) (by kernel_rfl) (fun _ _ _ h => h) (Or.inl ⟨by rfl, ?hy120⟩) (by assumption) ?rest120
                  case hy120 => (intro w hSw; (try dsimp only at hSw); go_simp; try (with_reducible rfl))
                  (try simp only [Act.put, List.setIfInBounds_toArray, List.set_cons_zero, List.set_cons_succ])
                  refine' wpAnyH_take (i := 6) (oi := { dst := some 38, op := Go.Op.load 24 (Go.Operand.tmp 37), type := 24, pos := "ref.go:77", after := #[{ on := 5, ground := Go.Ground.data }, { on := 2, ground := Go.Ground.guard }], guard := some (2, false) }) (v := _) rfl (by kernel_rfl) (by kernel_rfl) (by kernel_rfl) (fun _ _ _ h => h) (Or.inl ⟨by rfl, ?hy121⟩) (by assumption) ?rest121
                  case hy121 => (intro w hSw; (try dsimp only at hSw); go_simp; try (with_reducible rfl))
                  (try simp only [Act.put, List.setIfInBounds_toArray, List.set_cons_zero, List.set_cons_succ])
                  refine' wpAnyH_take (i := 7) (oi := { dst := some 39, op := Go.Op.move (Go.Operand.tmp 0), type := 29, pos := "ref.go:77", after := #[{ on := 2, ground := Go.Ground.guard }], guard := some (2, false) }) (v := _) rfl (by kernel_rfl) (by kernel_rfl) (by kernel_rfl) (fun _ _ _ h => h) (Or.inl ⟨by rfl, ?hy122⟩) (by assumption) ?rest122
                  case hy122 => (intro w hSw; (try dsimp only at hSw); go_simp; try (with_reducible rfl))
                  (try simp only [Act.put, List.setIfInBounds_toArray, List.set_cons_zero, List.set_cons_succ])
                  refine' wpAnyH_take (i := 8) (oi := { dst := some 40, op := Go.Op.move (Go.Operand.tmp 10), type := 3, pos := "ref.go:77", after := #[{ on := 2, ground := Go.Ground.guard }], guard := some (2, false) }) (v := _) rfl (by kernel_rfl) (by kernel_rfl) (by kernel_rfl) (fun _ _ _ h => h) (Or.inl ⟨by rfl, ?hy123⟩) (by assumption) ?rest123
                  case hy123 => (intro w hSw; (try dsimp only at hSw); go_simp; try (with_reducible rfl))
                  (try simp only [Act.put, List.setIfInBounds_toArray, List.set_cons_zero, List.set_cons_succ])
                  refine' wpAnyH_take (i := 9) (oi := { dst := some 41, op := Go.Op.indexAddr 29 (Go.Operand.tmp 39) (Go.Operand.tmp 40), type := 0, pos := "ref.go:77", after := #[{ on := 7, ground := Go.Ground.data }, { on := 8, ground := Go.Ground.data }, { on := 2, ground := Go.Ground.guard }], guard := some (2, false) }) (v := _) rfl (by kernel_rfl) (by kernel_rfl) (by kernel_rfl) (fun _ _ _ h => h) (Or.inl ⟨by rfl, ?hy124⟩) (by assumption) ?rest124
                  case hy124 => (intro w hSw; (try dsimp only at hSw); go_simp; try (with_reducible rfl))
                  (try simp only [Act.put, List.setIfInBounds_toArray, List.set_cons_zero, List.set_cons_succ])
                  refine' wpAnyH_take (i := 10) (oi := { dst := some 42, op := Go.Op.load 24 (Go.Operand.tmp 41), type := 24, pos := "ref.go:77", after := #[{ on := 9, ground := Go.Ground.data }, { on := 2, ground := Go.Ground.guard }], guard := some (2, false) }) (v := _) rfl (by kernel_rfl) (by kernel_rfl) (by kernel_rfl) (fun _ _ _ h => h) (Or.inl ⟨by rfl, ?hy125⟩) (by assumption) ?rest125
                  case hy125 => (intro w hSw; (try dsimp only at hSw); go_simp; try (with_reducible rfl))
                  (try simp only [Act.put, List.setIfInBounds_toArray, List.set_cons_zero, List.set_cons_succ])
                  refine' wpAnyH_take (i := 11) (oi := { dst := some 43, op := Go.Op.move (Go.Operand.tmp 1), type := 3, pos := "ref.go:77", after := #[{ on := 2, ground := Go.Ground.guard }], guard := some (2, false) }) (v := _) rfl (by kernel_rfl) (by kernel_rfl) (by kernel_rfl) (fun _ _ _ h => h) (Or.inl ⟨by rfl, ?hy126⟩) (by assumption) ?rest126
                  case hy126 => (intro w hSw; (try dsimp only at hSw); go_simp; try (with_reducible rfl))
                  (try simp only [Act.put, List.setIfInBounds_toArray, List.set_cons_zero, List.set_cons_succ])
                  refine' wpAnyH_take (i := 12) (oi := { dst := some 44, op := Go.Op.move (Go.Operand.tmp 2), type := 22, pos := "ref.go:77", after := #[{ on := 2, ground := Go.Ground.guard }], guard := some (2, false) }) (v := _) rfl (by kernel_rfl) (by kernel_rfl) (by kernel_rfl) (fun _ _ _ h => h) (Or.inl ⟨by rfl, ?hy127⟩) (by assumption) ?rest127
                  case hy127 => (intro w hSw; (try dsimp only at hSw); go_simp; try (with_reducible rfl))
                  (try simp only [Act.put, List.setIfInBounds_toArray, List.set_cons_zero, List.set_cons_succ])
                  refine wpAnyH_ready (rs := [13]) (by kernel_rfl) (by simp) ?_
                  refine AllReadyH.cons (o := { dst := some 45, op := Go.Op.call { callee := Go.Callee.value (Go.Operand.func 11), args := #[Go.Operand.tmp 38, Go.Operand.tmp 42, Go.Operand.tmp 43, Go.Operand.tmp 44], argTypes := #[24, 24, 3, 22] }, type := 4, pos := "ref.go:77", after := #[{ on := 6, ground := Go.Ground.data }, { on := 10, ground := Go.Ground.data }, { on := 11, ground := Go.Ground.data }, { on := 12, ground := Go.Ground.data }, { on := 2, ground := Go.Ground.chain }, { on := 2, ground := Go.Ground.guard }], guard := some (2, false) }) rfl (fun K hK => ?_) AllReadyH.nil
                  go_simp
                  refine (callK (S := (fun w' : World => w'.cell? (ad.add (k * 4)) = some (.int .i64 l[k].used) ∧ w'.cell? ⟨(ad.add (k * 4)).block, (ad.add (k * 4)).off + 1, none⟩ = some (.int .i64 l[k].live) ∧ w'.cell? ⟨(ad.add (k * 4)).block, (ad.add (k * 4)).off + 2, none⟩ = some (.int .u64 l[k].age) ∧ w'.cell? ⟨(ad.add (k * 4)).block, (ad.add (k * 4)).off + 3, none⟩ = some (.int .u64 l[k].wear) ∧ w'.cell? (ad.add (j * 4)) = some (.int .i64 l[j].used) ∧ w'.cell? ⟨(ad.add (j * 4)).block, (ad.add (j * 4)).off + 1, none⟩ = some (.int .i64 l[j].live) ∧ w'.cell? ⟨(ad.add (j * 4)).block, (ad.add (j * 4)).off + 2, none⟩ = some (.int .u64 l[j].age) ∧ w'.cell? ⟨(ad.add (j * 4)).block, (ad.add (j * 4)).off + 3, none⟩ = some (.int .u64 l[j].wear) ∧ Hid (Below w.heap.size w w'))) hS.out (fun W _ => hkj.out W) (by assumption)).mono ?_
                  rintro e w' ⟨rfl, hq0, hq1, hq2, hq3, hq4, hq5, hq6, hq7, hq8⟩
                  refine hK.out _ _ ⟨hq0, hq1, hq2, hq3, hq4, hq5, hq6, hq7, hq8⟩ (fun hHeld => ?_)
                  clear hK K
                  (try simp only [Act.put, List.setIfInBounds_toArray, List.set_cons_zero, List.set_cons_succ])
                  refine' wpAnyH_take (i := 14) (oi := { dst := some 46, op := Go.Op.pick (Go.Operand.tmp 34) (Go.Operand.const (Go.Value.bool true)) (Go.Operand.tmp 45), type := 4, pos := "ref.go:77", after := #[{ on := 2, ground := Go.Ground.data }, { on := 13, ground := Go.Ground.data }], guard := none }) (v := _) rfl (by kernel_rfl) (by kernel_rfl) (by kernel_rfl) (fun _ _ _ h => h) (Or.inl ⟨by rfl, ?hy128⟩) (by assumption) ?rest128
                  case hy128 => (intro w hSw; (try dsimp only at hSw); go_simp; try (with_reducible rfl))
                  (try simp only [Act.put, List.setIfInBounds_toArray, List.set_cons_zero, List.set_cons_succ])
                  refine' wpAnyH_take (i := 15) (oi := { dst := some 47, op := Go.Op.move (Go.Operand.tmp 46), type := 4, pos := "ref.go:77", after := #[{ on := 14, ground := Go.Ground.data }, { on := 13, ground := Go.Ground.chain }], guard := none }) (v := _) rfl (by kernel_rfl) (by kernel_rfl) (by kernel_rfl) (fun _ _ _ h => h) (Or.inl ⟨by rfl, ?hy129⟩) (by assumption) ?rest129
                  case hy129 => (intro w hSw; (try dsimp only at hSw); go_simp; try (with_reducible rfl))
                  (try simp only [Act.put, List.setIfInBounds_toArray, List.set_cons_zero, List.set_cons_succ])
                  refine' wpAnyH_take (i := 16) (oi := { dst := some 48, op := Go.Op.move (Go.Operand.tmp 0), type := 29, pos := "ref.go:77", after := #[{ on := 15, ground := Go.Ground.guard }], guard := some (15, false) }) (v := _) rfl (by kernel_rfl) (by kernel_rfl) (by kernel_rfl) (fun _ _ _ h => h) (Or.inl ⟨by rfl, ?hy130⟩) (by assumption) ?rest130
                  case hy130 => (intro w hSw; (try dsimp only at hSw); go_simp; try (with_reducible rfl))
                  (try simp only [Act.put, List.setIfInBounds_toArray, List.set_cons_zero, List.set_cons_succ])
                  refine' wpAnyH_take (i := 17) (oi := { dst := some 49, op := Go.Op.move (Go.Operand.tmp 10), type := 3, pos := "ref.go:77", after := #[{ on := 15, ground := Go.Ground.guard }], guard := some (15, false) }) (v := _) rfl (by kernel_rfl) (by kernel_rfl) (by kernel_rfl) (fun _ _ _ h => h) (Or.inl ⟨by rfl, ?hy131⟩) (by assumption) ?rest131
                  case hy131 => (intro w hSw; (try dsimp only at hSw); go_simp; try (with_reducible rfl))
                  (try simp only [Act.put, List.setIfInBounds_toArray, List.set_cons_zero, List.set_cons_succ])
                  refine' wpAnyH_take (i := 18) (oi := { dst := some 50, op := Go.Op.indexAddr 29 (Go.Operand.tmp 48) (Go.Operand.tmp 49), type := 0, pos := "ref.go:77", after := #[{ on := 16, ground := Go.Ground.data }, { on := 17, ground := Go.Ground.data }, { on := 15, ground := Go.Ground.guard }], guard := some (15, false) }) (v := _) rfl (by kernel_rfl) (by kernel_rfl) (by kernel_rfl) (fun _ _ _ h => h) (Or.inl ⟨by rfl, ?hy132⟩) (by assumption) ?rest132
                  case hy132 => (intro w hSw; (try dsimp only at hSw); go_simp; try (with_reducible rfl))
                  (try simp only [Act.put, List.setIfInBounds_toArray, List.set_cons_zero, List.set_cons_succ])
                  refine' wpAnyH_take (i := 19) (oi := { dst := some 51, op := Go.Op.load 24 (Go.Operand.tmp 50), type := 24, pos := "ref.go:77", after := #[{ on := 18, ground := Go.Ground.data }, { on := 15, ground := Go.Ground.guard }], guard := some (15, false) }) (v := _) rfl (by kernel_rfl) (by kernel_rfl) (by kernel_rfl) (fun _ _ _ h => h) (Or.inl ⟨by rfl, ?hy133⟩) (by assumption) ?rest133
                  case hy133 => (intro w hSw; (try dsimp only at hSw); go_simp; try (with_reducible rfl))
                  (try simp only [Act.put, List.setIfInBounds_toArray, List.set_cons_zero, List.set_cons_succ])
                  refine' wpAnyH_take (i := 20) (oi := { dst := some 52, op := Go.Op.move (Go.Operand.tmp 0), type := 29, pos := "ref.go:77", after := #[{ on := 15, ground := Go.Ground.guard }], guard := some (15, false) }) (v := _) rfl (by kernel_rfl) (by kernel_rfl) (by kernel_rfl) (fun _ _ _ h => h) (Or.inl ⟨by rfl, ?hy134⟩) (by assumption) ?rest134
                  case hy134 => (intro w hSw; (try dsimp only at hSw); go_simp; try (with_reducible rfl))
                  (try simp only [Act.put, List.setIfInBounds_toArray, List.set_cons_zero, List.set_cons_succ])
                  refine' wpAnyH_take (i := 21) (oi := { dst := some 53, op := Go.Op.move (Go.Operand.tmp 11), type := 3, pos := "ref.go:77", after := #[{ on := 15, ground := Go.Ground.guard }], guard := some (15, false) }) (v := _) rfl (by kernel_rfl) (by kernel_rfl) (by kernel_rfl) (fun _ _ _ h => h) (Or.inl ⟨by rfl, ?hy135⟩) (by assumption) ?rest135
                  case hy135 => (intro w hSw; (try dsimp only at hSw); go_simp; try (with_reducible rfl))
                  (try simp only [Act.put, List.setIfInBounds_toArray, List.set_cons_zero, List.set_cons_succ])
                  refine' wpAnyH_take (i := 22) (oi := { dst := some 54, op := Go.Op.indexAddr 29 (Go.Operand.tmp 52) (Go.Operand.tmp 53), type := 0, pos := "ref.go:77", after := #[{ on := 20, ground := Go.Ground.data }, { on := 21, ground := Go.Ground.data }, { on := 15, ground := Go.Ground.guard }], guard := some (15, false) }) (v := _) rfl (by kernel_rfl) (by kernel_rfl) (by kernel_rfl) (fun _ _ _ h => h) (Or.inl ⟨by rfl, ?hy136⟩) (by assumption) ?rest136
                  case hy136 => (intro w hSw; (try dsimp only at hSw); go_simp; try (with_reducible rfl))
                  (try simp only [Act.put, List.setIfInBounds_toArray, List.set_cons_zero, List.set_cons_succ])
                  refine' wpAnyH_take (i := 23) (oi := { dst := some 55, op := Go.Op.load 24 (Go.Operand.tmp 54), type := 24, pos := "ref.go:77", after := #[{ on := 22, ground := Go.Ground.data }, { on := 15, ground := Go.Ground.guard }], guard := some (15, false) }) (v := _) rfl (by kernel_rfl) (by kernel_rfl) (by kernel_rfl) (fun _ _ _ h => h) (Or.inl ⟨by rfl, ?hy137⟩) (by assumption) ?rest137
                  case hy137 => (intro w hSw; (try dsimp only at hSw); go_simp; try (with_reducible rfl))
                  (try simp only [Act.put, List.setIfInBounds_toArray, List.set_cons_zero, List.set_cons_succ])
                  refine' wpAnyH_take (i := 24) (oi := { dst := some 56, op := Go.Op.move (Go.Operand.tmp 1), type := 3, pos := "ref.go:77", after := #[{ on := 15, ground := Go.Ground.guard }], guard := some (15, false) }) (v := _) rfl (by kernel_rfl) (by kernel_rfl) (by kernel_rfl) (fun _ _ _ h => h) (Or.inl ⟨by rfl, ?hy138⟩) (by assumption) ?rest138
                  case hy138 => (intro w hSw; (try dsimp only at hSw); go_simp; try (with_reducible rfl))
                  (try simp only [Act.put, List.setIfInBounds_toArray, List.set_cons_zero, List.set_cons_succ])
                  refine' wpAnyH_take (i := 25) (oi := { dst := some 57, op := Go.Op.move (Go.Operand.tmp 2), type := 22, pos := "ref.go:77", after := #[{ on := 15, ground := Go.Ground.guard }], guard := some (15, false) }) (v := _) rfl (by kernel_rfl) (by kernel_rfl) (by kernel_rfl) (fun _ _ _ h => h) (Or.inl ⟨by rfl, ?hy139⟩) (by assumption) ?rest139
                  case hy139 => (intro w hSw; (try dsimp only at hSw); go_simp; try (with_reducible rfl))
                  (try simp only [Act.put, List.setIfInBounds_toArray, List.set_cons_zero, List.set_cons_succ])
                  refine wpAnyH_ready (rs := [26]) (by kernel_rfl) (by simp) ?_
                  refine AllReadyH.cons (o := { dst := some 58, op := Go.Op.call { callee := Go.Callee.value (Go.Operand.func 11), args := #[Go.Operand.tmp 51, Go.Operand.tmp 55, Go.Operand.tmp 56, Go.Operand.tmp 57], argTypes := #[24, 24, 3, 22] }, type := 4, pos := "ref.go:77", after := #[{ on := 19, ground := Go.Ground.data }, { on := 23, ground := Go.Ground.data }, { on := 24, ground := Go.Ground.data }, { on := 25, ground := Go.Ground.data }, { on := 15, ground := Go.Ground.chain }, { on := 15, ground := Go.Ground.guard }], guard := some (15, false) }) rfl (fun K hK => ?_) AllReadyH.nil
                  go_simp
                  refine (callK (S := (fun w' : World => w'.cell? (ad.add (k * 4)) = some (.int .i64 l[k].used) ∧ w'.cell? ⟨(ad.add (k * 4)).block, (ad.add (k * 4)).off + 1, none⟩ = some (.int .i64 l[k].live) ∧ w'.cell? ⟨(ad.add (k * 4)).block, (ad.add (k * 4)).off + 2, none⟩ = some (.int .u64 l[k].age) ∧ w'.cell? ⟨(ad.add (k * 4)).block, (ad.add (k * 4)).off + 3, none⟩ = some (.int .u64 l[k].wear) ∧ w'.cell? (ad.add (j * 4)) = some (.int .i64 l[j].used) ∧ w'.cell? ⟨(ad.add (j * 4)).block, (ad.add (j * 4)).off + 1, none⟩ = some (.int .i64 l[j].live) ∧ w'.cell? ⟨(ad.add (j * 4)).block, (ad.add (j * 4)).off + 2, none⟩ = some (.int .u64 l[j].age) ∧ w'.cell? ⟨(ad.add (j * 4)).block, (ad.add (j * 4)).off + 3, none⟩ = some (.int .u64 l[j].wear) ∧ Hid (Below w.heap.size w w'))) hS.out (fun W _ => hjk2.out W) (by assumption)).mono ?_
                  rintro e w' ⟨rfl, hq0, hq1, hq2, hq3, hq4, hq5, hq6, hq7, hq8⟩
                  refine hK.out _ _ ⟨hq0, hq1, hq2, hq3, hq4, hq5, hq6, hq7, hq8⟩ (fun hHeld => ?_)
                  clear hK K
                  (try simp only [Act.put, List.setIfInBounds_toArray, List.set_cons_zero, List.set_cons_succ])
                  refine' wpAnyH_take (i := 27) (oi := { dst := some 59, op := Go.Op.unOp Go.UnOp.not 4 (Go.Operand.tmp 58), type := 4, pos := "ref.go:77", after := #[{ on := 26, ground := Go.Ground.data }, { on := 15, ground := Go.Ground.guard }], guard := some (15, false) }) (v := _) rfl (by kernel_rfl) (by kernel_rfl) (by kernel_rfl) (fun _ _ _ h => h) (Or.inl ⟨by rfl, ?hy140⟩) (by assumption) ?rest140
                  case hy140 => (intro w hSw; (try dsimp only at hSw); go_simp; try (with_reducible rfl))
                  (try simp only [Act.put, List.setIfInBounds_toArray, List.set_cons_zero, List.set_cons_succ])
                  refine' wpAnyH_take (i := 28) (oi := { dst := some 60, op := Go.Op.move (Go.Operand.tmp 59), type := 4, pos := "ref.go:77", after := #[{ on := 27, ground := Go.Ground.data }, { on := 26, ground := Go.Ground.chain }, { on := 15, ground := Go.Ground.guard }], guard := some (15, false) }) (v := _) rfl (by kernel_rfl) (by kernel_rfl) (by kernel_rfl) (fun _ _ _ h => h) (Or.inl ⟨by rfl, ?hy141⟩) (by assumption) ?rest141
                  case hy141 => (intro w hSw; (try dsimp only at hSw); go_simp; try (with_reducible rfl))
                  (try simp only [Act.put, List.setIfInBounds_toArray, List.set_cons_zero, List.set_cons_succ])
                  refine wpAnyH_take (i := 29) (oi := { dst := some 61, op := Go.Op.move (Go.Operand.tmp 0), type := 29, pos := "ref.go:77", after := #[{ on := 28, ground := Go.Ground.guard }], guard := some (28, true) }) (v := undef) rfl (by kernel_rfl) (by kernel_rfl) (by kernel_rfl) (fun _ _ _ h => h) (Or.inr ⟨by rfl, rfl⟩) (by assumption) ?_
                  (try simp only [Act.put, List.setIfInBounds_toArray, List.set_cons_zero, List.set_cons_succ])
                  refine wpAnyH_take (i := 30) (oi := { dst := some 62, op := Go.Op.move (Go.Operand.tmp 11), type := 3, pos := "ref.go:77", after := #[{ on := 28, ground := Go.Ground.guard }], guard := some (28, true) }) (v := undef) rfl (by kernel_rfl) (by kernel_rfl) (by kernel_rfl) (fun _ _ _ h => h) (Or.inr ⟨by rfl, rfl⟩) (by assumption) ?_
                  (try simp only [Act.put, List.setIfInBounds_toArray, List.set_cons_zero, List.set_cons_succ])
                  refine wpAnyH_take (i := 31) (oi := { dst := some 63, op := Go.Op.indexAddr 29 (Go.Operand.tmp 61) (Go.Operand.tmp 62), type := 0, pos := "ref.go:77", after := #[{ on := 29, ground := Go.Ground.data }, { on := 30, ground := Go.Ground.data }, { on := 28, ground := Go.Ground.guard }], guard := some (28, true) }) (v := undef) rfl (by kernel_rfl) (by kernel_rfl) (by kernel_rfl) (fun _ _ _ h => h) (Or.inr ⟨by rfl, rfl⟩) (by assumption) ?_
                  (try simp only [Act.put, List.setIfInBounds_toArray, List.set_cons_zero, List.set_cons_succ])
                  refine wpAnyH_take (i := 32) (oi := { dst := some 64, op := Go.Op.fieldAddr 24 (Go.Operand.tmp 63) 3, type := 0, pos := "ref.go:77", after := #[{ on := 31, ground := Go.Ground.data }, { on := 28, ground := Go.Ground.guard }], guard := some (28, true) }) (v := undef) rfl (by kernel_rfl) (by kernel_rfl) (by kernel_rfl) (fun _ _ _ h => h) (Or.inr ⟨by rfl, rfl⟩) (by assumption) ?_
                  (try simp only [Act.put, List.setIfInBounds_toArray, List.set_cons_zero, List.set_cons_succ])
                  refine wpAnyH_take (i := 33) (oi := { dst := some 65, op := Go.Op.load 22 (Go.Operand.tmp 64), type := 22, pos := "ref.go:77", after := #[{ on := 32, ground := Go.Ground.data }, { on := 28, ground := Go.Ground.guard }], guard := some (28, true) }) (v := undef) rfl (by kernel_rfl) (by kernel_rfl) (by kernel_rfl) (fun _ _ _ h => h) (Or.inr ⟨by rfl, rfl⟩) (by assumption) ?_
                  (try simp only [Act.put, List.setIfInBounds_toArray, List.set_cons_zero, List.set_cons_succ])
                  refine wpAnyH_take (i := 34) (oi := { dst := some 66, op := Go.Op.move (Go.Operand.tmp 0), type := 29, pos := "ref.go:77", after := #[{ on := 28, ground := Go.Ground.guard }], guard := some (28, true) }) (v := undef) rfl (by kernel_rfl) (by kernel_rfl) (by kernel_rfl) (fun _ _ _ h => h) (Or.inr ⟨by rfl, rfl⟩) (by assumption) ?_
                  (try simp only [Act.put, List.setIfInBounds_toArray, List.set_cons_zero, List.set_cons_succ])
                  refine wpAnyH_take (i := 35) (oi := { dst := some 67, op := Go.Op.move (Go.Operand.tmp 10), type := 3, pos := "ref.go:77", after := #[{ on := 28, ground := Go.Ground.guard }], guard := some (28, true) }) (v := undef) rfl (by kernel_rfl) (by kernel_rfl) (by kernel_rfl) (fun _ _ _ h => h) (Or.inr ⟨by rfl, rfl⟩) (by assumption) ?_
                  (try simp only [Act.put, List.setIfInBounds_toArray, List.set_cons_zero, List.set_cons_succ])
                  refine wpAnyH_take (i := 36) (oi := { dst := some 68, op := Go.Op.indexAddr 29 (Go.Operand.tmp 66) (Go.Operand.tmp 67), type := 0, pos := "ref.go:77", after := #[{ on := 34, ground := Go.Ground.data }, { on := 35, ground := Go.Ground.data }, { on := 28, ground := Go.Ground.guard }], guard := some (28, true) }) (v := undef) rfl (by kernel_rfl) (by kernel_rfl) (by kernel_rfl) (fun _ _ _ h => h) (Or.inr ⟨by rfl, rfl⟩) (by assumption) ?_
                  (try simp only [Act.put, List.setIfInBounds_toArray, List.set_cons_zero, List.set_cons_succ])
                  refine wpAnyH_take (i := 37) (oi := { dst := some 69, op := Go.Op.fieldAddr 24 (Go.Operand.tmp 68) 3, type := 0, pos := "ref.go:77", after := #[{ on := 36, ground := Go.Ground.data }, { on := 28, ground := Go.Ground.guard }], guard := some (28, true) }) (v := undef) rfl (by kernel_rfl) (by kernel_rfl) (by kernel_rfl) (fun _ _ _ h => h) (Or.inr ⟨by rfl, rfl⟩) (by assumption) ?_
                  (try simp only [Act.put, List.setIfInBounds_toArray, List.set_cons_zero, List.set_cons_succ])
                  refine wpAnyH_take (i := 38) (oi := { dst := some 70, op := Go.Op.load 22 (Go.Operand.tmp 69), type := 22, pos := "ref.go:77", after := #[{ on := 37, ground := Go.Ground.data }, { on := 28, ground := Go.Ground.guard }], guard := some (28, true) }) (v := undef) rfl (by kernel_rfl) (by kernel_rfl) (by kernel_rfl) (fun _ _ _ h => h) (Or.inr ⟨by rfl, rfl⟩) (by assumption) ?_
                  (try simp only [Act.put, List.setIfInBounds_toArray, List.set_cons_zero, List.set_cons_succ])
                  refine wpAnyH_take (i := 39) (oi := { dst := some 71, op := Go.Op.binOp Go.BinOp.lss 22 (Go.Operand.tmp 65) (Go.Operand.tmp 70) 22, type := 4, pos := "ref.go:77", after := #[{ on := 33, ground := Go.Ground.data }, { on := 38, ground := Go.Ground.data }, { on := 28, ground := Go.Ground.guard }], guard := some (28, true) }) (v := undef) rfl (by kernel_rfl) (by kernel_rfl) (by kernel_rfl) (fun _ _ _ h => h) (Or.inr ⟨by rfl, rfl⟩) (by assumption) ?_
                  (try simp only [Act.put, List.setIfInBounds_toArray, List.set_cons_zero, List.set_cons_succ])
                  refine' wpAnyH_take (i := 40) (oi := { dst := some 72, op := Go.Op.pick (Go.Operand.tmp 60) (Go.Operand.tmp 71) (Go.Operand.const (Go.Value.bool false)), type := 4, pos := "ref.go:77", after := #[{ on := 28, ground := Go.Ground.data }, { on := 39, ground := Go.Ground.data }, { on := 15, ground := Go.Ground.guard }], guard := some (15, false) }) (v := _) rfl (by kernel_rfl) (by kernel_rfl) (by kernel_rfl) (fun _ _ _ h => h) (Or.inl ⟨by rfl, ?hy142⟩) (by assumption) ?rest142
                  case hy142 => (intro w hSw; (try dsimp only at hSw); go_simp; try (with_reducible rfl))
                  (try simp only [Act.put, List.setIfInBounds_toArray, List.set_cons_zero, List.set_cons_succ])
                  refine' wpAnyH_take (i := 41) (oi := { dst := some 73, op := Go.Op.pick (Go.Operand.tmp 47) (Go.Operand.const (Go.Value.bool true)) (Go.Operand.tmp 72), type := 4, pos := "ref.go:77", after := #[{ on := 15, ground := Go.Ground.data }, { on := 40, ground := Go.Ground.data }], guard := none }) (v := _) rfl (by kernel_rfl) (by kernel_rfl) (by kernel_rfl) (fun _ _ _ h => h) (Or.inl ⟨by rfl, ?hy143⟩) (by assumption) ?rest143
                  case hy143 => (intro w hSw; (try dsimp only at hSw); go_simp; try (with_reducible rfl))
                  (try simp only [Act.put, List.setIfInBounds_toArray, List.set_cons_zero, List.set_cons_succ])
                  refine wpAnyH_done (by kernel_rfl) ?_ _
                  refine NoPanic.normal ?_
                  all_goals go_wp2
                  all_goals go_roundw
                  all_goals (first | (case rel => exact ⟨k + 1, by omega, by go_num, by rw [hs.out], hq8.out⟩) | skip)
                  all_goals (simp [intOf]; omega)
                | false =>
                  by_cases q3 : l[k].wear < l[j].wear
                  · have d3 : decide (l[k].wear < l[j].wear) = true := decide_eq_true q3
                    have hw : wins l[k] l[j] size now = true := by unfold wins; simp [*]
                    have hs := Lib.hid (ch_take hlt hjl hc hj hw)
                    rw [q1] at hkj
                    rw [q2] at hjk2
                    rw [hj]
                    clear hw hc hj hrg q1 q2 q3
                    go_wp2_with fail
                    refine (hrc.out _ hB).mono ?_
                    rintro e w2 ⟨rfl, rfl⟩
                    go_wp2
                    refine wp_region_noPanic ?_
                    refine wp_region_held_drew (S := (fun w' : World => w'.cell? (ad.add (k * 4)) = some (.int .i64 l[k].used) ∧ w'.cell? ⟨(ad.add (k * 4)).block, (ad.add (k * 4)).off + 1, none⟩ = some (.int .i64 l[k].live) ∧ w'.cell? ⟨(ad.add (k * 4)).block, (ad.add (k * 4)).off + 2, none⟩ = some (.int .u64 l[k].age) ∧ w'.cell? ⟨(ad.add (k * 4)).block, (ad.add (k * 4)).off + 3, none⟩ = some (.int .u64 l[k].wear) ∧ w'.cell? (ad.add (j * 4)) = some (.int .i64 l[j].used) ∧ w'.cell? ⟨(ad.add (j * 4)).block, (ad.add (j * 4)).off + 1, none⟩ = some (.int .i64 l[j].live) ∧ w'.cell? ⟨(ad.add (j * 4)).block, (ad.add (j * 4)).off + 2, none⟩ = some (.int .u64 l[j].age) ∧ w'.cell? ⟨(ad.add (j * 4)).block, (ad.add (j * 4)).off + 3, none⟩ = some (.int .u64 l[j].wear) ∧ Hid (Below w.heap.size w w'))) (by kernel_rfl) ⟨c0, c1, c2, c3, f0, f1, f2, f3, below_drewN hBh.out 1⟩ (fun hHeld => ?_)
                    refine' wpAnyH_take (i := 0) (oi := { dst := some 32, op := Go.Op.move (Go.Operand.tmp 10), type := 3, pos := "ref.go:77", after := #[], guard := none }) (v := _) rfl (by kernel_rfl) (by kernel_rfl) (by kernel_rfl) (fun _ _ _ h => h) (Or.inl ⟨by rfl, ?hy144⟩) (by assumption) ?rest144
                    case hy144 => (intro w hSw; (try dsimp only at hSw); go_simp; try (with_reducible rfl))
                    (try simp only [Act.put, List.setIfInBounds_toArray, List.set_cons_zero, List.set_cons_succ])
                    refine' wpAnyH_take (i := 1) (oi := { dst := some 33, op := Go.Op.binOp Go.BinOp.lss 3 (Go.Operand.tmp 32) (Go.Operand.const (Go.Value.int Go.IntKind.i64 0)) 3, type := 4, pos := "ref.go:77", after := #[{ on := 0, ground := Go.Ground.data }], guard := none }) (v := _) rfl (by kernel_rfl) (by kernel_rfl) (by kernel_rfl) (fun _ _ _ h => h) (Or.inl ⟨by rfl, ?hy145⟩) (by assumption) ?rest145
                    case hy145 => (intro w hSw; (try dsimp only at hSw); go_simp; try (with_reducible rfl))
                    (try simp only [Act.put, List.setIfInBounds_toArray, List.set_cons_zero, List.set_cons_succ])
                    refine' wpAnyH_take (i := 2) (oi := { dst := some 34, op := Go.Op.move (Go.Operand.tmp 33), type := 4, pos := "ref.go:77", after := #[{ on := 1, ground := Go.Ground.data }], guard := none }) (v := _) rfl (by kernel_rfl) (by kernel_rfl) (by kernel_rfl) (fun _ _ _ h => h) (Or.inl ⟨by rfl, ?hy146⟩) (by assumption) ?rest146
                    case hy146 => (intro w hSw; (try dsimp only at hSw); go_simp; try (with_reducible rfl))
                    (try simp only [Act.put, List.setIfInBounds_toArray, List.set_cons_zero, List.set_cons_succ])
                    refine' wpAnyH_take (i := 3) (oi := { dst := some 35, op := Go.Op.move (Go.Operand.tmp 0), type := 29, pos := "ref.go:77", after := #[{ on := 2, ground := Go.Ground.guard }], guard := some (2, false) }) (v := _) rfl (by kernel_rfl) (by kernel_rfl) (by kernel_rfl) (fun _ _ _ h => h) (Or.inl ⟨by rfl, ?hy147⟩) (by assumption) ?rest147
                    case hy147 => (intro w hSw; (try dsimp only at hSw); go_simp; try (with_reducible rfl))
                    (try simp only [Act.put, List.setIfInBounds_toArray, List.set_cons_zero, List.set_cons_succ])
                    refine' wpAnyH_take (i := 4) (oi := { dst := some 36, op := Go.Op.move (Go.Operand.tmp 11), type := 3, pos := "ref.go:77", after := #[{ on := 2, ground := Go.Ground.guard }], guard := some (2, false) }) (v := _) rfl (by kernel_rfl) (by kernel_rfl) (by kernel_rfl) (fun _ _ _ h => h) (Or.inl ⟨by rfl, ?hy148⟩) (by assumption) ?rest148
                    case hy148 => (intro w hSw; (try dsimp only at hSw); go_simp; try (with_reducible rfl))
                    (try simp only [Act.put, List.setIfInBounds_toArray, List.set_cons_zero, List.set_cons_succ])
                    refine' wpAnyH_take (i := 5) (oi := { dst := some 37, op := Go.Op.indexAddr 29 (Go.Operand.tmp 35) (Go.Operand.tmp 36), type := 0, pos := "ref.go:77", after := #[{ on := 3, ground := Go.Ground.data }, { on := 4, ground := Go.Ground.data }, { on := 2, ground := Go.Ground.guard }], guard := some (2, false) }) (v := _) rfl (by kernel_rfl) (by kernel_rfl) (by kernel_rfl) (fun _ _ _ h => h) (Or.inl ⟨by rfl, ?hy149⟩) (by assumption) ?rest149
                    case hy149 => (intro w hSw; (try dsimp only at hSw); go_simp; try (with_reducible rfl))
                    (try simp only [Act.put, List.setIfInBounds_toArray, List.set_cons_zero, List.set_cons_succ])
                    refine' wpAnyH_take (i := 6) (oi := { dst := some 38, op := Go.Op.load 24 (Go.Operand.tmp 37), type := 24, pos := "ref.go:77", after := #[{ on := 5, ground := Go.Ground.data }, { on := 2, ground := Go.Ground.guard }], guard := some (2, false) }) (v := _) rfl (by kernel_rfl) (by kernel_rfl) (by kernel_rfl) (fun _ _ _ h => h) (Or.inl ⟨by rfl, ?hy150⟩) (by assumption) ?rest150
                    case hy150 => (intro w hSw; (try dsimp only at hSw); go_simp; try (with_reducible rfl))
                    (try simp only [Act.put, List.setIfInBounds_toArray, List.set_cons_zero, List.set_cons_succ])
                    refine' wpAnyH_take (i := 7) (oi := { dst := some 39, op := Go.Op.move (Go.Operand.tmp 0), type := 29, pos := "ref.go:77", after := #[{ on := 2, ground := Go.Ground.guard }], guard := some (2, false) }) (v := _) rfl (by kernel_rfl) (by kernel_rfl) (by kernel_rfl) (fun _ _ _ h => h) (Or.inl ⟨by rfl, ?hy151⟩) (by assumption) ?rest151
                    case hy151 => (intro w hSw; (try dsimp only at hSw); go_simp; try (with_reducible rfl))
                    (try simp only [Act.put, List.setIfInBounds_toArray, List.set_cons_zero, List.set_cons_succ])
                    refine' wpAnyH_take (i := 8) (oi := { dst := some 40, op := Go.Op.move (Go.Operand.tmp 10), type := 3, pos := "ref.go:77", after := #[{ on := 2, ground := Go.Ground.guard }], guard := some (2, false) }) (v := _) rfl (by kernel_rfl) (by kernel_rfl) (by kernel_rfl) (fun _ _ _ h => h) (Or.inl ⟨by rfl, ?hy152⟩) (by assumption) ?rest152
                    case hy152 => (intro w hSw; (try dsimp only at hSw); go_simp; try (with_reducible rfl))
                    (try simp only [Act.put, List.setIfInBounds_toArray, List.set_cons_zero, List.set_cons_succ])
                    refine' wpAnyH_take (i := 9) (oi := { dst := some 41, op := Go.Op.indexAddr 29 (Go.Operand.tmp 39) (Go.Operand.tmp 40), type := 0, pos := "ref.go:77", after := #[{ on := 7, ground := Go.Ground.data }, { on := 8, ground := Go.Ground.data }, { on := 2, ground := Go.Ground.guard }], guard := some (2, false) }) (v := _) rfl (by kernel_rfl) (by kernel_rfl) (by kernel_rfl) (fun _ _ _ h => h) (Or.inl ⟨by rfl, ?hy153⟩) (by assumption) ?rest153
                    case hy153 => (intro w hSw; (try dsimp only at hSw); go_simp; try (with_reducible rfl))
                    (try simp only [Act.put, List.setIfInBounds_toArray, List.set_cons_zero, List.set_cons_succ])
                    refine' wpAnyH_take (i := 10) (oi := { dst := some 42, op := Go.Op.load 24 (Go.Operand.tmp 41), type := 24, pos := "ref.go:77", after := #[{ on := 9, ground := Go.Ground.data }, { on := 2, ground := Go.Ground.guard }], guard := some (2, false) }) (v := _) rfl (by kernel_rfl) (by kernel_rfl) (by kernel_rfl) (fun _ _ _ h => h) (Or.inl ⟨by rfl, ?hy154⟩) (by assumption) ?rest154
                    case hy154 => (intro w hSw; (try dsimp only at hSw); go_simp; try (with_reducible rfl))
                    (try simp only [Act.put, List.setIfInBounds_toArray, List.set_cons_zero, List.set_cons_succ])
                    refine' wpAnyH_take (i := 11) (oi := { dst := some 43, op := Go.Op.move (Go.Operand.tmp 1), type := 3, pos := "ref.go:77", after := #[{ on := 2, ground := Go.Ground.guard }], guard := some (2, false) }) (v := _) rfl (by kernel_rfl) (by kernel_rfl) (by kernel_rfl) (fun _ _ _ h => h) (Or.inl ⟨by rfl, ?hy155⟩) (by assumption) ?rest155
                    case hy155 => (intro w hSw; (try dsimp only at hSw); go_simp; try (with_reducible rfl))
                    (try simp only [Act.put, List.setIfInBounds_toArray, List.set_cons_zero, List.set_cons_succ])
                    refine' wpAnyH_take (i := 12) (oi := { dst := some 44, op := Go.Op.move (Go.Operand.tmp 2), type := 22, pos := "ref.go:77", after := #[{ on := 2, ground := Go.Ground.guard }], guard := some (2, false) }) (v := _) rfl (by kernel_rfl) (by kernel_rfl) (by kernel_rfl) (fun _ _ _ h => h) (Or.inl ⟨by rfl, ?hy156⟩) (by assumption) ?rest156
                    case hy156 => (intro w hSw; (try dsimp only at hSw); go_simp; try (with_reducible rfl))
                    (try simp only [Act.put, List.setIfInBounds_toArray, List.set_cons_zero, List.set_cons_succ])
                    refine wpAnyH_ready (rs := [13]) (by kernel_rfl) (by simp) ?_
                    refine AllReadyH.cons (o := { dst := some 45, op := Go.Op.call { callee := Go.Callee.value (Go.Operand.func 11), args := #[Go.Operand.tmp 38, Go.Operand.tmp 42, Go.Operand.tmp 43, Go.Operand.tmp 44], argTypes := #[24, 24, 3, 22] }, type := 4, pos := "ref.go:77", after := #[{ on := 6, ground := Go.Ground.data }, { on := 10, ground := Go.Ground.data }, { on := 11, ground := Go.Ground.data }, { on := 12, ground := Go.Ground.data }, { on := 2, ground := Go.Ground.chain }, { on := 2, ground := Go.Ground.guard }], guard := some (2, false) }) rfl (fun K hK => ?_) AllReadyH.nil
                    go_simp
                    refine (callK (S := (fun w' : World => w'.cell? (ad.add (k * 4)) = some (.int .i64 l[k].used) ∧ w'.cell? ⟨(ad.add (k * 4)).block, (ad.add (k * 4)).off + 1, none⟩ = some (.int .i64 l[k].live) ∧ w'.cell? ⟨(ad.add (k * 4)).block, (ad.add (k * 4)).off + 2, none⟩ = some (.int .u64 l[k].age) ∧ w'.cell? ⟨(ad.add (k * 4)).block, (ad.add (k * 4)).off + 3, none⟩ = some (.int .u64 l[k].wear) ∧ w'.cell? (ad.add (j * 4)) = some (.int .i64 l[j].used) ∧ w'.cell? ⟨(ad.add (j * 4)).block, (ad.add (j * 4)).off + 1, none⟩ = some (.int .i64 l[j].live) ∧ w'.cell? ⟨(ad.add (j * 4)).block, (ad.add (j * 4)).off + 2, none⟩ = some (.int .u64 l[j].age) ∧ w'.cell? ⟨(ad.add (j * 4)).block, (ad.add (j * 4)).off + 3, none⟩ = some (.int .u64 l[j].wear) ∧ Hid (Below w.heap.size w w'))) hS.out (fun W _ => hkj.out W) (by assumption)).mono ?_
                    rintro e w' ⟨rfl, hq0, hq1, hq2, hq3, hq4, hq5, hq6, hq7, hq8⟩
                    refine hK.out _ _ ⟨hq0, hq1, hq2, hq3, hq4, hq5, hq6, hq7, hq8⟩ (fun hHeld => ?_)
                    clear hK K
                    (try simp only [Act.put, List.setIfInBounds_toArray, List.set_cons_zero, List.set_cons_succ])
                    refine' wpAnyH_take (i := 14) (oi := { dst := some 46, op := Go.Op.pick (Go.Operand.tmp 34) (Go.Operand.const (Go.Value.bool true)) (Go.Operand.tmp 45), type := 4, pos := "ref.go:77", after := #[{ on := 2, ground := Go.Ground.data }, { on := 13, ground := Go.Ground.data }], guard := none }) (v := _) rfl (by kernel_rfl) (by kernel_rfl) (by kernel_rfl) (fun _ _ _ h => h) (Or.inl ⟨by rfl, ?hy157⟩) (by assumption) ?rest157
                    case hy157 => (intro w hSw; (try dsimp only at hSw); go_simp; try (with_reducible rfl))
                    (try simp only [Act.put, List.setIfInBounds_toArray, List.set_cons_zero, List.set_cons_succ])
                    refine' wpAnyH_take (i := 15) (oi := { dst := some 47, op := Go.Op.move (Go.Operand.tmp 46), type := 4, pos := "ref.go:77", after := #[{ on := 14, ground := Go.Ground.data }, { on := 13, ground := Go.Ground.chain }], guard := none }) (v := _) rfl (by kernel_rfl) (by kernel_rfl) (by kernel_rfl) (fun _ _ _ h => h) (Or.inl ⟨by rfl, ?hy158⟩) (by assumption) ?rest158
                    case hy158 => (intro w hSw; (try dsimp only at hSw); go_simp; try (with_reducible rfl))
                    (try simp only [Act.put, List.setIfInBounds_toArray, List.set_cons_zero, List.set_cons_succ])
                    refine' wpAnyH_take (i := 16) (oi := { dst := some 48, op := Go.Op.move (Go.Operand.tmp 0), type := 29, pos := "ref.go:77", after := #[{ on := 15, ground := Go.Ground.guard }], guard := some (15, false) }) (v := _) rfl (by kernel_rfl) (by kernel_rfl) (by kernel_rfl) (fun _ _ _ h => h) (Or.inl ⟨by rfl, ?hy159⟩) (by assumption) ?rest159
                    case hy159 => (intro w hSw; (try dsimp only at hSw); go_simp; try (with_reducible rfl))
                    (try simp only [Act.put, List.setIfInBounds_toArray, List.set_cons_zero, List.set_cons_succ])
                    refine' wpAnyH_take (i := 17) (oi := { dst := some 49, op := Go.Op.move (Go.Operand.tmp 10), type := 3, pos := "ref.go:77", after := #[{ on := 15, ground := Go.Ground.guard }], guard := some (15, false) }) (v := _) rfl (by kernel_rfl) (by kernel_rfl) (by kernel_rfl) (fun _ _ _ h => h) (Or.inl ⟨by rfl, ?hy160⟩) (by assumption) ?rest160
                    case hy160 => (intro w hSw; (try dsimp only at hSw); go_simp; try (with_reducible rfl))
                    (try simp only [Act.put, List.setIfInBounds_toArray, List.set_cons_zero, List.set_cons_succ])
                    refine' wpAnyH_take (i := 18) (oi := { dst := some 50, op := Go.Op.indexAddr 29 (Go.Operand.tmp 48) (Go.Operand.tmp 49), type := 0, pos := "ref.go:77", after := #[{ on := 16, ground := Go.Ground.data }, { on := 17, ground := Go.Ground.data }, { on := 15, ground := Go.Ground.guard }], guard := some (15, false) }) (v := _) rfl (by kernel_rfl) (by kernel_rfl) (by kernel_rfl) (fun _ _ _ h => h) (Or.inl ⟨by rfl, ?hy161⟩) (by assumption) ?rest161
                    case hy161 => (intro w hSw; (try dsimp only at hSw); go_simp; try (with_reducible rfl))
                    (try simp only [Act.put, List.setIfInBounds_toArray, List.set_cons_zero, List.set_cons_succ])
                    refine' wpAnyH_take (i := 19) (oi := { dst := some 51, op := Go.Op.load 24 (Go.Operand.tmp 50), type := 24, pos := "ref.go:77", after := #[{ on := 18, ground := Go.Ground.data }, { on := 15, ground := Go.Ground.guard }], guard := some (15, false) }) (v := _) rfl (by kernel_rfl) (by kernel_rfl) (by kernel_rfl) (fun _ _ _ h => h) (Or.inl ⟨by rfl, ?hy162⟩) (by assumption) ?rest162
                    case hy162 => (intro w hSw; (try dsimp only at hSw); go_simp; try (with_reducible rfl))
                    (try simp only [Act.put, List.setIfInBounds_toArray, List.set_cons_zero, List.set_cons_succ])
                    refine' wpAnyH_take (i := 20) (oi := { dst := some 52, op := Go.Op.move (Go.Operand.tmp 0), type := 29, pos := "ref.go:77", after := #[{ on := 15, ground := Go.Ground.guard }], guard := some (15, false) }) (v := _) rfl (by kernel_rfl) (by kernel_rfl) (by kernel_rfl) (fun _ _ _ h => h) (Or.inl ⟨by rfl, ?hy163⟩) (by assumption) ?rest163
                    case hy163 => (intro w hSw; (try dsimp only at hSw); go_simp; try (with_reducible rfl))
                    (try simp only [Act.put, List.setIfInBounds_toArray, List.set_cons_zero, List.set_cons_succ])
                    refine' wpAnyH_take (i := 21) (oi := { dst := some 53, op := Go.Op.move (Go.Operand.tmp 11), type := 3, pos := "ref.go:77", after := #[{ on := 15, ground := Go.Ground.guard }], guard := some (15, false) }) (v := _) rfl (by kernel_rfl) (by kernel_rfl) (by kernel_rfl) (fun _ _ _ h => h) (Or.inl ⟨by rfl, ?hy164⟩) (by assumption) ?rest164
                    case hy164 => (intro w hSw; (try dsimp only at hSw); go_simp; try (with_reducible rfl))
                    (try simp only [Act.put, List.setIfInBounds_toArray, List.set_cons_zero, List.set_cons_succ])
                    refine' wpAnyH_take (i := 22) (oi := { dst := some 54, op := Go.Op.indexAddr 29 (Go.Operand.tmp 52) (Go.Operand.tmp 53), type := 0, pos := "ref.go:77", after := #[{ on := 20, ground := Go.Ground.data }, { on := 21, ground := Go.Ground.data }, { on := 15, ground := Go.Ground.guard }], guard := some (15, false) }) (v := _) rfl (by kernel_rfl) (by kernel_rfl) (by kernel_rfl) (fun _ _ _ h => h) (Or.inl ⟨by rfl, ?hy165⟩) (by assumption) ?rest165
                    case hy165 => (intro w hSw; (try dsimp only at hSw); go_simp; try (with_reducible rfl))
                    (try simp only [Act.put, List.setIfInBounds_toArray, List.set_cons_zero, List.set_cons_succ])
                    refine' wpAnyH_take (i := 23) (oi := { dst := some 55, op := Go.Op.load 24 (Go.Operand.tmp 54), type := 24, pos := "ref.go:77", after := #[{ on := 22, ground := Go.Ground.data }, { on := 15, ground := Go.Ground.guard }], guard := some (15, false) }) (v := _) rfl (by kernel_rfl) (by kernel_rfl) (by kernel_rfl) (fun _ _ _ h => h) (Or.inl ⟨by rfl, ?hy166⟩) (by assumption) ?rest166
                    case hy166 => (intro w hSw; (try dsimp only at hSw); go_simp; try (with_reducible rfl))
                    (try simp only [Act.put, List.setIfInBounds_toArray, List.set_cons_zero, List.set_cons_succ])
                    refine' wpAnyH_take (i := 24) (oi := { dst := some 56, op := Go.Op.move (Go.Operand.tmp 1), type := 3, pos := "ref.go:77", after := #[{ on := 15, ground := Go.Ground.guard }], guard := some (15, false) }) (v := _) rfl (by kernel_rfl) (by kernel_rfl) (by kernel_rfl) (fun _ _ _ h => h) (Or.inl ⟨by rfl, ?hy167⟩) (by assumption) ?rest167
                    case hy167 => (intro w hSw; (try dsimp only at hSw); go_simp; try (with_reducible rfl))
                    (try simp only [Act.put, List.setIfInBounds_toArray, List.set_cons_zero, List.set_cons_succ])
                    refine' wpAnyH_take (i := 25) (oi := { dst := some 57, op := Go.Op.move (Go.Operand.tmp 2), type := 22, pos := "ref.go:77", after := #[{ on := 15, ground := Go.Ground.guard }], guard := some (15, false) }) (v := _) rfl (by kernel_rfl) (by kernel_rfl) (by kernel_rfl) (fun _ _ _ h => h) (Or.inl ⟨by rfl, ?hy168⟩) (by assumption) ?rest168
                    case hy168 => (intro w hSw; (try dsimp only at hSw); go_simp; try (with_reducible rfl))
                    (try simp only [Act.put, List.setIfInBounds_toArray, List.set_cons_zero, List.set_cons_succ])
                    refine wpAnyH_ready (rs := [26]) (by kernel_rfl) (by simp) ?_
                    refine AllReadyH.cons (o := { dst := some 58, op := Go.Op.call { callee := Go.Callee.value (Go.Operand.func 11), args := #[Go.Operand.tmp 51, Go.Operand.tmp 55, Go.Operand.tmp 56, Go.Operand.tmp 57], argTypes := #[24, 24, 3, 22] }, type := 4, pos := "ref.go:77", after := #[{ on := 19, ground := Go.Ground.data }, { on := 23, ground := Go.Ground.data }, { on := 24, ground := Go.Ground.data }, { on := 25, ground := Go.Ground.data }, { on := 15, ground := Go.Ground.chain }, { on := 15, ground := Go.Ground.guard }], guard := some (15, false) }) rfl (fun K hK => ?_) AllReadyH.nil
                    go_simp
                    refine (callK (S := (fun w' : World => w'.cell? (ad.add (k * 4)) = some (.int .i64 l[k].used) ∧ w'.cell? ⟨(ad.add (k * 4)).block, (ad.add (k * 4)).off + 1, none⟩ = some (.int .i64 l[k].live) ∧ w'.cell? ⟨(ad.add (k * 4)).block, (ad.add (k * 4)).off + 2, none⟩ = some (.int .u64 l[k].age) ∧ w'.cell? ⟨(ad.add (k * 4)).block, (ad.add (k * 4)).off + 3, none⟩ = some (.int .u64 l[k].wear) ∧ w'.cell? (ad.add (j * 4)) = some (.int .i64 l[j].used) ∧ w'.cell? ⟨(ad.add (j * 4)).block, (ad.add (j * 4)).off + 1, none⟩ = some (.int .i64 l[j].live) ∧ w'.cell? ⟨(ad.add (j * 4)).block, (ad.add (j * 4)).off + 2, none⟩ = some (.int .u64 l[j].age) ∧ w'.cell? ⟨(ad.add (j * 4)).block, (ad.add (j * 4)).off + 3, none⟩ = some (.int .u64 l[j].wear) ∧ Hid (Below w.heap.size w w'))) hS.out (fun W _ => hjk2.out W) (by assumption)).mono ?_
                    rintro e w' ⟨rfl, hq0, hq1, hq2, hq3, hq4, hq5, hq6, hq7, hq8⟩
                    refine hK.out _ _ ⟨hq0, hq1, hq2, hq3, hq4, hq5, hq6, hq7, hq8⟩ (fun hHeld => ?_)
                    clear hK K
                    (try simp only [Act.put, List.setIfInBounds_toArray, List.set_cons_zero, List.set_cons_succ])
                    refine' wpAnyH_take (i := 27) (oi := { dst := some 59, op := Go.Op.unOp Go.UnOp.not 4 (Go.Operand.tmp 58), type := 4, pos := "ref.go:77", after := #[{ on := 26, ground := Go.Ground.data }, { on := 15, ground := Go.Ground.guard }], guard := some (15, false) }) (v := _) rfl (by kernel_rfl) (by kernel_rfl) (by kernel_rfl) (fun _ _ _ h => h) (Or.inl ⟨by rfl, ?hy169⟩) (by assumption) ?rest169
                    case hy169 => (intro w hSw; (try dsimp only at hSw); go_simp; try (with_reducible rfl))
                    (try simp only [Act.put, List.setIfInBounds_toArray, List.set_cons_zero, List.set_cons_succ])
                    refine' wpAnyH_take (i := 28) (oi := { dst := some 60, op := Go.Op.move (Go.Operand.tmp 59), type := 4, pos := "ref.go:77", after := #[{ on := 27, ground := Go.Ground.data }, { on := 26, ground := Go.Ground.chain }, { on := 15, ground := Go.Ground.guard }], guard := some (15, false) }) (v := _) rfl (by kernel_rfl) (by kernel_rfl) (by kernel_rfl) (fun _ _ _ h => h) (Or.inl ⟨by rfl, ?hy170⟩) (by assumption) ?rest170
                    case hy170 => (intro w hSw; (try dsimp only at hSw); go_simp; try (with_reducible rfl))
                    (try simp only [Act.put, List.setIfInBounds_toArray, List.set_cons_zero, List.set_cons_succ])
                    refine' wpAnyH_take (i := 29) (oi := { dst := some 61, op := Go.Op.move (Go.Operand.tmp 0), type := 29, pos := "ref.go:77", after := #[{ on := 28, ground := Go.Ground.guard }], guard := some (28, true) }) (v := _) rfl (by kernel_rfl) (by kernel_rfl) (by kernel_rfl) (fun _ _ _ h => h) (Or.inl ⟨by rfl, ?hy171⟩) (by assumption) ?rest171
                    case hy171 => (intro w hSw; (try dsimp only at hSw); go_simp; try (with_reducible rfl))
                    (try simp only [Act.put, List.setIfInBounds_toArray, List.set_cons_zero, List.set_cons_succ])
                    refine' wpAnyH_take (i := 30) (oi := { dst := some 62, op := Go.Op.move (Go.Operand.tmp 11), type := 3, pos := "ref.go:77", after := #[{ on := 28, ground := Go.Ground.guard }], guard := some (28, true) }) (v := _) rfl (by kernel_rfl) (by kernel_rfl) (by kernel_rfl) (fun _ _ _ h => h) (Or.inl ⟨by rfl, ?hy172⟩) (by assumption) ?rest172
                    case hy172 => (intro w hSw; (try dsimp only at hSw); go_simp; try (with_reducible rfl))
                    (try simp only [Act.put, List.setIfInBounds_toArray, List.set_cons_zero, List.set_cons_succ])
                    refine' wpAnyH_take (i := 31) (oi := { dst := some 63, op := Go.Op.indexAddr 29 (Go.Operand.tmp 61) (Go.Operand.tmp 62), type := 0, pos := "ref.go:77", after := #[{ on := 29, ground := Go.Ground.data }, { on := 30, ground := Go.Ground.data }, { on := 28, ground := Go.Ground.guard }], guard := some (28, true) }) (v := _) rfl (by kernel_rfl) (by kernel_rfl) (by kernel_rfl) (fun _ _ _ h => h) (Or.inl ⟨by rfl, ?hy173⟩) (by assumption) ?rest173
                    case hy173 => (intro w hSw; (try dsimp only at hSw); go_simp; try (with_reducible rfl))
                    (try simp only [Act.put, List.setIfInBounds_toArray, List.set_cons_zero, List.set_cons_succ])
                    refine' wpAnyH_take (i := 32) (oi := { dst := some 64, op := Go.Op.fieldAddr 24 (Go.Operand.tmp 63) 3, type := 0, pos := "ref.go:77", after := #[{ on := 31, ground := Go.Ground.data }, { on := 28, ground := Go.Ground.guard }], guard := some (28, true) }) (v := _) rfl (by kernel_rfl) (by kernel_rfl) (by kernel_rfl) (fun _ _ _ h => h) (Or.inl ⟨by rfl, ?hy174⟩) (by assumption) ?rest174
                    case hy174 => (intro w hSw; (try dsimp only at hSw); go_simp; try (with_reducible rfl))
                    (try simp only [Act.put, List.setIfInBounds_toArray, List.set_cons_zero, List.set_cons_succ])
                    refine' wpAnyH_take (i := 33) (oi := { dst := some 65, op := Go.Op.load 22 (Go.Operand.tmp 64), type := 22, pos := "ref.go:77", after := #[{ on := 32, ground := Go.Ground.data }, { on := 28, ground := Go.Ground.guard }], guard := some (28, true) }) (v := _) rfl (by kernel_rfl) (by kernel_rfl) (by kernel_rfl) (fun _ _ _ h => h) (Or.inl ⟨by rfl, ?hy175⟩) (by assumption) ?rest175
                    case hy175 => (intro w hSw; (try dsimp only at hSw); go_simp; try (with_reducible rfl))
                    (try simp only [Act.put, List.setIfInBounds_toArray, List.set_cons_zero, List.set_cons_succ])
                    refine' wpAnyH_take (i := 34) (oi := { dst := some 66, op := Go.Op.move (Go.Operand.tmp 0), type := 29, pos := "ref.go:77", after := #[{ on := 28, ground := Go.Ground.guard }], guard := some (28, true) }) (v := _) rfl (by kernel_rfl) (by kernel_rfl) (by kernel_rfl) (fun _ _ _ h => h) (Or.inl ⟨by rfl, ?hy176⟩) (by assumption) ?rest176
                    case hy176 => (intro w hSw; (try dsimp only at hSw); go_simp; try (with_reducible rfl))
                    (try simp only [Act.put, List.setIfInBounds_toArray, List.set_cons_zero, List.set_cons_succ])
                    refine' wpAnyH_take (i := 35) (oi := { dst := some 67, op := Go.Op.move (Go.Operand.tmp 10), type := 3, pos := "ref.go:77", after := #[{ on := 28, ground := Go.Ground.guard }], guard := some (28, true) }) (v := _) rfl (by kernel_rfl) (by kernel_rfl) (by kernel_rfl) (fun _ _ _ h => h) (Or.inl ⟨by rfl, ?hy177⟩) (by assumption) ?rest177
                    case hy177 => (intro w hSw; (try dsimp only at hSw); go_simp; try (with_reducible rfl))
                    (try simp only [Act.put, List.setIfInBounds_toArray, List.set_cons_zero, List.set_cons_succ])
                    refine' wpAnyH_take (i := 36) (oi := { dst := some 68, op := Go.Op.indexAddr 29 (Go.Operand.tmp 66) (Go.Operand.tmp 67), type := 0, pos := "ref.go:77", after := #[{ on := 34, ground := Go.Ground.data }, { on := 35, ground := Go.Ground.data }, { on := 28, ground := Go.Ground.guard }], guard := some (28, true) }) (v := _) rfl (by kernel_rfl) (by kernel_rfl) (by kernel_rfl) (fun _ _ _ h => h) (Or.inl ⟨by rfl, ?hy178⟩) (by assumption) ?rest178
                    case hy178 => (intro w hSw; (try dsimp only at hSw); go_simp; try (with_reducible rfl))
                    (try simp only [Act.put, List.setIfInBounds_toArray, List.set_cons_zero, List.set_cons_succ])
                    refine' wpAnyH_take (i := 37) (oi := { dst := some 69, op := Go.Op.fieldAddr 24 (Go.Operand.tmp 68) 3, type := 0, pos := "ref.go:77", after := #[{ on := 36, ground := Go.Ground.data }, { on := 28, ground := Go.Ground.guard }], guard := some (28, true) }) (v := _) rfl (by kernel_rfl) (by kernel_rfl) (by kernel_rfl) (fun _ _ _ h => h) (Or.inl ⟨by rfl, ?hy179⟩) (by assumption) ?rest179
                    case hy179 => (intro w hSw; (try dsimp only at hSw); go_simp; try (with_reducible rfl))
                    (try simp only [Act.put, List.setIfInBounds_toArray, List.set_cons_zero, List.set_cons_succ])
                    refine' wpAnyH_take (i := 38) (oi := { dst := some 70, op := Go.Op.load 22 (Go.Operand.tmp 69), type := 22, pos := "ref.go:77", after := #[{ on := 37, ground := Go.Ground.data }, { on := 28, ground := Go.Ground.guard }], guard := some (28, true) }) (v := _) rfl (by kernel_rfl) (by kernel_rfl) (by kernel_rfl) (fun _ _ _ h => h) (Or.inl ⟨by rfl, ?hy180⟩) (by assumption) ?rest180
                    case hy180 => (intro w hSw; (try dsimp only at hSw); go_simp; try (with_reducible rfl))
                    (try simp only [Act.put, List.setIfInBounds_toArray, List.set_cons_zero, List.set_cons_succ])
                    refine' wpAnyH_take (i := 39) (oi := { dst := some 71, op := Go.Op.binOp Go.BinOp.lss 22 (Go.Operand.tmp 65) (Go.Operand.tmp 70) 22, type := 4, pos := "ref.go:77", after := #[{ on := 33, ground := Go.Ground.data }, { on := 38, ground := Go.Ground.data }, { on := 28, ground := Go.Ground.guard }], guard := some (28, true) }) (v := _) rfl (by kernel_rfl) (by kernel_rfl) (by kernel_rfl) (fun _ _ _ h => h) (Or.inl ⟨by rfl, ?hy181⟩) (by assumption) ?rest181
                    case hy181 => (intro w hSw; (try dsimp only at hSw); go_simp; try (with_reducible rfl))
                    (try simp only [Act.put, List.setIfInBounds_toArray, List.set_cons_zero, List.set_cons_succ])
                    refine' wpAnyH_take (i := 40) (oi := { dst := some 72, op := Go.Op.pick (Go.Operand.tmp 60) (Go.Operand.tmp 71) (Go.Operand.const (Go.Value.bool false)), type := 4, pos := "ref.go:77", after := #[{ on := 28, ground := Go.Ground.data }, { on := 39, ground := Go.Ground.data }, { on := 15, ground := Go.Ground.guard }], guard := some (15, false) }) (v := _) rfl (by kernel_rfl) (by kernel_rfl) (by kernel_rfl) (fun _ _ _ h => h) (Or.inl ⟨by rfl, ?hy182⟩) (by assumption) ?rest182
                    case hy182 => (intro w hSw; (try dsimp only at hSw); go_simp; try (with_reducible rfl))
                    (try simp only [Act.put, List.setIfInBounds_toArray, List.set_cons_zero, List.set_cons_succ])
                    refine' wpAnyH_take (i := 41) (oi := { dst := some 73, op := Go.Op.pick (Go.Operand.tmp 47) (Go.Operand.const (Go.Value.bool true)) (Go.Operand.tmp 72), type := 4, pos := "ref.go:77", after := #[{ on := 15, ground := Go.Ground.data }, { on := 40, ground := Go.Ground.data }], guard := none }) (v := _) rfl (by kernel_rfl) (by kernel_rfl) (by kernel_rfl) (fun _ _ _ h => h) (Or.inl ⟨by rfl, ?hy183⟩) (by assumption) ?rest183
                    case hy183 => (intro w hSw; (try dsimp only at hSw); go_simp; try (with_reducible rfl))
                    (try simp only [Act.put, List.setIfInBounds_toArray, List.set_cons_zero, List.set_cons_succ])
                    refine wpAnyH_done (by kernel_rfl) ?_ _
                    refine NoPanic.normal ?_
                    all_goals go_wp2
                    all_goals go_roundw
                    all_goals (first | (case rel => exact ⟨k + 1, by omega, by go_num, by rw [hs.out], hq8.out⟩) | skip)
                    all_goals (simp [intOf]; omega)
                  · have d3 : decide (l[k].wear < l[j].wear) = false := decide_eq_false q3
                    have hw : wins l[k] l[j] size now = false := by unfold wins; simp [*]
                    have hs := Lib.hid (ch_keep (opn := opn) hlt hjl hj hw)
                    rw [q1] at hkj
                    rw [q2] at hjk2
                    rw [hj]
                    clear hw hc hj hrg q1 q2 q3
                    go_wp2_with fail
                    refine (hrc.out _ hB).mono ?_
                    rintro e w2 ⟨rfl, rfl⟩
                    go_wp2
                    refine wp_region_noPanic ?_
                    refine wp_region_held_drew (S := (fun w' : World => w'.cell? (ad.add (k * 4)) = some (.int .i64 l[k].used) ∧ w'.cell? ⟨(ad.add (k * 4)).block, (ad.add (k * 4)).off + 1, none⟩ = some (.int .i64 l[k].live) ∧ w'.cell? ⟨(ad.add (k * 4)).block, (ad.add (k * 4)).off + 2, none⟩ = some (.int .u64 l[k].age) ∧ w'.cell? ⟨(ad.add (k * 4)).block, (ad.add (k * 4)).off + 3, none⟩ = some (.int .u64 l[k].wear) ∧ w'.cell? (ad.add (j * 4)) = some (.int .i64 l[j].used) ∧ w'.cell? ⟨(ad.add (j * 4)).block, (ad.add (j * 4)).off + 1, none⟩ = some (.int .i64 l[j].live) ∧ w'.cell? ⟨(ad.add (j * 4)).block, (ad.add (j * 4)).off + 2, none⟩ = some (.int .u64 l[j].age) ∧ w'.cell? ⟨(ad.add (j * 4)).block, (ad.add (j * 4)).off + 3, none⟩ = some (.int .u64 l[j].wear) ∧ Hid (Below w.heap.size w w'))) (by kernel_rfl) ⟨c0, c1, c2, c3, f0, f1, f2, f3, below_drewN hBh.out 1⟩ (fun hHeld => ?_)
                    refine' wpAnyH_take (i := 0) (oi := { dst := some 32, op := Go.Op.move (Go.Operand.tmp 10), type := 3, pos := "ref.go:77", after := #[], guard := none }) (v := _) rfl (by kernel_rfl) (by kernel_rfl) (by kernel_rfl) (fun _ _ _ h => h) (Or.inl ⟨by rfl, ?hy184⟩) (by assumption) ?rest184
                    case hy184 => (intro w hSw; (try dsimp only at hSw); go_simp; try (with_reducible rfl))
                    (try simp only [Act.put, List.setIfInBounds_toArray, List.set_cons_zero, List.set_cons_succ])
                    refine' wpAnyH_take (i := 1) (oi := { dst := some 33, op := Go.Op.binOp Go.BinOp.lss 3 (Go.Operand.tmp 32) (Go.Operand.const (Go.Value.int Go.IntKind.i64 0)) 3, type := 4, pos := "ref.go:77", after := #[{ on := 0, ground := Go.Ground.data }], guard := none }) (v := _) rfl (by kernel_rfl) (by kernel_rfl) (by kernel_rfl) (fun _ _ _ h => h) (Or.inl ⟨by rfl, ?hy185⟩) (by assumption) ?rest185
                    case hy185 => (intro w hSw; (try dsimp only at hSw); go_simp; try (with_reducible rfl))
                    (try simp only [Act.put, List.setIfInBounds_toArray, List.set_cons_zero, List.set_cons_succ])
                    refine' wpAnyH_take (i := 2) (oi := { dst := some 34, op := Go.Op.move (Go.Operand.tmp 33), type := 4, pos := "ref.go:77", after := #[{ on := 1, ground := Go.Ground.data }], guard := none }) (v := _) rfl (by kernel_rfl) (by kernel_rfl) (by kernel_rfl) (fun _ _ _ h => h) (Or.inl ⟨by rfl, ?hy186⟩) (by assumption) ?rest186
                    case hy186 => (intro w hSw; (try dsimp only at hSw); go_simp; try (with_reducible rfl))
                    (try simp only [Act.put, List.setIfInBounds_toArray, List.set_cons_zero, List.set_cons_succ])
                    refine' wpAnyH_take (i := 3) (oi := { dst := some 35, op := Go.Op.move (Go.Operand.tmp 0), type := 29, pos := "ref.go:77", after := #[{ on := 2, ground := Go.Ground.guard }], guard := some (2, false) }) (v := _) rfl (by kernel_rfl) (by kernel_rfl) (by kernel_rfl) (fun _ _ _ h => h) (Or.inl ⟨by rfl, ?hy187⟩) (by assumption) ?rest187
                    case hy187 => (intro w hSw; (try dsimp only at hSw); go_simp; try (with_reducible rfl))
                    (try simp only [Act.put, List.setIfInBounds_toArray, List.set_cons_zero, List.set_cons_succ])
                    refine' wpAnyH_take (i := 4) (oi := { dst := some 36, op := Go.Op.move (Go.Operand.tmp 11), type := 3, pos := "ref.go:77", after := #[{ on := 2, ground := Go.Ground.guard }], guard := some (2, false) }) (v := _) rfl (by kernel_rfl) (by kernel_rfl) (by kernel_rfl) (fun _ _ _ h => h) (Or.inl ⟨by rfl, ?hy188⟩) (by assumption) ?rest188
                    case hy188 => (intro w hSw; (try dsimp only at hSw); go_simp; try (with_reducible rfl))
                    (try simp only [Act.put, List.setIfInBounds_toArray, List.set_cons_zero, List.set_cons_succ])
                    refine' wpAnyH_take (i := 5) (oi := { dst := some 37, op := Go.Op.indexAddr 29 (Go.Operand.tmp 35) (Go.Operand.tmp 36), type := 0, pos := "ref.go:77", after := #[{ on := 3, ground := Go.Ground.data }, { on := 4, ground := Go.Ground.data }, { on := 2, ground := Go.Ground.guard }], guard := some (2, false) }) (v := _) rfl (by kernel_rfl) (by kernel_rfl) (by kernel_rfl) (fun _ _ _ h => h) (Or.inl ⟨by rfl, ?hy189⟩) (by assumption) ?rest189
                    case hy189 => (intro w hSw; (try dsimp only at hSw); go_simp; try (with_reducible rfl))
                    (try simp only [Act.put, List.setIfInBounds_toArray, List.set_cons_zero, List.set_cons_succ])
                    refine' wpAnyH_take (i := 6) (oi := { dst := some 38, op := Go.Op.load 24 (Go.Operand.tmp 37), type := 24, pos := "ref.go:77", after := #[{ on := 5, ground := Go.Ground.data }, { on := 2, ground := Go.Ground.guard }], guard := some (2, false) }) (v := _) rfl (by kernel_rfl) (by kernel_rfl) (by kernel_rfl) (fun _ _ _ h => h) (Or.inl ⟨by rfl, ?hy190⟩) (by assumption) ?rest190
                    case hy190 => (intro w hSw; (try dsimp only at hSw); go_simp; try (with_reducible rfl))
                    (try simp only [Act.put, List.setIfInBounds_toArray, List.set_cons_zero, List.set_cons_succ])
                    refine' wpAnyH_take (i := 7) (oi := { dst := some 39, op := Go.Op.move (Go.Operand.tmp 0), type := 29, pos := "ref.go:77", after := #[{ on := 2, ground := Go.Ground.guard }], guard := some (2, false) }) (v := _) rfl (by kernel_rfl) (by kernel_rfl) (by kernel_rfl) (fun _ _ _ h => h) (Or.inl ⟨by rfl, ?hy191⟩) (by assumption) ?rest191
                    case hy191 => (intro w hSw; (try dsimp only at hSw); go_simp; try (with_reducible rfl))
                    (try simp only [Act.put, List.setIfInBounds_toArray, List.set_cons_zero, List.set_cons_succ])
                    refine' wpAnyH_take (i := 8) (oi := { dst := some 40, op := Go.Op.move (Go.Operand.tmp 10), type := 3, pos := "ref.go:77", after := #[{ on := 2, ground := Go.Ground.guard }], guard := some (2, false) }) (v := _) rfl (by kernel_rfl) (by kernel_rfl) (by kernel_rfl) (fun _ _ _ h => h) (Or.inl ⟨by rfl, ?hy192⟩) (by assumption) ?rest192
                    case hy192 => (intro w hSw; (try dsimp only at hSw); go_simp; try (with_reducible rfl))
                    (try simp only [Act.put, List.setIfInBounds_toArray, List.set_cons_zero, List.set_cons_succ])
                    refine' wpAnyH_take (i := 9) (oi := { dst := some 41, op := Go.Op.indexAddr 29 (Go.Operand.tmp 39) (Go.Operand.tmp 40), type := 0, pos := "ref.go:77", after := #[{ on := 7, ground := Go.Ground.data }, { on := 8, ground := Go.Ground.data }, { on := 2, ground := Go.Ground.guard }], guard := some (2, false) }) (v := _) rfl (by kernel_rfl) (by kernel_rfl) (by kernel_rfl) (fun _ _ _ h => h) (Or.inl ⟨by rfl, ?hy193⟩) (by assumption) ?rest193
                    case hy193 => (intro w hSw; (try dsimp only at hSw); go_simp; try (with_reducible rfl))
                    (try simp only [Act.put, List.setIfInBounds_toArray, List.set_cons_zero, List.set_cons_succ])
                    refine' wpAnyH_take (i := 10) (oi := { dst := some 42, op := Go.Op.load 24 (Go.Operand.tmp 41), type := 24, pos := "ref.go:77", after := #[{ on := 9, ground := Go.Ground.data }, { on := 2, ground := Go.Ground.guard }], guard := some (2, false) }) (v := _) rfl (by kernel_rfl) (by kernel_rfl) (by kernel_rfl) (fun _ _ _ h => h) (Or.inl ⟨by rfl, ?hy194⟩) (by assumption) ?rest194
                    case hy194 => (intro w hSw; (try dsimp only at hSw); go_simp; try (with_reducible rfl))
                    (try simp only [Act.put, List.setIfInBounds_toArray, List.set_cons_zero, List.set_cons_succ])
                    refine' wpAnyH_take (i := 11) (oi := { dst := some 43, op := Go.Op.move (Go.Operand.tmp 1), type := 3, pos := "ref.go:77", after := #[{ on := 2, ground := Go.Ground.guard }], guard := some (2, false) }) (v := _) rfl (by kernel_rfl) (by kernel_rfl) (by kernel_rfl) (fun _ _ _ h => h) (Or.inl ⟨by rfl, ?hy195⟩) (by assumption) ?rest195
                    case hy195 => (intro w hSw; (try dsimp only at hSw); go_simp; try (with_reducible rfl))
                    (try simp only [Act.put, List.setIfInBounds_toArray, List.set_cons_zero, List.set_cons_succ])
                    refine' wpAnyH_take (i := 12) (oi := { dst := some 44, op := Go.Op.move (Go.Operand.tmp 2), type := 22, pos := "ref.go:77", after := #[{ on := 2, ground := Go.Ground.guard }], guard := some (2, false) }) (v := _) rfl (by kernel_rfl) (by kernel_rfl) (by kernel_rfl) (fun _ _ _ h => h) (Or.inl ⟨by rfl, ?hy196⟩) (by assumption) ?rest196
                    case hy196 => (intro w hSw; (try dsimp only at hSw); go_simp; try (with_reducible rfl))
                    (try simp only [Act.put, List.setIfInBounds_toArray, List.set_cons_zero, List.set_cons_succ])
                    refine wpAnyH_ready (rs := [13]) (by kernel_rfl) (by simp) ?_
                    refine AllReadyH.cons (o := { dst := some 45, op := Go.Op.call { callee := Go.Callee.value (Go.Operand.func 11), args := #[Go.Operand.tmp 38, Go.Operand.tmp 42, Go.Operand.tmp 43, Go.Operand.tmp 44], argTypes := #[24, 24, 3, 22] }, type := 4, pos := "ref.go:77", after := #[{ on := 6, ground := Go.Ground.data }, { on := 10, ground := Go.Ground.data }, { on := 11, ground := Go.Ground.data }, { on := 12, ground := Go.Ground.data }, { on := 2, ground := Go.Ground.chain }, { on := 2, ground := Go.Ground.guard }], guard := some (2, false) }) rfl (fun K hK => ?_) AllReadyH.nil
                    go_simp
                    refine (callK (S := (fun w' : World => w'.cell? (ad.add (k * 4)) = some (.int .i64 l[k].used) ∧ w'.cell? ⟨(ad.add (k * 4)).block, (ad.add (k * 4)).off + 1, none⟩ = some (.int .i64 l[k].live) ∧ w'.cell? ⟨(ad.add (k * 4)).block, (ad.add (k * 4)).off + 2, none⟩ = some (.int .u64 l[k].age) ∧ w'.cell? ⟨(ad.add (k * 4)).block, (ad.add (k * 4)).off + 3, none⟩ = some (.int .u64 l[k].wear) ∧ w'.cell? (ad.add (j * 4)) = some (.int .i64 l[j].used) ∧ w'.cell? ⟨(ad.add (j * 4)).block, (ad.add (j * 4)).off + 1, none⟩ = some (.int .i64 l[j].live) ∧ w'.cell? ⟨(ad.add (j * 4)).block, (ad.add (j * 4)).off + 2, none⟩ = some (.int .u64 l[j].age) ∧ w'.cell? ⟨(ad.add (j * 4)).block, (ad.add (j * 4)).off + 3, none⟩ = some (.int .u64 l[j].wear) ∧ Hid (Below w.heap.size w w'))) hS.out (fun W _ => hkj.out W) (by assumption)).mono ?_
                    rintro e w' ⟨rfl, hq0, hq1, hq2, hq3, hq4, hq5, hq6, hq7, hq8⟩
                    refine hK.out _ _ ⟨hq0, hq1, hq2, hq3, hq4, hq5, hq6, hq7, hq8⟩ (fun hHeld => ?_)
                    clear hK K
                    (try simp only [Act.put, List.setIfInBounds_toArray, List.set_cons_zero, List.set_cons_succ])
                    refine' wpAnyH_take (i := 14) (oi := { dst := some 46, op := Go.Op.pick (Go.Operand.tmp 34) (Go.Operand.const (Go.Value.bool true)) (Go.Operand.tmp 45), type := 4, pos := "ref.go:77", after := #[{ on := 2, ground := Go.Ground.data }, { on := 13, ground := Go.Ground.data }], guard := none }) (v := _) rfl (by kernel_rfl) (by kernel_rfl) (by kernel_rfl) (fun _ _ _ h => h) (Or.inl ⟨by rfl, ?hy197⟩) (by assumption) ?rest197
                    case hy197 => (intro w hSw; (try dsimp only at hSw); go_simp; try (with_reducible rfl))
                    (try simp only [Act.put, List.setIfInBounds_toArray, List.set_cons_zero, List.set_cons_succ])
                    refine' wpAnyH_take (i := 15) (oi := { dst := some 47, op := Go.Op.move (Go.Operand.tmp 46), type := 4, pos := "ref.go:77", after := #[{ on := 14, ground := Go.Ground.data }, { on := 13, ground := Go.Ground.chain }], guard := none }) (v := _) rfl (by kernel_rfl) (by kernel_rfl) (by kernel_rfl) (fun _ _ _ h => h) (Or.inl ⟨by rfl, ?hy198⟩) (by assumption) ?rest198
                    case hy198 => (intro w hSw; (try dsimp only at hSw); go_simp; try (with_reducible rfl))
                    (try simp only [Act.put, List.setIfInBounds_toArray, List.set_cons_zero, List.set_cons_succ])
                    refine' wpAnyH_take (i := 16) (oi := { dst := some 48, op := Go.Op.move (Go.Operand.tmp 0), type := 29, pos := "ref.go:77", after := #[{ on := 15, ground := Go.Ground.guard }], guard := some (15, false) }) (v := _) rfl (by kernel_rfl) (by kernel_rfl) (by kernel_rfl) (fun _ _ _ h => h) (Or.inl ⟨by rfl, ?hy199⟩) (by assumption) ?rest199
                    case hy199 => (intro w hSw; (try dsimp only at hSw); go_simp; try (with_reducible rfl))
                    (try simp only [Act.put, List.setIfInBounds_toArray, List.set_cons_zero, List.set_cons_succ])
                    refine' wpAnyH_take (i := 17) (oi := { dst := some 49, op := Go.Op.move (Go.Operand.tmp 10), type := 3, pos := "ref.go:77", after := #[{ on := 15, ground := Go.Ground.guard }], guard := some (15, false) }) (v := _) rfl (by kernel_rfl) (by kernel_rfl) (by kernel_rfl) (fun _ _ _ h => h) (Or.inl ⟨by rfl, ?hy200⟩) (by assumption) ?rest200
                    case hy200 => (intro w hSw; (try dsimp only at hSw); go_simp; try (with_reducible rfl))
                    (try simp only [Act.put, List.setIfInBounds_toArray, List.set_cons_zero, List.set_cons_succ])
                    refine' wpAnyH_take (i := 18) (oi := { dst := some 50, op := Go.Op.indexAddr 29 (Go.Operand.tmp 48) (Go.Operand.tmp 49), type := 0, pos := "ref.go:77", after := #[{ on := 16, ground := Go.Ground.data }, { on := 17, ground := Go.Ground.data }, { on := 15, ground := Go.Ground.guard }], guard := some (15, false) }) (v := _) rfl (by kernel_rfl) (by kernel_rfl) (by kernel_rfl) (fun _ _ _ h => h) (Or.inl ⟨by rfl, ?hy201⟩) (by assumption) ?rest201
                    case hy201 => (intro w hSw; (try dsimp only at hSw); go_simp; try (with_reducible rfl))
                    (try simp only [Act.put, List.setIfInBounds_toArray, List.set_cons_zero, List.set_cons_succ])
                    refine' wpAnyH_take (i := 19) (oi := { dst := some 51, op := Go.Op.load 24 (Go.Operand.tmp 50), type := 24, pos := "ref.go:77", after := #[{ on := 18, ground := Go.Ground.data }, { on := 15, ground := Go.Ground.guard }], guard := some (15, false) }) (v := _) rfl (by kernel_rfl) (by kernel_rfl) (by kernel_rfl) (fun _ _ _ h => h) (Or.inl ⟨by rfl, ?hy202⟩) (by assumption) ?rest202
                    case hy202 => (intro w hSw; (try dsimp only at hSw); go_simp; try (with_reducible rfl))
                    (try simp only [Act.put, List.setIfInBounds_toArray, List.set_cons_zero, List.set_cons_succ])
                    refine' wpAnyH_take (i := 20) (oi := { dst := some 52, op := Go.Op.move (Go.Operand.tmp 0), type := 29, pos := "ref.go:77", after := #[{ on := 15, ground := Go.Ground.guard }], guard := some (15, false) }) (v := _) rfl (by kernel_rfl) (by kernel_rfl) (by kernel_rfl) (fun _ _ _ h => h) (Or.inl ⟨by rfl, ?hy203⟩) (by assumption) ?rest203
                    case hy203 => (intro w hSw; (try dsimp only at hSw); go_simp; try (with_reducible rfl))
                    (try simp only [Act.put, List.setIfInBounds_toArray, List.set_cons_zero, List.set_cons_succ])
                    refine' wpAnyH_take (i := 21) (oi := { dst := some 53, op := Go.Op.move (Go.Operand.tmp 11), type := 3, pos := "ref.go:77", after := #[{ on := 15, ground := Go.Ground.guard }], guard := some (15, false) }) (v := _) rfl (by kernel_rfl) (by kernel_rfl) (by kernel_rfl) (fun _ _ _ h => h) (Or.inl ⟨by rfl, ?hy204⟩) (by assumption) ?rest204
                    case hy204 => (intro w hSw; (try dsimp only at hSw); go_simp; try (with_reducible rfl))
                    (try simp only [Act.put, List.setIfInBounds_toArray, List.set_cons_zero, List.set_cons_succ])
                    refine' wpAnyH_take (i := 22) (oi := { dst := some 54, op := Go.Op.indexAddr 29 (Go.Operand.tmp 52) (Go.Operand.tmp 53), type := 0, pos := "ref.go:77", after := #[{ on := 20, ground := Go.Ground.data }, { on := 21, ground := Go.Ground.data }, { on := 15, ground := Go.Ground.guard }], guard := some (15, false) }) (v := _) rfl (by kernel_rfl) (by kernel_rfl) (by kernel_rfl) (fun _ _ _ h => h) (Or.inl ⟨by rfl, ?hy205⟩) (by assumption) ?rest205
                    case hy205 => (intro w hSw; (try dsimp only at hSw); go_simp; try (with_reducible rfl))
                    (try simp only [Act.put, List.setIfInBounds_toArray, List.set_cons_zero, List.set_cons_succ])
                    refine' wpAnyH_take (i := 23) (oi := { dst := some 55, op := Go.Op.load 24 (Go.Operand.tmp 54), type := 24, pos := "ref.go:77", after := #[{ on := 22, ground := Go.Ground.data }, { on := 15, ground := Go.Ground.guard }], guard := some (15, false) }) (v := _) rfl (by kernel_rfl) (by kernel_rfl) (by kernel_rfl) (fun _ _ _ h => h) (Or.inl ⟨by rfl, ?hy206⟩) (by assumption) ?rest206
                    case hy206 => (intro w hSw; (try dsimp only at hSw); go_simp; try (with_reducible rfl))
                    (try simp only [Act.put, List.setIfInBounds_toArray, List.set_cons_zero, List.set_cons_succ])
                    refine' wpAnyH_take (i := 24) (oi := { dst := some 56, op := Go.Op.move (Go.Operand.tmp 1), type := 3, pos := "ref.go:77", after := #[{ on := 15, ground := Go.Ground.guard }], guard := some (15, false) }) (v := _) rfl (by kernel_rfl) (by kernel_rfl) (by kernel_rfl) (fun _ _ _ h => h) (Or.inl ⟨by rfl, ?hy207⟩) (by assumption) ?rest207
                    case hy207 => (intro w hSw; (try dsimp only at hSw); go_simp; try (with_reducible rfl))
                    (try simp only [Act.put, List.setIfInBounds_toArray, List.set_cons_zero, List.set_cons_succ])
                    refine' wpAnyH_take (i := 25) (oi := { dst := some 57, op := Go.Op.move (Go.Operand.tmp 2), type := 22, pos := "ref.go:77", after := #[{ on := 15, ground := Go.Ground.guard }], guard := some (15, false) }) (v := _) rfl (by kernel_rfl) (by kernel_rfl) (by kernel_rfl) (fun _ _ _ h => h) (Or.inl ⟨by rfl, ?hy208⟩) (by assumption) ?rest208
                    case hy208 => (intro w hSw; (try dsimp only at hSw); go_simp; try (with_reducible rfl))
                    (try simp only [Act.put, List.setIfInBounds_toArray, List.set_cons_zero, List.set_cons_succ])
                    refine wpAnyH_ready (rs := [26]) (by kernel_rfl) (by simp) ?_
                    refine AllReadyH.cons (o := { dst := some 58, op := Go.Op.call { callee := Go.Callee.value (Go.Operand.func 11), args := #[Go.Operand.tmp 51, Go.Operand.tmp 55, Go.Operand.tmp 56, Go.Operand.tmp 57], argTypes := #[24, 24, 3, 22] }, type := 4, pos := "ref.go:77", after := #[{ on := 19, ground := Go.Ground.data }, { on := 23, ground := Go.Ground.data }, { on := 24, ground := Go.Ground.data }, { on := 25, ground := Go.Ground.data }, { on := 15, ground := Go.Ground.chain }, { on := 15, ground := Go.Ground.guard }], guard := some (15, false) }) rfl (fun K hK => ?_) AllReadyH.nil
                    go_simp
                    refine (callK (S := (fun w' : World => w'.cell? (ad.add (k * 4)) = some (.int .i64 l[k].used) ∧ w'.cell? ⟨(ad.add (k * 4)).block, (ad.add (k * 4)).off + 1, none⟩ = some (.int .i64 l[k].live) ∧ w'.cell? ⟨(ad.add (k * 4)).block, (ad.add (k * 4)).off + 2, none⟩ = some (.int .u64 l[k].age) ∧ w'.cell? ⟨(ad.add (k * 4)).block, (ad.add (k * 4)).off + 3, none⟩ = some (.int .u64 l[k].wear) ∧ w'.cell? (ad.add (j * 4)) = some (.int .i64 l[j].used) ∧ w'.cell? ⟨(ad.add (j * 4)).block, (ad.add (j * 4)).off + 1, none⟩ = some (.int .i64 l[j].live) ∧ w'.cell? ⟨(ad.add (j * 4)).block, (ad.add (j * 4)).off + 2, none⟩ = some (.int .u64 l[j].age) ∧ w'.cell? ⟨(ad.add (j * 4)).block, (ad.add (j * 4)).off + 3, none⟩ = some (.int .u64 l[j].wear) ∧ Hid (Below w.heap.size w w'))) hS.out (fun W _ => hjk2.out W) (by assumption)).mono ?_
                    rintro e w' ⟨rfl, hq0, hq1, hq2, hq3, hq4, hq5, hq6, hq7, hq8⟩
                    refine hK.out _ _ ⟨hq0, hq1, hq2, hq3, hq4, hq5, hq6, hq7, hq8⟩ (fun hHeld => ?_)
                    clear hK K
                    (try simp only [Act.put, List.setIfInBounds_toArray, List.set_cons_zero, List.set_cons_succ])
                    refine' wpAnyH_take (i := 27) (oi := { dst := some 59, op := Go.Op.unOp Go.UnOp.not 4 (Go.Operand.tmp 58), type := 4, pos := "ref.go:77", after := #[{ on := 26, ground := Go.Ground.data }, { on := 15, ground := Go.Ground.guard }], guard := some (15, false) }) (v := _) rfl (by kernel_rfl) (by kernel_rfl) (by kernel_rfl) (fun _ _ _ h => h) (Or.inl ⟨by rfl, ?hy209⟩) (by assumption) ?rest209
                    case hy209 => (intro w hSw; (try dsimp only at hSw); go_simp; try (with_reducible rfl))
                    (try simp only [Act.put, List.setIfInBounds_toArray, List.set_cons_zero, List.set_cons_succ])
                    refine' wpAnyH_take (i := 28) (oi := { dst := some 60, op := Go.Op.move (Go.Operand.tmp 59), type := 4, pos := "ref.go:77", after := #[{ on := 27, ground := Go.Ground.data }, { on := 26, ground := Go.Ground.chain }, { on := 15, ground := Go.Ground.guard }], guard := some (15, false) }) (v := _) rfl (by kernel_rfl) (by kernel_rfl) (by kernel_rfl) (fun _ _ _ h => h) (Or.inl ⟨by rfl, ?hy210⟩) (by assumption) ?rest210
                    case hy210 => (intro w hSw; (try dsimp only at hSw); go_simp; try (with_reducible rfl))
                    (try simp only [Act.put, List.setIfInBounds_toArray, List.set_cons_zero, List.set_cons_succ])
                    refine' wpAnyH_take (i := 29) (oi := { dst := some 61, op := Go.Op.move (Go.Operand.tmp 0), type := 29, pos := "ref.go:77", after := #[{ on := 28, ground := Go.Ground.guard }], guard := some (28, true) }) (v := _) rfl (by kernel_rfl) (by kernel_rfl) (by kernel_rfl) (fun _ _ _ h => h) (Or.inl ⟨by rfl, ?hy211⟩) (by assumption) ?rest211
                    case hy211 => (intro w hSw; (try dsimp only at hSw); go_simp; try (with_reducible rfl))
                    (try simp only [Act.put, List.setIfInBounds_toArray, List.set_cons_zero, List.set_cons_succ])
                    refine' wpAnyH_take (i := 30) (oi := { dst := some 62, op := Go.Op.move (Go.Operand.tmp 11), type := 3, pos := "ref.go:77", after := #[{ on := 28, ground := Go.Ground.guard }], guard := some (28, true) }) (v := _) rfl (by kernel_rfl) (by kernel_rfl) (by kernel_rfl) (fun _ _ _ h => h) (Or.inl ⟨by rfl, ?hy212⟩) (by assumption) ?rest212
                    case hy212 => (intro w hSw; (try dsimp only at hSw); go_simp; try (with_reducible rfl))
                    (try simp only [Act.put, List.setIfInBounds_toArray, List.set_cons_zero, List.set_cons_succ])
                    refine' wpAnyH_take (i := 31) (oi := { dst := some 63, op := Go.Op.indexAddr 29 (Go.Operand.tmp 61) (Go.Operand.tmp 62), type := 0, pos := "ref.go:77", after := #[{ on := 29, ground := Go.Ground.data }, { on := 30, ground := Go.Ground.data }, { on := 28, ground := Go.Ground.guard }], guard := some (28, true) }) (v := _) rfl (by kernel_rfl) (by kernel_rfl) (by kernel_rfl) (fun _ _ _ h => h) (Or.inl ⟨by rfl, ?hy213⟩) (by assumption) ?rest213
                    case hy213 => (intro w hSw; (try dsimp only at hSw); go_simp; try (with_reducible rfl))
                    (try simp only [Act.put, List.setIfInBounds_toArray, List.set_cons_zero, List.set_cons_succ])
                    refine' wpAnyH_take (i := 32) (oi := { dst := some 64, op := Go.Op.fieldAddr 24 (Go.Operand.tmp 63) 3, type := 0, pos := "ref.go:77", after := #[{ on := 31, ground := Go.Ground.data }, { on := 28, ground := Go.Ground.guard }], guard := some (28, true) }) (v := _) rfl (by kernel_rfl) (by kernel_rfl) (by kernel_rfl) (fun _ _ _ h => h) (Or.inl ⟨by rfl, ?hy214⟩) (by assumption) ?rest214
                    case hy214 => (intro w hSw; (try dsimp only at hSw); go_simp; try (with_reducible rfl))
                    (try simp only [Act.put, List.setIfInBounds_toArray, List.set_cons_zero, List.set_cons_succ])
                    refine' wpAnyH_take (i := 33) (oi := { dst := some 65, op := Go.Op.load 22 (Go.Operand.tmp 64), type := 22, pos := "ref.go:77", after := #[{ on := 32, ground := Go.Ground.data }, { on := 28, ground := Go.Ground.guard }], guard := some (28, true) }) (v := _) rfl (by kernel_rfl) (by kernel_rfl) (by kernel_rfl) (fun _ _ _ h => h) (Or.inl ⟨by rfl, ?hy215⟩) (by assumption) ?rest215
                    case hy215 => (intro w hSw; (try dsimp only at hSw); go_simp; try (with_reducible rfl))
                    (try simp only [Act.put, List.setIfInBounds_toArray, List.set_cons_zero, List.set_cons_succ])
                    refine' wpAnyH_take (i := 34) (oi := { dst := some 66, op := Go.Op.move (Go.Operand.tmp 0), type := 29, pos := "ref.go:77", after := #[{ on := 28, ground := Go.Ground.guard }], guard := some (28, true) }) (v := _) rfl (by kernel_rfl) (by kernel_rfl) (by kernel_rfl) (fun _ _ _ h => h) (Or.inl ⟨by rfl, ?hy216⟩) (by assumption) ?rest216
                    case hy216 => (intro w hSw; (try dsimp only at hSw); go_simp; try (with_reducible rfl))
                    (try simp only [Act.put, List.setIfInBounds_toArray, List.set_cons_zero, List.set_cons_succ])
                    refine' wpAnyH_take (i := 35) (oi := { dst := some 67, op := Go.Op.move (Go.Operand.tmp 10), type := 3, pos := "ref.go:77", after := #[{ on := 28, ground := Go.Ground.guard }], guard := some (28, true) }) (v := _) rfl (by kernel_rfl) (by kernel_rfl) (by kernel_rfl) (fun _ _ _ h => h) (Or.inl ⟨by rfl, ?hy217⟩) (by assumption) ?rest217
                    case hy217 => (intro w hSw; (try dsimp only at hSw); go_simp; try (with_reducible rfl))
                    (try simp only [Act.put, List.setIfInBounds_toArray, List.set_cons_zero, List.set_cons_succ])
                    refine' wpAnyH_take (i := 36) (oi := { dst := some 68, op := Go.Op.indexAddr 29 (Go.Operand.tmp 66) (Go.Operand.tmp 67), type := 0, pos := "ref.go:77", after := #[{ on := 34, ground := Go.Ground.data }, { on := 35, ground := Go.Ground.data }, { on := 28, ground := Go.Ground.guard }], guard := some (28, true) }) (v := _) rfl (by kernel_rfl) (by kernel_rfl) (by kernel_rfl) (fun _ _ _ h => h) (Or.inl ⟨by rfl, ?hy218⟩) (by assumption) ?rest218
                    case hy218 => (intro w hSw; (try dsimp only at hSw); go_simp; try (with_reducible rfl))
                    (try simp only [Act.put, List.setIfInBounds_toArray, List.set_cons_zero, List.set_cons_succ])
                    refine' wpAnyH_take (i := 37) (oi := { dst := some 69, op := Go.Op.fieldAddr 24 (Go.Operand.tmp 68) 3, type := 0, pos := "ref.go:77", after := #[{ on := 36, ground := Go.Ground.data }, { on := 28, ground := Go.Ground.guard }], guard := some (28, true) }) (v := _) rfl (by kernel_rfl) (by kernel_rfl) (by kernel_rfl) (fun _ _ _ h => h) (Or.inl ⟨by rfl, ?hy219⟩) (by assumption) ?rest219
                    case hy219 => (intro w hSw; (try dsimp only at hSw); go_simp; try (with_reducible rfl))
                    (try simp only [Act.put, List.setIfInBounds_toArray, List.set_cons_zero, List.set_cons_succ])
                    refine' wpAnyH_take (i := 38) (oi := { dst := some 70, op := Go.Op.load 22 (Go.Operand.tmp 69), type := 22, pos := "ref.go:77", after := #[{ on := 37, ground := Go.Ground.data }, { on := 28, ground := Go.Ground.guard }], guard := some (28, true) }) (v := _) rfl (by kernel_rfl) (by kernel_rfl) (by kernel_rfl) (fun _ _ _ h => h) (Or.inl ⟨by rfl, ?hy220⟩) (by assumption) ?rest220
                    case hy220 => (intro w hSw; (try dsimp only at hSw); go_simp; try (with_reducible rfl))
                    (try simp only [Act.put, List.setIfInBounds_toArray, List.set_cons_zero, List.set_cons_succ])
                    refine' wpAnyH_take (i := 39) (oi := { dst := some 71, op := Go.Op.binOp Go.BinOp.lss 22 (Go.Operand.tmp 65) (Go.Operand.tmp 70) 22, type := 4, pos := "ref.go:77", after := #[{ on := 33, ground := Go.Ground.data }, { on := 38, ground := Go.Ground.data }, { on := 28, ground := Go.Ground.guard }], guard := some (28, true) }) (v := _) rfl (by kernel_rfl) (by kernel_rfl) (by kernel_rfl) (fun _ _ _ h => h) (Or.inl ⟨by rfl, ?hy221⟩) (by assumption) ?rest221
                    case hy221 => (intro w hSw; (try dsimp only at hSw); go_simp; try (with_reducible rfl))
                    (try simp only [Act.put, List.setIfInBounds_toArray, List.set_cons_zero, List.set_cons_succ])
                    refine' wpAnyH_take (i := 40) (oi := { dst := some 72, op := Go.Op.pick (Go.Operand.tmp 60) (Go.Operand.tmp 71) (Go.Operand.const (Go.Value.bool false)), type := 4, pos := "ref.go:77", after := #[{ on := 28, ground := Go.Ground.data }, { on := 39, ground := Go.Ground.data }, { on := 15, ground := Go.Ground.guard }], guard := some (15, false) }) (v := _) rfl (by kernel_rfl) (by kernel_rfl) (by kernel_rfl) (fun _ _ _ h => h) (Or.inl ⟨by rfl, ?hy222⟩) (by assumption) ?rest222
                    case hy222 => (intro w hSw; (try dsimp only at hSw); go_simp; try (with_reducible rfl))
                    (try simp only [Act.put, List.setIfInBounds_toArray, List.set_cons_zero, List.set_cons_succ])
                    refine' wpAnyH_take (i := 41) (oi := { dst := some 73, op := Go.Op.pick (Go.Operand.tmp 47) (Go.Operand.const (Go.Value.bool true)) (Go.Operand.tmp 72), type := 4, pos := "ref.go:77", after := #[{ on := 15, ground := Go.Ground.data }, { on := 40, ground := Go.Ground.data }], guard := none }) (v := _) rfl (by kernel_rfl) (by kernel_rfl) (by kernel_rfl) (fun _ _ _ h => h) (Or.inl ⟨by rfl, ?hy223⟩) (by assumption) ?rest223
                    case hy223 => (intro w hSw; (try dsimp only at hSw); go_simp; try (with_reducible rfl))
                    (try simp only [Act.put, List.setIfInBounds_toArray, List.set_cons_zero, List.set_cons_succ])
                    refine wpAnyH_done (by kernel_rfl) ?_ _
                    refine NoPanic.normal ?_
                    all_goals go_wp2
                    all_goals go_roundw
                    all_goals (first | (case rel => exact ⟨k + 1, by omega, by go_num, by rw [hs.out], hq8.out⟩) | skip)
                    all_goals (simp [intOf]; omega)
        · obtain rfl : k = l.length := by omega
          have hrg := chTo_range l size now opn l.length
          by_cases hb : chTo l size now opn l.length < 0
          · have hr2 := Lib.hid (show chooseR l size now opn = (0, 9) by rw [hr.out, if_pos hb])
            generalize chTo l size now opn l.length = b at *
            go_wp2
            go_ret2
            exact ⟨by rw [hr2.out]; rfl, hB⟩
          · have hr2 := Lib.hid (show chooseR l size now opn = (chTo l size now opn l.length, 0) by rw [hr.out, if_neg hb])
            generalize chTo l size now opn l.length = b at *
            go_wp2
            go_ret2
            exact ⟨by rw [hr2.out]; rfl, hB⟩
end Go.Proofs.Ytnjmllkcodppgaa
