/- The walk of the law VictimOrder. -/
import Derived.Test.YtnjmllkcodppgaaM
import Derived.Test.YtnjmllkcodppgaaS
import Derived.Test.YtnjmllkcodppgaaQ
namespace Go.Proofs.Ytnjmllkcodppgaa
open Go.RowKit
set_option linter.unusedVariables false

/-- three blocks that hold three bands -/
def Tri (w : World) (pa pb pc : Nat) (a b c : BI) : Prop := At w ⟨pa, 0, none⟩ a ∧ At w ⟨pb, 0, none⟩ b ∧ At w ⟨pc, 0, none⟩ c
theorem Tri.below {w w' : World} {pa pb pc : Nat} {a b c : BI} (h : Tri w pa pb pc a b c) (hb : Below w.heap.size w w') : Tri w' pa pb pc a b c := ⟨h.1.below hb, h.2.1.below hb, h.2.2.below hb⟩

set_option maxRecDepth 100000 in
set_option maxHeartbeats 8000000 in
theorem lawOrder (a b c : BI) (size now : Int) (w : World) (ga : okB a) (gb : okB b) (gc : okB c) (gs : (Lit.int .i64 size).wf = true) (gn : (Lit.int .u64 now).wf = true) :
    Calls Try.prog 5 #[.agg #[.int .i64 a.used, .int .i64 a.live, .int .u64 a.age, .int .u64 a.wear, .int .i64 b.used, .int .i64 b.live, .int .u64 b.age, .int .u64 b.wear, .int .i64 c.used, .int .i64 c.live, .int .u64 c.age, .int .u64 c.wear], .int .i64 size, .int .u64 now] w fun e w' => e = .returned (.bool true) ∧ Below w.heap.size w w' := by
  have hB0 : Below w.heap.size w (w.alloc (.cells #[.int .i64 a.used, .int .i64 a.live, .int .u64 a.age, .int .u64 a.wear, .int .i64 b.used, .int .i64 b.live, .int .u64 b.age, .int .u64 b.wear, .int .i64 c.used, .int .i64 c.live, .int .u64 c.age, .int .u64 c.wear] 36)) := (Below.refl _ _).alloc (Nat.le_refl _) _
  have xx := heap_alloc_new w (.cells #[.int .i64 a.used, .int .i64 a.live, .int .u64 a.age, .int .u64 a.wear, .int .i64 b.used, .int .i64 b.live, .int .u64 b.age, .int .u64 b.wear, .int .i64 c.used, .int .i64 c.live, .int .u64 c.age, .int .u64 c.wear] 36)
  have x0 : (w.alloc (.cells #[.int .i64 a.used, .int .i64 a.live, .int .u64 a.age, .int .u64 a.wear, .int .i64 b.used, .int .i64 b.live, .int .u64 b.age, .int .u64 b.wear, .int .i64 c.used, .int .i64 c.live, .int .u64 c.age, .int .u64 c.wear] 36)).cell? ⟨w.heap.size, 0, none⟩ = some (.int .i64 a.used) := cell_of_row _ _ 0 _ _ _ xx
  have x1 : (w.alloc (.cells #[.int .i64 a.used, .int .i64 a.live, .int .u64 a.age, .int .u64 a.wear, .int .i64 b.used, .int .i64 b.live, .int .u64 b.age, .int .u64 b.wear, .int .i64 c.used, .int .i64 c.live, .int .u64 c.age, .int .u64 c.wear] 36)).cell? ⟨w.heap.size, 1, none⟩ = some (.int .i64 a.live) := cell_of_row _ _ 1 _ _ _ xx
  have x2 : (w.alloc (.cells #[.int .i64 a.used, .int .i64 a.live, .int .u64 a.age, .int .u64 a.wear, .int .i64 b.used, .int .i64 b.live, .int .u64 b.age, .int .u64 b.wear, .int .i64 c.used, .int .i64 c.live, .int .u64 c.age, .int .u64 c.wear] 36)).cell? ⟨w.heap.size, 2, none⟩ = some (.int .u64 a.age) := cell_of_row _ _ 2 _ _ _ xx
  have x3 : (w.alloc (.cells #[.int .i64 a.used, .int .i64 a.live, .int .u64 a.age, .int .u64 a.wear, .int .i64 b.used, .int .i64 b.live, .int .u64 b.age, .int .u64 b.wear, .int .i64 c.used, .int .i64 c.live, .int .u64 c.age, .int .u64 c.wear] 36)).cell? ⟨w.heap.size, 3, none⟩ = some (.int .u64 a.wear) := cell_of_row _ _ 3 _ _ _ xx
  have x4 : (w.alloc (.cells #[.int .i64 a.used, .int .i64 a.live, .int .u64 a.age, .int .u64 a.wear, .int .i64 b.used, .int .i64 b.live, .int .u64 b.age, .int .u64 b.wear, .int .i64 c.used, .int .i64 c.live, .int .u64 c.age, .int .u64 c.wear] 36)).cell? ⟨w.heap.size, 4, none⟩ = some (.int .i64 b.used) := cell_of_row _ _ 4 _ _ _ xx
  have x5 : (w.alloc (.cells #[.int .i64 a.used, .int .i64 a.live, .int .u64 a.age, .int .u64 a.wear, .int .i64 b.used, .int .i64 b.live, .int .u64 b.age, .int .u64 b.wear, .int .i64 c.used, .int .i64 c.live, .int .u64 c.age, .int .u64 c.wear] 36)).cell? ⟨w.heap.size, 5, none⟩ = some (.int .i64 b.live) := cell_of_row _ _ 5 _ _ _ xx
  have x6 : (w.alloc (.cells #[.int .i64 a.used, .int .i64 a.live, .int .u64 a.age, .int .u64 a.wear, .int .i64 b.used, .int .i64 b.live, .int .u64 b.age, .int .u64 b.wear, .int .i64 c.used, .int .i64 c.live, .int .u64 c.age, .int .u64 c.wear] 36)).cell? ⟨w.heap.size, 6, none⟩ = some (.int .u64 b.age) := cell_of_row _ _ 6 _ _ _ xx
  have x7 : (w.alloc (.cells #[.int .i64 a.used, .int .i64 a.live, .int .u64 a.age, .int .u64 a.wear, .int .i64 b.used, .int .i64 b.live, .int .u64 b.age, .int .u64 b.wear, .int .i64 c.used, .int .i64 c.live, .int .u64 c.age, .int .u64 c.wear] 36)).cell? ⟨w.heap.size, 7, none⟩ = some (.int .u64 b.wear) := cell_of_row _ _ 7 _ _ _ xx
  have x8 : (w.alloc (.cells #[.int .i64 a.used, .int .i64 a.live, .int .u64 a.age, .int .u64 a.wear, .int .i64 b.used, .int .i64 b.live, .int .u64 b.age, .int .u64 b.wear, .int .i64 c.used, .int .i64 c.live, .int .u64 c.age, .int .u64 c.wear] 36)).cell? ⟨w.heap.size, 8, none⟩ = some (.int .i64 c.used) := cell_of_row _ _ 8 _ _ _ xx
  have x9 : (w.alloc (.cells #[.int .i64 a.used, .int .i64 a.live, .int .u64 a.age, .int .u64 a.wear, .int .i64 b.used, .int .i64 b.live, .int .u64 b.age, .int .u64 b.wear, .int .i64 c.used, .int .i64 c.live, .int .u64 c.age, .int .u64 c.wear] 36)).cell? ⟨w.heap.size, 9, none⟩ = some (.int .i64 c.live) := cell_of_row _ _ 9 _ _ _ xx
  have x10 : (w.alloc (.cells #[.int .i64 a.used, .int .i64 a.live, .int .u64 a.age, .int .u64 a.wear, .int .i64 b.used, .int .i64 b.live, .int .u64 b.age, .int .u64 b.wear, .int .i64 c.used, .int .i64 c.live, .int .u64 c.age, .int .u64 c.wear] 36)).cell? ⟨w.heap.size, 10, none⟩ = some (.int .u64 c.age) := cell_of_row _ _ 10 _ _ _ xx
  have x11 : (w.alloc (.cells #[.int .i64 a.used, .int .i64 a.live, .int .u64 a.age, .int .u64 a.wear, .int .i64 b.used, .int .i64 b.live, .int .u64 b.age, .int .u64 b.wear, .int .i64 c.used, .int .i64 c.live, .int .u64 c.age, .int .u64 c.wear] 36)).cell? ⟨w.heap.size, 11, none⟩ = some (.int .u64 c.wear) := cell_of_row _ _ 11 _ _ _ xx
  clear xx
  go_enter Try.func5, Try.ntmps5
  go_wp2_with fail
  generalize w.alloc _ = W at *
  refine (awake _).mono ?_
  rintro e w1 ⟨rfl, hb1⟩
  replace x0 := cell_below hb1 x0
  replace x1 := cell_below hb1 x1
  replace x2 := cell_below hb1 x2
  replace x3 := cell_below hb1 x3
  replace x4 := cell_below hb1 x4
  replace x5 := cell_below hb1 x5
  replace x6 := cell_below hb1 x6
  replace x7 := cell_below hb1 x7
  replace x8 := cell_below hb1 x8
  replace x9 := cell_below hb1 x9
  replace x10 := cell_below hb1 x10
  replace x11 := cell_below hb1 x11
  replace hB0 := below_then hB0 hB0.size hb1
  have hz : w.heap.size < w1.heap.size := by have := World.block_lt_of_cell? _ _ x0; simpa using this
  clear hb1
  have hBh := Lib.hid hB0
  have hzh := Lib.hid hz
  have mkS : ∀ W' : World, Below w1.heap.size w1 W' → (fun w' : World => (∀ j, w'.cell? ⟨w.heap.size, j, none⟩ = w1.cell? ⟨w.heap.size, j, none⟩) ∧ Below w1.heap.size w1 w') W' := fun W' hb => ⟨fun j => hb.cell hz, hb⟩
  replace mkS := Lib.hid mkS
  go_upto_region 3 with fail
  go_cut [7, 8, 9] (fun s7 s8 s9 wx => ∃ pa pb pc : Nat, s7 = .pointer (some ⟨pa, 0, none⟩) ∧ s8 = .pointer (some ⟨pb, 0, none⟩) ∧ s9 = .pointer (some ⟨pc, 0, none⟩) ∧ Tri wx pa pb pc a b c ∧ Below w1.heap.size w1 wx)
  case first =>
    go_region_held3 (fun w' : World => (∀ j, w'.cell? ⟨w.heap.size, j, none⟩ = w1.cell? ⟨w.heap.size, j, none⟩) ∧ Below w1.heap.size w1 w') ((refine mkS.out _ ?_; (repeat (first | exact Below.refl _ _ | refine Below.drew ?_ | refine Below.alloc ?_ (by simp <;> omega) _ | refine Below.setCell ?_ (by simp <;> omega) _))))
      (fail)
    all_goals (rename_i hHd; clear hHd)
    all_goals go_wp2_with fail
    all_goals go_meet
    all_goals refine ⟨_, _, _, rfl, rfl, rfl, ⟨⟨?_, ?_, ?_, ?_⟩, ⟨?_, ?_, ?_, ?_⟩, ⟨?_, ?_, ?_, ?_⟩⟩, ?_⟩
    all_goals (first | (go_simp; done) | (repeat (first | exact Below.refl _ _ | refine Below.drew ?_ | refine Below.alloc ?_ (by simp <;> omega) _ | refine Below.setCell ?_ (by simp <;> omega) _)))
  case rest =>
    clear mkS
    obtain ⟨pa, pb, pc, rfl, rfl, rfl, hT, hB1⟩ := hcut
    replace hB0 := below_then hB0 hB0.size hB1
    obtain ⟨⟨ca0, ca1, ca2, ca3⟩, ⟨cb0, cb1, cb2, cb3⟩, ⟨cc0, cc1, cc2, cc3⟩⟩ := id hT
    have hbe := Lib.hid (fun (p q : BI) (hp : okB p) (hq : okB q) W => vBetter p q size now W (wfu64 hp.2.2.1) (wfu64 hq.2.2.1) (wfu64 gn))
    replace x1 := cell_below hB1 x1
    replace x5 := cell_below hB1 x5
    replace x9 := cell_below hB1 x9
    clear x0 x2 x3 x4 x6 x7 x8 x10 x11 hB1 hBh hzh hz
    have haa := Lib.hid (bet_irr (a := a) (size := size) (now := now))
    cases hab : betS a b size now with
    | true =>
      have vab := Lib.hid hab
      have vba := Lib.hid (bet_asymm hab)
      clear hab
      go_wp2_with fail
      refine (hbe.out a a ga ga _).mono ?_
      rintro e wx ⟨rfl, hb1⟩
      rw [haa.out]
      replace hT := hT.below hb1
      replace hB0 := below_then hB0 hB0.size hb1
      replace x1 := cell_below hb1 x1
      replace x5 := cell_below hb1 x5
      replace x9 := cell_below hb1 x9
      clear hb1 ca0 ca1 ca2 ca3 cb0 cb1 cb2 cb3 cc0 cc1 cc2 cc3
      obtain ⟨⟨ca0, ca1, ca2, ca3⟩, ⟨cb0, cb1, cb2, cb3⟩, ⟨cc0, cc1, cc2, cc3⟩⟩ := id hT
      go_wp2_with fail
      refine (hbe.out a b ga gb _).mono ?_
      rintro e wx ⟨rfl, hb1⟩
      rw [vab.out]
      replace hT := hT.below hb1
      replace hB0 := below_then hB0 hB0.size hb1
      replace x1 := cell_below hb1 x1
      replace x5 := cell_below hb1 x5
      replace x9 := cell_below hb1 x9
      clear hb1 ca0 ca1 ca2 ca3 cb0 cb1 cb2 cb3 cc0 cc1 cc2 cc3
      obtain ⟨⟨ca0, ca1, ca2, ca3⟩, ⟨cb0, cb1, cb2, cb3⟩, ⟨cc0, cc1, cc2, cc3⟩⟩ := id hT
      go_wp2_with fail
      refine (hbe.out b a gb ga _).mono ?_
      rintro e wx ⟨rfl, hb1⟩
      rw [vba.out]
      replace hT := hT.below hb1
      replace hB0 := below_then hB0 hB0.size hb1
      replace x1 := cell_below hb1 x1
      replace x5 := cell_below hb1 x5
      replace x9 := cell_below hb1 x9
      clear hb1 ca0 ca1 ca2 ca3 cb0 cb1 cb2 cb3 cc0 cc1 cc2 cc3
      obtain ⟨⟨ca0, ca1, ca2, ca3⟩, ⟨cb0, cb1, cb2, cb3⟩, ⟨cc0, cc1, cc2, cc3⟩⟩ := id hT
      by_cases hs1 : size < 1
      · go_wp2
        go_ret
        exact ⟨rfl, hB0⟩
      · by_cases hs2 : 1048576 < size
        · go_wp2
          go_ret
          exact ⟨rfl, hB0⟩
        · have hsz : sizeS size = true := (size_iff size).2 (by omega)
          have hszh := Lib.hid hsz
          clear hsz
          go_wp2
          go_loop [10] (fun v => Hid ((v = .int .i64 0) ∨ (v = .int .i64 1 ∧ fitsS a = true) ∨ (v = .int .i64 2 ∧ fitsS a = true ∧ fitsS b = true) ∨ (v = .int .i64 3 ∧ fitsS a = true ∧ fitsS b = true ∧ fitsS c = true))) (fun v => 3 - (intOf v).toNat)
          case atStart => exact .inl rfl
          case round =>
            rcases hrel.out with rfl | ⟨rfl, f1⟩ | ⟨rfl, f1, f2⟩ | ⟨rfl, f1, f2, f3⟩
            · clear hrel
              by_cases l1 : a.live < 0
              · go_wp2
                go_ret
                exact ⟨rfl, hB0⟩
              · by_cases l2 : 1048576 < a.live
                · go_wp2
                  go_ret
                  exact ⟨rfl, hB0⟩
                · go_wp2
                  go_round
                  case rel => exact .inr (.inl ⟨by go_num, (fits_iff a).2 (by omega)⟩)
                  case measure => simp [intOf]
            · have g1 := Lib.hid f1
              clear f1
              clear hrel
              by_cases l1 : b.live < 0
              · go_wp2
                go_ret
                exact ⟨rfl, hB0⟩
              · by_cases l2 : 1048576 < b.live
                · go_wp2
                  go_ret
                  exact ⟨rfl, hB0⟩
                · go_wp2
                  go_round
                  case rel => exact .inr (.inr (.inl ⟨by go_num, g1.out, (fits_iff b).2 (by omega)⟩))
                  case measure => simp [intOf]
            · have g1 := Lib.hid f1
              clear f1
              have g2 := Lib.hid f2
              clear f2
              clear hrel
              by_cases l1 : c.live < 0
              · go_wp2
                go_ret
                exact ⟨rfl, hB0⟩
              · by_cases l2 : 1048576 < c.live
                · go_wp2
                  go_ret
                  exact ⟨rfl, hB0⟩
                · go_wp2
                  go_round
                  case rel => exact .inr (.inr (.inr ⟨by go_num, g1.out, g2.out, (fits_iff c).2 (by omega)⟩))
                  case measure => simp [intOf]
            · have g1 := Lib.hid f1
              have g2 := Lib.hid f2
              have g3 := Lib.hid f3
              clear f1 f2 f3 hrel
              cases hbc : betS b c size now with
              | true =>
                have vbc := Lib.hid hbc
                have vac := Lib.hid (bet_trans vab.out hbc)
                clear hbc
                go_wp2_with fail
                refine (hbe.out a b ga gb _).mono ?_
                rintro e wx ⟨rfl, hb1⟩
                rw [vab.out]
                replace hT := hT.below hb1
                replace hB0 := below_then hB0 hB0.size hb1
                replace x1 := cell_below hb1 x1
                replace x5 := cell_below hb1 x5
                replace x9 := cell_below hb1 x9
                clear hb1 ca0 ca1 ca2 ca3 cb0 cb1 cb2 cb3 cc0 cc1 cc2 cc3
                obtain ⟨⟨ca0, ca1, ca2, ca3⟩, ⟨cb0, cb1, cb2, cb3⟩, ⟨cc0, cc1, cc2, cc3⟩⟩ := id hT
                go_wp2_with fail
                refine (hbe.out b c gb gc _).mono ?_
                rintro e wx ⟨rfl, hb1⟩
                rw [vbc.out]
                replace hT := hT.below hb1
                replace hB0 := below_then hB0 hB0.size hb1
                replace x1 := cell_below hb1 x1
                replace x5 := cell_below hb1 x5
                replace x9 := cell_below hb1 x9
                clear hb1 ca0 ca1 ca2 ca3 cb0 cb1 cb2 cb3 cc0 cc1 cc2 cc3
                obtain ⟨⟨ca0, ca1, ca2, ca3⟩, ⟨cb0, cb1, cb2, cb3⟩, ⟨cc0, cc1, cc2, cc3⟩⟩ := id hT
                go_wp2_with fail
                refine (hbe.out a c ga gc _).mono ?_
                rintro e wx ⟨rfl, hb1⟩
                rw [vac.out]
                replace hT := hT.below hb1
                replace hB0 := below_then hB0 hB0.size hb1
                replace x1 := cell_below hb1 x1
                replace x5 := cell_below hb1 x5
                replace x9 := cell_below hb1 x9
                clear hb1 ca0 ca1 ca2 ca3 cb0 cb1 cb2 cb3 cc0 cc1 cc2 cc3
                obtain ⟨⟨ca0, ca1, ca2, ca3⟩, ⟨cb0, cb1, cb2, cb3⟩, ⟨cc0, cc1, cc2, cc3⟩⟩ := id hT
                go_wp2_with fail
                refine (hbe.out a b ga gb _).mono ?_
                rintro e wx ⟨rfl, hb1⟩
                rw [vab.out]
                replace hT := hT.below hb1
                replace hB0 := below_then hB0 hB0.size hb1
                replace x1 := cell_below hb1 x1
                replace x5 := cell_below hb1 x5
                replace x9 := cell_below hb1 x9
                clear hb1 ca0 ca1 ca2 ca3 cb0 cb1 cb2 cb3 cc0 cc1 cc2 cc3
                obtain ⟨⟨ca0, ca1, ca2, ca3⟩, ⟨cb0, cb1, cb2, cb3⟩, ⟨cc0, cc1, cc2, cc3⟩⟩ := id hT
                go_wp2
                go_ret
                exact ⟨rfl, hB0⟩
              | false =>
                have vbc := Lib.hid hbc
                clear hbc
                go_wp2_with fail
                refine (hbe.out a b ga gb _).mono ?_
                rintro e wx ⟨rfl, hb1⟩
                rw [vab.out]
                replace hT := hT.below hb1
                replace hB0 := below_then hB0 hB0.size hb1
                replace x1 := cell_below hb1 x1
                replace x5 := cell_below hb1 x5
                replace x9 := cell_below hb1 x9
                clear hb1 ca0 ca1 ca2 ca3 cb0 cb1 cb2 cb3 cc0 cc1 cc2 cc3
                obtain ⟨⟨ca0, ca1, ca2, ca3⟩, ⟨cb0, cb1, cb2, cb3⟩, ⟨cc0, cc1, cc2, cc3⟩⟩ := id hT
                go_wp2_with fail
                refine (hbe.out b c gb gc _).mono ?_
                rintro e wx ⟨rfl, hb1⟩
                rw [vbc.out]
                replace hT := hT.below hb1
                replace hB0 := below_then hB0 hB0.size hb1
                replace x1 := cell_below hb1 x1
                replace x5 := cell_below hb1 x5
                replace x9 := cell_below hb1 x9
                clear hb1 ca0 ca1 ca2 ca3 cb0 cb1 cb2 cb3 cc0 cc1 cc2 cc3
                obtain ⟨⟨ca0, ca1, ca2, ca3⟩, ⟨cb0, cb1, cb2, cb3⟩, ⟨cc0, cc1, cc2, cc3⟩⟩ := id hT
                go_wp2_with fail
                refine (hbe.out a b ga gb _).mono ?_
                rintro e wx ⟨rfl, hb1⟩
                rw [vab.out]
                replace hT := hT.below hb1
                replace hB0 := below_then hB0 hB0.size hb1
                replace x1 := cell_below hb1 x1
                replace x5 := cell_below hb1 x5
                replace x9 := cell_below hb1 x9
                clear hb1 ca0 ca1 ca2 ca3 cb0 cb1 cb2 cb3 cc0 cc1 cc2 cc3
                obtain ⟨⟨ca0, ca1, ca2, ca3⟩, ⟨cb0, cb1, cb2, cb3⟩, ⟨cc0, cc1, cc2, cc3⟩⟩ := id hT
                go_wp2
                go_ret
                exact ⟨rfl, hB0⟩
    | false =>
      have vab := Lib.hid hab
      clear hab
      go_wp2_with fail
      refine (hbe.out a a ga ga _).mono ?_
      rintro e wx ⟨rfl, hb1⟩
      rw [haa.out]
      replace hT := hT.below hb1
      replace hB0 := below_then hB0 hB0.size hb1
      replace x1 := cell_below hb1 x1
      replace x5 := cell_below hb1 x5
      replace x9 := cell_below hb1 x9
      clear hb1 ca0 ca1 ca2 ca3 cb0 cb1 cb2 cb3 cc0 cc1 cc2 cc3
      obtain ⟨⟨ca0, ca1, ca2, ca3⟩, ⟨cb0, cb1, cb2, cb3⟩, ⟨cc0, cc1, cc2, cc3⟩⟩ := id hT
      go_wp2_with fail
      refine (hbe.out a b ga gb _).mono ?_
      rintro e wx ⟨rfl, hb1⟩
      rw [vab.out]
      replace hT := hT.below hb1
      replace hB0 := below_then hB0 hB0.size hb1
      replace x1 := cell_below hb1 x1
      replace x5 := cell_below hb1 x5
      replace x9 := cell_below hb1 x9
      clear hb1 ca0 ca1 ca2 ca3 cb0 cb1 cb2 cb3 cc0 cc1 cc2 cc3
      obtain ⟨⟨ca0, ca1, ca2, ca3⟩, ⟨cb0, cb1, cb2, cb3⟩, ⟨cc0, cc1, cc2, cc3⟩⟩ := id hT
      by_cases hs1 : size < 1
      · go_wp2
        go_ret
        exact ⟨rfl, hB0⟩
      · by_cases hs2 : 1048576 < size
        · go_wp2
          go_ret
          exact ⟨rfl, hB0⟩
        · have hsz : sizeS size = true := (size_iff size).2 (by omega)
          have hszh := Lib.hid hsz
          clear hsz
          go_wp2
          go_loop [10] (fun v => Hid ((v = .int .i64 0) ∨ (v = .int .i64 1 ∧ fitsS a = true) ∨ (v = .int .i64 2 ∧ fitsS a = true ∧ fitsS b = true) ∨ (v = .int .i64 3 ∧ fitsS a = true ∧ fitsS b = true ∧ fitsS c = true))) (fun v => 3 - (intOf v).toNat)
          case atStart => exact .inl rfl
          case round =>
            rcases hrel.out with rfl | ⟨rfl, f1⟩ | ⟨rfl, f1, f2⟩ | ⟨rfl, f1, f2, f3⟩
            · clear hrel
              by_cases l1 : a.live < 0
              · go_wp2
                go_ret
                exact ⟨rfl, hB0⟩
              · by_cases l2 : 1048576 < a.live
                · go_wp2
                  go_ret
                  exact ⟨rfl, hB0⟩
                · go_wp2
                  go_round
                  case rel => exact .inr (.inl ⟨by go_num, (fits_iff a).2 (by omega)⟩)
                  case measure => simp [intOf]
            · have g1 := Lib.hid f1
              clear f1
              clear hrel
              by_cases l1 : b.live < 0
              · go_wp2
                go_ret
                exact ⟨rfl, hB0⟩
              · by_cases l2 : 1048576 < b.live
                · go_wp2
                  go_ret
                  exact ⟨rfl, hB0⟩
                · go_wp2
                  go_round
                  case rel => exact .inr (.inr (.inl ⟨by go_num, g1.out, (fits_iff b).2 (by omega)⟩))
                  case measure => simp [intOf]
            · have g1 := Lib.hid f1
              clear f1
              have g2 := Lib.hid f2
              clear f2
              clear hrel
              by_cases l1 : c.live < 0
              · go_wp2
                go_ret
                exact ⟨rfl, hB0⟩
              · by_cases l2 : 1048576 < c.live
                · go_wp2
                  go_ret
                  exact ⟨rfl, hB0⟩
                · go_wp2
                  go_round
                  case rel => exact .inr (.inr (.inr ⟨by go_num, g1.out, g2.out, (fits_iff c).2 (by omega)⟩))
                  case measure => simp [intOf]
            · have g1 := Lib.hid f1
              have g2 := Lib.hid f2
              have g3 := Lib.hid f3
              clear f1 f2 f3 hrel
              cases hbc : betS b c size now with
              | true =>
                have vbc := Lib.hid hbc
                clear hbc
                go_wp2_with fail
                refine (hbe.out a b ga gb _).mono ?_
                rintro e wx ⟨rfl, hb1⟩
                rw [vab.out]
                replace hT := hT.below hb1
                replace hB0 := below_then hB0 hB0.size hb1
                replace x1 := cell_below hb1 x1
                replace x5 := cell_below hb1 x5
                replace x9 := cell_below hb1 x9
                clear hb1 ca0 ca1 ca2 ca3 cb0 cb1 cb2 cb3 cc0 cc1 cc2 cc3
                obtain ⟨⟨ca0, ca1, ca2, ca3⟩, ⟨cb0, cb1, cb2, cb3⟩, ⟨cc0, cc1, cc2, cc3⟩⟩ := id hT
                go_wp2_with fail
                refine (hbe.out a b ga gb _).mono ?_
                rintro e wx ⟨rfl, hb1⟩
                rw [vab.out]
                replace hT := hT.below hb1
                replace hB0 := below_then hB0 hB0.size hb1
                replace x1 := cell_below hb1 x1
                replace x5 := cell_below hb1 x5
                replace x9 := cell_below hb1 x9
                clear hb1 ca0 ca1 ca2 ca3 cb0 cb1 cb2 cb3 cc0 cc1 cc2 cc3
                obtain ⟨⟨ca0, ca1, ca2, ca3⟩, ⟨cb0, cb1, cb2, cb3⟩, ⟨cc0, cc1, cc2, cc3⟩⟩ := id hT
                go_wp2_with fail
                refine (hbe.out b c gb gc _).mono ?_
                rintro e wx ⟨rfl, hb1⟩
                rw [vbc.out]
                replace hT := hT.below hb1
                replace hB0 := below_then hB0 hB0.size hb1
                replace x1 := cell_below hb1 x1
                replace x5 := cell_below hb1 x5
                replace x9 := cell_below hb1 x9
                clear hb1 ca0 ca1 ca2 ca3 cb0 cb1 cb2 cb3 cc0 cc1 cc2 cc3
                obtain ⟨⟨ca0, ca1, ca2, ca3⟩, ⟨cb0, cb1, cb2, cb3⟩, ⟨cc0, cc1, cc2, cc3⟩⟩ := id hT
                go_wp2
                go_ret
                exact ⟨rfl, hB0⟩
              | false =>
                have vac := Lib.hid (bet_neg g1.out g2.out g3.out hszh.out vab.out hbc)
                have vbc := Lib.hid hbc
                clear hbc
                go_wp2_with fail
                refine (hbe.out a b ga gb _).mono ?_
                rintro e wx ⟨rfl, hb1⟩
                rw [vab.out]
                replace hT := hT.below hb1
                replace hB0 := below_then hB0 hB0.size hb1
                replace x1 := cell_below hb1 x1
                replace x5 := cell_below hb1 x5
                replace x9 := cell_below hb1 x9
                clear hb1 ca0 ca1 ca2 ca3 cb0 cb1 cb2 cb3 cc0 cc1 cc2 cc3
                obtain ⟨⟨ca0, ca1, ca2, ca3⟩, ⟨cb0, cb1, cb2, cb3⟩, ⟨cc0, cc1, cc2, cc3⟩⟩ := id hT
                go_wp2_with fail
                refine (hbe.out a b ga gb _).mono ?_
                rintro e wx ⟨rfl, hb1⟩
                rw [vab.out]
                replace hT := hT.below hb1
                replace hB0 := below_then hB0 hB0.size hb1
                replace x1 := cell_below hb1 x1
                replace x5 := cell_below hb1 x5
                replace x9 := cell_below hb1 x9
                clear hb1 ca0 ca1 ca2 ca3 cb0 cb1 cb2 cb3 cc0 cc1 cc2 cc3
                obtain ⟨⟨ca0, ca1, ca2, ca3⟩, ⟨cb0, cb1, cb2, cb3⟩, ⟨cc0, cc1, cc2, cc3⟩⟩ := id hT
                go_wp2_with fail
                refine (hbe.out b c gb gc _).mono ?_
                rintro e wx ⟨rfl, hb1⟩
                rw [vbc.out]
                replace hT := hT.below hb1
                replace hB0 := below_then hB0 hB0.size hb1
                replace x1 := cell_below hb1 x1
                replace x5 := cell_below hb1 x5
                replace x9 := cell_below hb1 x9
                clear hb1 ca0 ca1 ca2 ca3 cb0 cb1 cb2 cb3 cc0 cc1 cc2 cc3
                obtain ⟨⟨ca0, ca1, ca2, ca3⟩, ⟨cb0, cb1, cb2, cb3⟩, ⟨cc0, cc1, cc2, cc3⟩⟩ := id hT
                go_wp2_with fail
                refine (hbe.out a c ga gc _).mono ?_
                rintro e wx ⟨rfl, hb1⟩
                rw [vac.out]
                replace hT := hT.below hb1
                replace hB0 := below_then hB0 hB0.size hb1
                replace x1 := cell_below hb1 x1
                replace x5 := cell_below hb1 x5
                replace x9 := cell_below hb1 x9
                clear hb1 ca0 ca1 ca2 ca3 cb0 cb1 cb2 cb3 cc0 cc1 cc2 cc3
                obtain ⟨⟨ca0, ca1, ca2, ca3⟩, ⟨cb0, cb1, cb2, cb3⟩, ⟨cc0, cc1, cc2, cc3⟩⟩ := id hT
                go_wp2
                go_ret
                exact ⟨rfl, hB0⟩
end Go.Proofs.Ytnjmllkcodppgaa
