/- The walk of the law VictimMonotone. -/
import Derived.Test.YtnjmllkcodppgaaU
namespace Go.Proofs.Ytnjmllkcodppgaa
open Go.RowKit
set_option linter.unusedVariables false

set_option maxRecDepth 100000 in
set_option maxHeartbeats 8000000 in
theorem lawMonotone (a b : BI) (x now : Int) (w : World) (ga : okB a) (gb : okB b) (gx : (Lit.int .u64 x).wf = true) (gn : (Lit.int .u64 now).wf = true) :
    Calls Try.prog 6 #[.agg #[.int .i64 a.used, .int .i64 a.live, .int .u64 a.age, .int .u64 a.wear], .agg #[.int .i64 b.used, .int .i64 b.live, .int .u64 b.age, .int .u64 b.wear], .agg #[.int .u64 x, .int .u64 now]] w fun e w' => e = .returned (.bool true) ∧ Below w.heap.size w w' := by
  have hB0 : Below w.heap.size w (((w.alloc (.cells #[.int .i64 a.used, .int .i64 a.live, .int .u64 a.age, .int .u64 a.wear] 24)).alloc (.cells #[.int .i64 b.used, .int .i64 b.live, .int .u64 b.age, .int .u64 b.wear] 24)).alloc (.cells #[.int .u64 x, .int .u64 now] 25)) := (((Below.refl _ _).alloc (Nat.le_refl _) _).alloc (by simp) _).alloc (by simp; omega) _
  have xa := (heap_alloc_new w (.cells #[.int .i64 a.used, .int .i64 a.live, .int .u64 a.age, .int .u64 a.wear] 24))
  have xb := (heap_alloc_new (w.alloc (.cells #[.int .i64 a.used, .int .i64 a.live, .int .u64 a.age, .int .u64 a.wear] 24)) (.cells #[.int .i64 b.used, .int .i64 b.live, .int .u64 b.age, .int .u64 b.wear] 24))
  have xc := (heap_alloc_new ((w.alloc (.cells #[.int .i64 a.used, .int .i64 a.live, .int .u64 a.age, .int .u64 a.wear] 24)).alloc (.cells #[.int .i64 b.used, .int .i64 b.live, .int .u64 b.age, .int .u64 b.wear] 24)) (.cells #[.int .u64 x, .int .u64 now] 25))
  have ca : At (((w.alloc (.cells #[.int .i64 a.used, .int .i64 a.live, .int .u64 a.age, .int .u64 a.wear] 24)).alloc (.cells #[.int .i64 b.used, .int .i64 b.live, .int .u64 b.age, .int .u64 b.wear] 24)).alloc (.cells #[.int .u64 x, .int .u64 now] 25)) ⟨w.heap.size, 0, none⟩ a := ⟨cell_alloc (cell_alloc (cell_of_row _ _ 0 _ _ _ xa) _) _, cell_alloc (cell_alloc (cell_of_row _ _ 1 _ _ _ xa) _) _, cell_alloc (cell_alloc (cell_of_row _ _ 2 _ _ _ xa) _) _, cell_alloc (cell_alloc (cell_of_row _ _ 3 _ _ _ xa) _) _⟩
  have cb : At (((w.alloc (.cells #[.int .i64 a.used, .int .i64 a.live, .int .u64 a.age, .int .u64 a.wear] 24)).alloc (.cells #[.int .i64 b.used, .int .i64 b.live, .int .u64 b.age, .int .u64 b.wear] 24)).alloc (.cells #[.int .u64 x, .int .u64 now] 25)) ⟨w.heap.size + 1, 0, none⟩ b := by
    have e : w.heap.size + 1 = (w.alloc (.cells #[.int .i64 a.used, .int .i64 a.live, .int .u64 a.age, .int .u64 a.wear] 24)).heap.size := by simp
    rw [e]
    exact ⟨cell_alloc (cell_of_row _ _ 0 _ _ _ xb) _, cell_alloc (cell_of_row _ _ 1 _ _ _ xb) _, cell_alloc (cell_of_row _ _ 2 _ _ _ xb) _, cell_alloc (cell_of_row _ _ 3 _ _ _ xb) _⟩
  have cc : (((w.alloc (.cells #[.int .i64 a.used, .int .i64 a.live, .int .u64 a.age, .int .u64 a.wear] 24)).alloc (.cells #[.int .i64 b.used, .int .i64 b.live, .int .u64 b.age, .int .u64 b.wear] 24)).alloc (.cells #[.int .u64 x, .int .u64 now] 25)).cell? ⟨w.heap.size + 1 + 1, 0, none⟩ = some (.int .u64 x) ∧ (((w.alloc (.cells #[.int .i64 a.used, .int .i64 a.live, .int .u64 a.age, .int .u64 a.wear] 24)).alloc (.cells #[.int .i64 b.used, .int .i64 b.live, .int .u64 b.age, .int .u64 b.wear] 24)).alloc (.cells #[.int .u64 x, .int .u64 now] 25)).cell? ⟨w.heap.size + 1 + 1, 1, none⟩ = some (.int .u64 now) := by
    have e : w.heap.size + 1 + 1 = ((w.alloc (.cells #[.int .i64 a.used, .int .i64 a.live, .int .u64 a.age, .int .u64 a.wear] 24)).alloc (.cells #[.int .i64 b.used, .int .i64 b.live, .int .u64 b.age, .int .u64 b.wear] 24)).heap.size := by simp
    rw [e]
    exact ⟨cell_of_row _ _ 0 _ _ _ xc, cell_of_row _ _ 1 _ _ _ xc⟩
  clear xa xb xc
  obtain ⟨ca0, ca1, ca2, ca3⟩ := id ca
  obtain ⟨cb0, cb1, cb2, cb3⟩ := id cb
  obtain ⟨cc0, cc1⟩ := id cc
  have hx := wfu64 gx
  unfold u64 at hx
  have x1 : 0 ≤ x % 1000 ∧ x % 1000 < 1000 := ⟨by omega, by omega⟩
  go_enter Try.func6, Try.ntmps6
  go_wp2_with fail
  have hz : (((w.alloc (.cells #[.int .i64 a.used, .int .i64 a.live, .int .u64 a.age, .int .u64 a.wear] 24)).alloc (.cells #[.int .i64 b.used, .int .i64 b.live, .int .u64 b.age, .int .u64 b.wear] 24)).alloc (.cells #[.int .u64 x, .int .u64 now] 25)).heap.size = w.heap.size + 1 + 1 + 1 := by simp
  generalize ((w.alloc (.cells #[.int .i64 a.used, .int .i64 a.live, .int .u64 a.age, .int .u64 a.wear] 24)).alloc (.cells #[.int .i64 b.used, .int .i64 b.live, .int .u64 b.age, .int .u64 b.wear] 24)).alloc (.cells #[.int .u64 x, .int .u64 now] 25) = W at *
  clear ca cb cc
  go_quiet (fail)
  go_wp2_with fail
  refine (awake _).mono ?_
  rintro e w1 ⟨rfl, hb1⟩
  rw [show (W.drewN nq).heap.size = W.heap.size from rfl] at hb1
  have hsz : 1 ≤ x % 1000 + 1 ∧ x % 1000 + 1 ≤ 1000 := by omega
  generalize x % 1000 + 1 = size at *
  have hb1' : Below W.heap.size W w1 := by
    have := below_then (below_drewN (Below.refl W.heap.size W) nq) (Nat.le_refl _) hb1
    exact this
  replace ca0 := cell_below hb1' ca0
  replace ca1 := cell_below hb1' ca1
  replace ca2 := cell_below hb1' ca2
  replace ca3 := cell_below hb1' ca3
  replace cb0 := cell_below hb1' cb0
  replace cb1 := cell_below hb1' cb1
  replace cb2 := cell_below hb1' cb2
  replace cb3 := cell_below hb1' cb3
  replace cc0 := cell_below hb1' cc0
  replace cc1 := cell_below hb1' cc1
  replace hB0 := below_then hB0 hB0.size hb1'
  have hz1 : w.heap.size + 1 + 1 + 1 ≤ w1.heap.size := by have := hb1'.size; omega
  clear hb1 hb1' hz cc0 cc1 x1 hx gx
  by_cases c0 : a.live < 0
  · go_wp2_with fail
    refine (awake _).mono ?_
    rintro e w2 ⟨rfl, hb2⟩
    go_wp2
    go_ret
    exact ⟨rfl, below_then hB0 hB0.size hb2⟩
  by_cases c1 : b.live < 0
  · go_wp2_with fail
    refine (awake _).mono ?_
    rintro e w2 ⟨rfl, hb2⟩
    go_wp2
    go_ret
    exact ⟨rfl, below_then hB0 hB0.size hb2⟩
  by_cases c2 : 1048576 < a.live
  · go_wp2_with fail
    refine (awake _).mono ?_
    rintro e w2 ⟨rfl, hb2⟩
    go_wp2
    go_ret
    exact ⟨rfl, below_then hB0 hB0.size hb2⟩
  by_cases c3 : 1048576 < b.live
  · go_wp2_with fail
    refine (awake _).mono ?_
    rintro e w2 ⟨rfl, hb2⟩
    go_wp2
    go_ret
    exact ⟨rfl, below_then hB0 hB0.size hb2⟩
  have fa : fitsS a = true := (fits_iff a).2 (by omega)
  have fb : fitsS b = true := (fits_iff b).2 (by omega)
  have hss : sizeS size = true := (size_iff size).2 (by omega)
  have hl := Lib.hid (mono_live a b size now fa fb hss)
  have hl2 := Lib.hid (mono_age a b size now fa hss)
  have hBh := Lib.hid hB0
  have hzh := Lib.hid hz1
  have mkS : ∀ W' : World, Below w1.heap.size w1 W' → (fun w' : World => (∀ j, w'.cell? ⟨w.heap.size, j, none⟩ = w1.cell? ⟨w.heap.size, j, none⟩) ∧ (∀ j, w'.cell? ⟨w.heap.size + 1, j, none⟩ = w1.cell? ⟨w.heap.size + 1, j, none⟩) ∧ Below w1.heap.size w1 w') W' := fun W' hb => ⟨fun j => hb.cell (by show w.heap.size < _; omega), fun j => hb.cell (by show w.heap.size + 1 < _; omega), hb⟩
  replace mkS := Lib.hid mkS
  go_upto_region 4 with fail
  go_cut [9, 10] (fun s7 s8 wx => ∃ pa pb : Nat, s7 = .pointer (some ⟨pa, 0, none⟩) ∧ s8 = .pointer (some ⟨pb, 0, none⟩) ∧ pa ≠ pb ∧ w1.heap.size ≤ pa ∧ w1.heap.size ≤ pb ∧ pa < wx.heap.size ∧ pb < wx.heap.size ∧ At wx ⟨pa, 0, none⟩ a ∧ At wx ⟨pb, 0, none⟩ b ∧ (∀ j, wx.frozen? ⟨pa, j, none⟩ = false) ∧ (∀ j, wx.frozen? ⟨pb, j, none⟩ = false) ∧ Below w1.heap.size w1 wx)
  case first =>
    go_region_held3 (fun w' : World => (∀ j, w'.cell? ⟨w.heap.size, j, none⟩ = w1.cell? ⟨w.heap.size, j, none⟩) ∧ (∀ j, w'.cell? ⟨w.heap.size + 1, j, none⟩ = w1.cell? ⟨w.heap.size + 1, j, none⟩) ∧ Below w1.heap.size w1 w') ((refine mkS.out _ ?_; (repeat (first | exact Below.refl _ _ | refine Below.drew ?_ | refine Below.alloc ?_ (by simp <;> omega) _ | refine Below.setCell ?_ (by simp <;> omega) _))))
      (fail)
    all_goals (rename_i hHd; clear hHd)
    all_goals go_wp2_with fail
    all_goals go_meet
    all_goals refine ⟨_, _, rfl, rfl, ?_, ?_, ?_, ?_, ?_, ⟨?_, ?_, ?_, ?_⟩, ⟨?_, ?_, ?_, ?_⟩, ?_, ?_, ?_⟩
    all_goals (first | (intro j; go_simp; done) | (go_simp; done) | (simp; done) | (simp; omega) | (repeat (first | exact Below.refl _ _ | refine Below.drew ?_ | refine Below.alloc ?_ (by simp <;> omega) _ | refine Below.setCell ?_ (by simp <;> omega) _)))
  case rest =>
    clear mkS hBh hzh
    obtain ⟨pa, pb, rfl, rfl, hne, hpa, hpb, hpa2, hpb2, ⟨da0, da1, da2, da3⟩, ⟨db0, db1, db2, db3⟩, hfa, hfb, hB1⟩ := hcut
    replace ca0 := cell_below hB1 ca0
    replace ca1 := cell_below hB1 ca1
    replace ca2 := cell_below hB1 ca2
    replace ca3 := cell_below hB1 ca3
    replace cb0 := cell_below hB1 cb0
    replace cb1 := cell_below hB1 cb1
    replace cb2 := cell_below hB1 cb2
    replace cb3 := cell_below hB1 cb3
    replace hB0 := below_then hB0 hB0.size hB1
    have q1 : pa ≠ w.heap.size := by omega
    have q2 : pb ≠ w.heap.size := by omega
    have q3 : pa ≠ w.heap.size + 1 := by omega
    have q4 : pb ≠ w.heap.size + 1 := by omega
    have hpb0 : w.heap.size ≤ pb := by omega
    have hpa0 : w.heap.size ≤ pa := by omega
    clear hB1
    go_wp2_with fail
    have hB1 : Below w.heap.size w (wc.setCell ⟨pb, 2, none⟩ (.int .u64 a.age)) := hB0.setCell hpb0 _
    have hS : St (wc.setCell ⟨pb, 2, none⟩ (.int .u64 a.age)) w.heap.size pa pb a b a ⟨b.used, b.live, a.age, b.wear⟩ := by
      refine ⟨⟨?_, ?_, ?_, ?_⟩, ⟨?_, ?_, ?_, ?_⟩, ⟨?_, ?_, ?_, ?_⟩, ⟨?_, ?_, ?_, ?_⟩, ?_, ?_, ?_, ?_⟩
      all_goals (first | (intro j; go_simp; done) | (go_simp; done))
    generalize wc.setCell ⟨pb, 2, none⟩ (.int .u64 a.age) = W3 at *
    clear hB0 ca0 ca1 ca2 ca3 cb0 cb1 cb2 cb3 da0 da1 da2 da3 db0 db1 db2 db3 hfa hfb hpa2 hpb2
    obtain ⟨-, -, ⟨da0, da1, da2, da3⟩, ⟨db0, db1, db2, db3⟩, -, -, -, -⟩ := id hS
    have hv := Lib.hid (fun W => vBetter a ⟨b.used, b.live, a.age, b.wear⟩ size now W (wfu64 ga.2.2.1) (wfu64 ga.2.2.1) (wfu64 gn))
    rw [hl.out] at hv
    have hk : ∀ W W' : World, (fun w' : World => w'.cell? ⟨pa, 0, none⟩ = some (.int .i64 a.used) ∧ w'.cell? ⟨pa, 1, none⟩ = some (.int .i64 a.live) ∧ w'.cell? ⟨pa, 2, none⟩ = some (.int .u64 a.age) ∧ w'.cell? ⟨pa, 3, none⟩ = some (.int .u64 a.wear) ∧ w'.cell? ⟨pb, 0, none⟩ = some (.int .i64 b.used) ∧ w'.cell? ⟨pb, 1, none⟩ = some (.int .i64 b.live) ∧ w'.cell? ⟨pb, 2, none⟩ = some (.int .u64 a.age) ∧ w'.cell? ⟨pb, 3, none⟩ = some (.int .u64 b.wear) ∧ Hid (Below W3.heap.size W3 w')) W → Below W.heap.size W W' → (fun w' : World => w'.cell? ⟨pa, 0, none⟩ = some (.int .i64 a.used) ∧ w'.cell? ⟨pa, 1, none⟩ = some (.int .i64 a.live) ∧ w'.cell? ⟨pa, 2, none⟩ = some (.int .u64 a.age) ∧ w'.cell? ⟨pa, 3, none⟩ = some (.int .u64 a.wear) ∧ w'.cell? ⟨pb, 0, none⟩ = some (.int .i64 b.used) ∧ w'.cell? ⟨pb, 1, none⟩ = some (.int .i64 b.live) ∧ w'.cell? ⟨pb, 2, none⟩ = some (.int .u64 a.age) ∧ w'.cell? ⟨pb, 3, none⟩ = some (.int .u64 b.wear) ∧ Hid (Below W3.heap.size W3 w')) W' := by
      rintro W W' ⟨k0, k1, k2, k3, k4, k5, k6, k7, k9⟩ hb
      exact ⟨cell_below hb k0, cell_below hb k1, cell_below hb k2, cell_below hb k3, cell_below hb k4, cell_below hb k5, cell_below hb k6, cell_below hb k7, below_then k9.out k9.out.size hb⟩
    replace hk := Lib.hid hk
    have hBh := Lib.hid (Below.refl W3.heap.size W3)
    have hSh := Lib.hid hS
    clear hS
    go_cut [56] (fun v wx => v = .bool false ∧ Below W3.heap.size W3 wx)
    case first =>
      go_region_held3 (fun w' : World => w'.cell? ⟨pa, 0, none⟩ = some (.int .i64 a.used) ∧ w'.cell? ⟨pa, 1, none⟩ = some (.int .i64 a.live) ∧ w'.cell? ⟨pa, 2, none⟩ = some (.int .u64 a.age) ∧ w'.cell? ⟨pa, 3, none⟩ = some (.int .u64 a.wear) ∧ w'.cell? ⟨pb, 0, none⟩ = some (.int .i64 b.used) ∧ w'.cell? ⟨pb, 1, none⟩ = some (.int .i64 b.live) ∧ w'.cell? ⟨pb, 2, none⟩ = some (.int .u64 a.age) ∧ w'.cell? ⟨pb, 3, none⟩ = some (.int .u64 b.wear) ∧ Hid (Below W3.heap.size W3 w')) (first | exact ⟨da0, da1, da2, da3, db0, db1, db2, db3, below_drewN hBh.out 1⟩ | go_keep)
        (first | (go_at_call 10; refine (callK (S := (fun w' : World => w'.cell? ⟨pa, 0, none⟩ = some (.int .i64 a.used) ∧ w'.cell? ⟨pa, 1, none⟩ = some (.int .i64 a.live) ∧ w'.cell? ⟨pa, 2, none⟩ = some (.int .u64 a.age) ∧ w'.cell? ⟨pa, 3, none⟩ = some (.int .u64 a.wear) ∧ w'.cell? ⟨pb, 0, none⟩ = some (.int .i64 b.used) ∧ w'.cell? ⟨pb, 1, none⟩ = some (.int .i64 b.live) ∧ w'.cell? ⟨pb, 2, none⟩ = some (.int .u64 a.age) ∧ w'.cell? ⟨pb, 3, none⟩ = some (.int .u64 b.wear) ∧ Hid (Below W3.heap.size W3 w'))) hk.out (fun W _ => hv.out W) (by go_keep)).mono ?_; rintro e w' ⟨rfl, hq0, hq1, hq2, hq3, hq4, hq5, hq6, hq7, hq8⟩))
      all_goals go_wp2_with fail
      all_goals go_meet
      all_goals exact ⟨rfl, hq8.out⟩
    case rest =>
      clear hk hv hBh da0 da1 da2 da3 db0 db1 db2 db3
      obtain ⟨rfl, hb1⟩ := hcut
      have hS := hSh.out.below hb1
      replace hB1 := below_then hB1 hB1.size hb1
      clear hSh hb1
      have hSh := Lib.hid hS
      have hH := Lib.hid (⟨fa, hsz, hpb0, hpa0⟩ : fitsS a = true ∧ (1 ≤ size ∧ size ≤ 1000) ∧ w.heap.size ≤ pb ∧ w.heap.size ≤ pa)
      clear hl fb hss c0 c1 c2 c3 fa hsz
      clear ‹((0 ≤ a.live ∧ 0 ≤ b.live) ∧ a.live ≤ 1048576) ∧ b.live ≤ 1048576›
      go_upto_region 8 with fail
      obtain ⟨ta, tb, tc, td, hfa, hfb, hpa2, hpb2⟩ := id hS
      obtain ⟨ca0, ca1, ca2, ca3⟩ := ta.cells
      obtain ⟨cb0, cb1, cb2, cb3⟩ := tb.cells
      obtain ⟨da0, da1, da2, da3⟩ := tc.cells
      obtain ⟨db0, db1, db2, db3⟩ := td.cells
      clear ta tb tc td
      clear hS
      have mkS : ∀ W' : World, Below w1.heap.size wc W' → (fun w' : World => (∀ j, w'.cell? ⟨w.heap.size, j, none⟩ = wc.cell? ⟨w.heap.size, j, none⟩) ∧ (∀ j, w'.cell? ⟨w.heap.size + 1, j, none⟩ = wc.cell? ⟨w.heap.size + 1, j, none⟩) ∧ Below w1.heap.size wc w') W' := fun W' hb => ⟨fun j => hb.cell (by show w.heap.size < _; omega), fun j => hb.cell (by show w.heap.size + 1 < _; omega), hb⟩
      replace mkS := Lib.hid mkS
      have hBh := Lib.hid hB1
      clear hB1
      go_cut [] (fun wx => St wx w.heap.size pa pb a b a b ∧ Below w.heap.size w wx)
      case first =>
        clear hz1 hpa hpb hpb0 hpa0 mkS
        go_region
        go_wp2_with fail
        go_meet
        refine ⟨hSh.out.restore hne q1 q2 q3 q4, ?_⟩
        obtain ⟨-, -, hpb0, hpa0⟩ := hH.out
        exact ((((((((hBh.out.setCell hpa0 _).setCell hpa0 _).setCell hpa0 _).setCell hpa0 _).setCell hpb0 _).setCell hpb0 _).setCell hpb0 _).setCell hpb0 _).drew
      case rest =>
        clear mkS hBh hSh ca0 ca1 ca2 ca3 cb0 cb1 cb2 cb3 da0 da1 da2 da3 db0 db1 db2 db3 hfa hfb hpa2 hpb2
        obtain ⟨hS, hB0⟩ := hcut
        obtain ⟨ta, tb, tc, td, hfa, hfb, hpa2, hpb2⟩ := id hS
        obtain ⟨ca0, ca1, ca2, ca3⟩ := ta.cells
        obtain ⟨cb0, cb1, cb2, cb3⟩ := tb.cells
        obtain ⟨da0, da1, da2, da3⟩ := tc.cells
        obtain ⟨db0, db1, db2, db3⟩ := td.cells
        clear ta tb tc td hz1 hpa hpb hpb0 hpa0
        replace hS : St (wc.setCell ⟨pb, 1, none⟩ (.int .i64 a.live)) w.heap.size pa pb a b a ⟨b.used, a.live, b.age, b.wear⟩ := hS.live hne q2 q4
        have hSh := Lib.hid hS
        clear hS
        go_upto_region 10 with fail
        have hS := hSh.out
        clear hSh
        obtain ⟨fa, hsz, hpb0, -⟩ := hH.out
        have hB1 : Below w.heap.size w (wc.setCell ⟨pb, 1, none⟩ (.int .i64 a.live)) := hB0.setCell hpb0 _
        generalize wc.setCell ⟨pb, 1, none⟩ (.int .i64 a.live) = W4 at *
        clear hB0 ca0 ca1 ca2 ca3 cb0 cb1 cb2 cb3 da0 da1 da2 da3 db0 db1 db2 db3 hfa hfb hpa2 hpb2 hH hne q1 q2 q3 q4 hpb0
        obtain ⟨-, -, tc, td, -, -, -, -⟩ := id hS
        obtain ⟨da0, da1, da2, da3⟩ := tc.cells
        obtain ⟨db0, db1, db2, db3⟩ := td.cells
        clear tc td
        have na : 0 ≤ a.age ∧ a.age ≤ 18446744073709551615 := wfu64 ga.2.2.1
        have nb : 0 ≤ b.age ∧ b.age ≤ 18446744073709551615 := wfu64 gb.2.2.1
        have nn : 0 ≤ now ∧ now ≤ 18446744073709551615 := wfu64 gn
        by_cases e0 : size ≤ a.live
        · go_wp2
          go_ret
          exact ⟨rfl, hB1⟩
        by_cases e1 : now < a.age
        · go_wp2
          go_ret
          exact ⟨rfl, hB1⟩
        by_cases e2 : now < b.age
        · go_wp2
          go_ret
          exact ⟨rfl, hB1⟩
        by_cases e3 : 1099511627776 < now - a.age
        · go_wp2
          go_ret
          exact ⟨rfl, hB1⟩
        by_cases e4 : 1099511627776 < now - b.age
        · go_wp2
          go_ret
          exact ⟨rfl, hB1⟩
        have hl3 := Lib.hid (hl2.out (by omega) (by omega) (by omega) (by omega) (by omega))
        go_upto_region 12 with fail
        clear na nb nn da0 da1 da2 da3 db0 db1 db2 db3
        obtain ⟨-, -, ⟨da0, da1, da2, da3⟩, ⟨db0, db1, db2, db3⟩, -, -, -, -⟩ := id hS
        have hv := Lib.hid (fun W => vBetter a ⟨b.used, a.live, b.age, b.wear⟩ size now W (wfu64 ga.2.2.1) (wfu64 gb.2.2.1) (wfu64 gn))
        rw [hl3.out] at hv
        have hk : ∀ W W' : World, (fun w' : World => w'.cell? ⟨pa, 0, none⟩ = some (.int .i64 a.used) ∧ w'.cell? ⟨pa, 1, none⟩ = some (.int .i64 a.live) ∧ w'.cell? ⟨pa, 2, none⟩ = some (.int .u64 a.age) ∧ w'.cell? ⟨pa, 3, none⟩ = some (.int .u64 a.wear) ∧ w'.cell? ⟨pb, 0, none⟩ = some (.int .i64 b.used) ∧ w'.cell? ⟨pb, 1, none⟩ = some (.int .i64 a.live) ∧ w'.cell? ⟨pb, 2, none⟩ = some (.int .u64 b.age) ∧ w'.cell? ⟨pb, 3, none⟩ = some (.int .u64 b.wear) ∧ Hid (Below W4.heap.size W4 w')) W → Below W.heap.size W W' → (fun w' : World => w'.cell? ⟨pa, 0, none⟩ = some (.int .i64 a.used) ∧ w'.cell? ⟨pa, 1, none⟩ = some (.int .i64 a.live) ∧ w'.cell? ⟨pa, 2, none⟩ = some (.int .u64 a.age) ∧ w'.cell? ⟨pa, 3, none⟩ = some (.int .u64 a.wear) ∧ w'.cell? ⟨pb, 0, none⟩ = some (.int .i64 b.used) ∧ w'.cell? ⟨pb, 1, none⟩ = some (.int .i64 a.live) ∧ w'.cell? ⟨pb, 2, none⟩ = some (.int .u64 b.age) ∧ w'.cell? ⟨pb, 3, none⟩ = some (.int .u64 b.wear) ∧ Hid (Below W4.heap.size W4 w')) W' := by
          rintro W W' ⟨k0, k1, k2, k3, k4, k5, k6, k7, k9⟩ hb
          exact ⟨cell_below hb k0, cell_below hb k1, cell_below hb k2, cell_below hb k3, cell_below hb k4, cell_below hb k5, cell_below hb k6, cell_below hb k7, below_then k9.out k9.out.size hb⟩
        replace hk := Lib.hid hk
        have hBh := Lib.hid (Below.refl W4.heap.size W4)
        have hSh := Lib.hid hS
        clear hS
        go_cut [6] (fun v wx => v = .bool true ∧ Below W4.heap.size W4 wx)
        case first =>
          go_region_held3 (fun w' : World => w'.cell? ⟨pa, 0, none⟩ = some (.int .i64 a.used) ∧ w'.cell? ⟨pa, 1, none⟩ = some (.int .i64 a.live) ∧ w'.cell? ⟨pa, 2, none⟩ = some (.int .u64 a.age) ∧ w'.cell? ⟨pa, 3, none⟩ = some (.int .u64 a.wear) ∧ w'.cell? ⟨pb, 0, none⟩ = some (.int .i64 b.used) ∧ w'.cell? ⟨pb, 1, none⟩ = some (.int .i64 a.live) ∧ w'.cell? ⟨pb, 2, none⟩ = some (.int .u64 b.age) ∧ w'.cell? ⟨pb, 3, none⟩ = some (.int .u64 b.wear) ∧ Hid (Below W4.heap.size W4 w')) (first | exact ⟨da0, da1, da2, da3, db0, db1, db2, db3, below_drewN hBh.out 1⟩ | go_keep)
            (first | (go_at_call 10; refine (callK (S := (fun w' : World => w'.cell? ⟨pa, 0, none⟩ = some (.int .i64 a.used) ∧ w'.cell? ⟨pa, 1, none⟩ = some (.int .i64 a.live) ∧ w'.cell? ⟨pa, 2, none⟩ = some (.int .u64 a.age) ∧ w'.cell? ⟨pa, 3, none⟩ = some (.int .u64 a.wear) ∧ w'.cell? ⟨pb, 0, none⟩ = some (.int .i64 b.used) ∧ w'.cell? ⟨pb, 1, none⟩ = some (.int .i64 a.live) ∧ w'.cell? ⟨pb, 2, none⟩ = some (.int .u64 b.age) ∧ w'.cell? ⟨pb, 3, none⟩ = some (.int .u64 b.wear) ∧ Hid (Below W4.heap.size W4 w'))) hk.out (fun W _ => hv.out W) (by go_keep)).mono ?_; rintro e w' ⟨rfl, hq0, hq1, hq2, hq3, hq4, hq5, hq6, hq7, hq8⟩))
          all_goals go_wp2_with fail
          all_goals go_meet
          all_goals exact ⟨rfl, hq8.out⟩
        case rest =>
          clear hk hv hBh da0 da1 da2 da3 db0 db1 db2 db3
          obtain ⟨rfl, hb1⟩ := hcut
          go_wp2
          go_ret
          exact ⟨rfl, below_then hB1 hB1.size hb1⟩

end Go.Proofs.Ytnjmllkcodppgaa
