/- The walk of the law StepsCalls. -/
import Derived.Test.YtkokijmgikdnfaaZf
import Derived.Test.YtkokijmgikdnfaaR
namespace Go.Proofs.Ytkokijmgikdnfaa
open Go.RowKit
set_option linter.unusedVariables false
theorem Cals.below {w w' : World} {A : Option Addr} {l : List Cal} (h : Cals w A l) (hb : Below w.heap.size w w') : Cals w' A l := fun i hi => by
  obtain ⟨ad, e, c0, c1, c2⟩ := h i hi
  exact ⟨ad, e, cell_below hb c0, cell_below hb c1, cell_below hb c2⟩
theorem add_field (ad : Addr) (m j : Nat) (hj : 0 < j) : ad.add (m + j) = ⟨(ad.add m).block, (ad.add m).off + j, none⟩ := by
  rw [← add_of_add]
  generalize ad.add m = b
  unfold Addr.add
  rw [if_neg (by omega)]
/-- both schedulers hold the machines l -/
structure Two (w : World) (B R T : Nat) (l : List Ent) (last : Int) : Prop where
  p : ∃ v, Sch w B B v l last
  r : ∃ v, RS w R R v l last
  inv : Inv T l last
  lo1 : B ≤ w.heap.size
  lo2 : R ≤ w.heap.size
theorem Two.below {w w' : World} {B R T : Nat} {l : List Ent} {last : Int} (h : Two w B R T l last) (hb : Below w.heap.size w w') : Two w' B R T l last := by
  obtain ⟨⟨v, h1⟩, ⟨v2, h2⟩, h3, h4, h5⟩ := h
  exact ⟨⟨v, h1.below hb⟩, ⟨v2, h2.below hb⟩, h3, Nat.le_trans h4 hb.size, Nat.le_trans h5 hb.size⟩
theorem Two.more {w : World} {B R T : Nat} {l : List Ent} {last : Int} (h : Two w B R T l last) : Two w B R (T + 1) l last := ⟨h.p, h.r, h.inv.more, h.lo1, h.lo2⟩
theorem Two.credit {w : World} {B R T : Nat} {l : List Ent} {last : Int} (h : Two w B R T l last) (id : Int) : Calls Try.prog 16 #[.pointer (some ⟨B, 0, none⟩), .int .i64 id] w fun e w' => e = .returned (.int .i64 (creditOf l id)) ∧ Below w.heap.size w w' := by
  obtain ⟨v, h1⟩ := h.p
  exact Go.Proofs.Ytkokijmgikdnfaa.credit id (Nat.le_trans h.inv.len (by decide)) h1
theorem Two.rcredit {w : World} {B R T : Nat} {l : List Ent} {last : Int} (h : Two w B R T l last) (id : Int) : Calls Try.prog 17 #[.pointer (some ⟨R, 0, none⟩), .int .i64 id] w fun e w' => e = .returned (.int .i64 (creditOf l id)) ∧ Below w.heap.size w w' := by
  obtain ⟨v, h1⟩ := h.r
  exact rCredit id (Nat.le_trans h.inv.len (by decide)) h1
theorem Two.idsP {w : World} {B R T : Nat} {l : List Ent} {last : Int} (h : Two w B R T l last) : Calls Try.prog 14 #[.pointer (some ⟨B, 0, none⟩)] w fun e w' => ∃ r, e = .returned r ∧ Ints w' w.heap.size r (l.map (·.id)) ∧ Below w.heap.size w w' := by
  obtain ⟨v, h1⟩ := h.p
  exact ids (Nat.le_trans h.inv.len (by decide)) h1
theorem Two.idsR {w : World} {B R T : Nat} {l : List Ent} {last : Int} (h : Two w B R T l last) : Calls Try.prog 15 #[.pointer (some ⟨R, 0, none⟩)] w fun e w' => ∃ r, e = .returned r ∧ Ints w' w.heap.size r (l.map (·.id)) ∧ Below w.heap.size w w' := by
  obtain ⟨v, h1⟩ := h.r
  exact rIds (Nat.le_trans h.inv.len (by decide)) h1
theorem newAt2 (w : World) : Calls Try.prog 10 #[] w fun e w' => ∃ S, e = .returned (.pointer (some ⟨S, 0, none⟩)) ∧ Sch w' S S (.slice none 0 0) [] 0 ∧ w.heap.size ≤ S ∧ Below w.heap.size w w' :=
  (new_ w).mono fun e w' ⟨h1, h2, h3⟩ => ⟨_, h1, h2, Nat.le_refl _, h3⟩
/-- behind the program's call, before the reference's -/
structure Half (w : World) (B R T : Nat) (l : List Ent) (last k n m : Int) (o : Out) : Prop where
  p : ∃ v, Sch w B B v o.l o.last
  r : ∃ v, RS w R R v l last
  rdo : RDo R R l last k n m o
  inv : Inv (T + 1) o.l o.last
  lo1 : B ≤ w.heap.size
  lo2 : R ≤ w.heap.size
theorem Two.half {w : World} {B R T : Nat} {l : List Ent} {last : Int} (h : Two w B R T l last) (k n m : Int) (hk0 : 0 ≤ k) (hk3 : k ≤ 3) (hT : T ≤ 1000) :
    Calls Try.prog 11 #[.pointer (some ⟨B, 0, none⟩), act k n m] w fun e w' => ∃ o : Out, e = .returned (ans o.x o.d o.e) ∧ Half w' B R T l last k n m o ∧ PKeep B w w' := by
  obtain ⟨⟨v, h1⟩, ⟨v2, h2⟩, h3, h4, h5⟩ := h
  refine (both R R k n m hk0 hk3 h3 hT h1 h4).mono ?_
  rintro e w' ⟨o, g1, g2, rfl, g4, g5⟩
  exact ⟨o, rfl, ⟨g4, ⟨v2, h2.pkeep g5⟩, g1, g2, Nat.le_trans h4 g5.size, Nat.le_trans h5 g5.size⟩, g5⟩
theorem Half.full {w : World} {B R T : Nat} {l : List Ent} {last k n m : Int} {o : Out} (h : Half w B R T l last k n m o) :
    Calls Try.prog 12 #[.pointer (some ⟨R, 0, none⟩), act k n m] w fun e w' => e = .returned (ans o.x o.d o.e) ∧ Two w' B R (T + 1) o.l o.last ∧ RKeep R w w' := by
  obtain ⟨⟨v, h1⟩, ⟨v2, h2⟩, h3, h4, h5, h6⟩ := h
  refine (h3 w v2 h2 h6).mono ?_
  rintro e w' ⟨rfl, g1, g2⟩
  exact ⟨rfl, ⟨⟨v, h1.rkeep g2⟩, g1, h4, Nat.le_trans h5 g2.size, Nat.le_trans h6 g2.size⟩, g2⟩

set_option maxRecDepth 100000 in
set_option maxHeartbeats 4000000 in
theorem lawCalls (A0 : Option Addr) (c0 : Nat) (l0 : List Cal) (w : World) (hl0 : l0.length ≤ 9223372036854775807) (h0 : Cals w A0 l0) :
    Calls Try.prog 3 #[.slice A0 l0.length c0] w fun e w' => e = .returned (.bool true) ∧ Below w.heap.size w w' := by
  by_cases hc1 : l0.length ≤ 200
  · have q1 : decide ((l0.length : Int) > 200) = false := decide_eq_false (by omega)
    go_enter Try.func3, Try.ntmps3
    go_wp2_with fail
    refine (awake w).mono ?_
    rintro e w1 ⟨rfl, hb1⟩
    have hz1 := hb1.size
    replace hb1 := Lib.hid hb1
    go_wp2_with fail
    refine (newAt2 w1).mono ?_
    rintro e w2 ⟨B, rfl, hs2, hBlo, hb2⟩
    have hBlt := heap_lt hs2.head
    have hB3 : Below w2.heap.size w2 (w2.alloc (.cells #[.slice none 0 0, .int .i64 0] 29)) := (Below.refl _ _).alloc (Nat.le_refl _) _
    have hR : RS (w2.alloc (.cells #[.slice none 0 0, .int .i64 0] 29)) w2.heap.size w2.heap.size (.slice none 0 0) [] 0 := ⟨Nat.le_refl _, heap_alloc_new w2 _, ⟨rfl, .inl ⟨rfl, rfl⟩⟩⟩
    have hT : Hid (Two (w2.alloc (.cells #[.slice none 0 0, .int .i64 0] 29)) B w2.heap.size 0 [] 0) := ⟨⟨_, hs2.below hB3⟩, ⟨_, hR⟩, ⟨Int.le_refl _, Int.le_refl _, by simp, by simp, by simp⟩, by simp; omega, by simp⟩
    have hbb := Lib.hid ((hb1.out.trans (hb2.mono hz1)).trans (hB3.mono (Nat.le_trans hz1 hb2.size)))
    have hRlo : w.heap.size ≤ w2.heap.size := Nat.le_trans hz1 hb2.size
    have hBw : w.heap.size ≤ B := Nat.le_trans hz1 hBlo
    clear hs2 hb2 hB3 hR hb1 hBlo hBlt
    go_wp2
    generalize w2.heap.size = R at *
    go_loopw [19] (fun c w' => ∃ k : Nat, k ≤ l0.length ∧ c = .int .i64 k ∧ (∃ l last, Two w' B R k l last) ∧ Below w.heap.size w w') (fun c _ => l0.length - (intOf c).toNat)
    case atStart => exact ⟨0, Nat.zero_le _, rfl, ⟨_, _, hT.out⟩, hbb.out⟩
    case round =>
      obtain ⟨k, hk, rfl, ⟨l, last, hTw⟩, hB⟩ := hrel
      clear hT hbb
      by_cases hlt : k < l0.length
      · obtain ⟨ad, rfl, x0, x1, x2⟩ := h0.below hB k hlt
        rw [add_field _ _ 1 (by omega)] at x1
        rw [add_field _ _ 2 (by omega)] at x2
        have hlow : w.heap.size ≤ wr.heap.size := hB.size
        have hBn : Below wr.heap.size wr (wr.alloc (.cells #[.int .i64 l0[k].kind, .int .i64 l0[k].n, .int .i64 l0[k].more] 31)) := (Below.refl _ _).alloc (Nat.le_refl _) _
        have hTn := Lib.hid (hTw.below hBn)
        have hBB := Lib.hid (hB.trans (hBn.mono hlow))
        have hac : Hid (ActAt (wr.alloc (.cells #[.int .i64 l0[k].kind, .int .i64 l0[k].n, .int .i64 l0[k].more] 31)) wr.heap.size l0[k].kind l0[k].n l0[k].more) := heap_alloc_new wr _
        have hlow2 : wr.heap.size ≤ (wr.alloc (.cells #[.int .i64 l0[k].kind, .int .i64 l0[k].n, .int .i64 l0[k].more] 31)).heap.size := by simp
        replace hlow2 := Lib.hid hlow2
        clear hTw hB hBn
        generalize l0[k].kind = kd at *
        generalize l0[k].n = n at *
        generalize l0[k].more = m at *
        by_cases hkd : 0 ≤ kd ∧ kd ≤ 3
        · obtain ⟨hk0, hk3⟩ := hkd
          have u1 : decide (kd < 0) = false := decide_eq_false (by omega)
          have u2 : decide (kd > 3) = false := decide_eq_false (by omega)
          go_upto_region 10 with fail
          clear x0 x1 x2
          generalize wr.alloc (.cells #[.int .i64 kd, .int .i64 n, .int .i64 m] 31) = W1 at *
          generalize wr.heap.size = b at *
          have hdo := Lib.hid (Two.half (w := W1.drew) ⟨hTn.out.p.imp fun _ h => h.drew, hTn.out.r.imp fun _ h => h.drew, hTn.out.inv, hTn.out.lo1, hTn.out.lo2⟩ kd n m hk0 hk3 (by omega))
          have hloB := Lib.hid hTn.out.lo1
          have hloR := Lib.hid hTn.out.lo2
          have e0 : W1.cell? ⟨b, 0, none⟩ = some (.int .i64 kd) := cell_of_row _ _ 0 _ _ _ hac.out
          have e1 : W1.cell? ⟨b, 1, none⟩ = some (.int .i64 n) := cell_of_row _ _ 1 _ _ _ hac.out
          have e2 : W1.cell? ⟨b, 2, none⟩ = some (.int .i64 m) := cell_of_row _ _ 2 _ _ _ hac.out
          go_cut [45] (fun v wx => v = .bool false ∧ (∃ l last, Two wx B R (k + 1) l last) ∧ ActAt wx b kd n m ∧ Below w.heap.size w wx)
          case first =>
            refine wp_region_noPanic ?_
            refine wp_region_held_drew (S := (fun w' : World => w'.cell? ⟨b, 0, none⟩ = some (.int .i64 kd) ∧ w'.cell? ⟨b, 1, none⟩ = some (.int .i64 n) ∧ w'.cell? ⟨b, 2, none⟩ = some (.int .i64 m))) (by kernel_rfl) ⟨e0, e1, e2⟩ (fun hHeld => ?_)
            refine' wpAnyH_take (i := 0) (oi := { dst := some 31, op := Go.Op.move (Go.Operand.tmp 3), type := 24, pos := "law.go:70", after := #[], guard := none }) (v := _) rfl (by kernel_rfl) (by kernel_rfl) (by kernel_rfl) (fun _ _ _ h => h) (Or.inl ⟨by rfl, ?hy1⟩) (by assumption) ?rest1
            case hy1 => (intro w hSw; (try dsimp only at hSw); go_simp; try (with_reducible rfl))
            (try simp only [Act.put, List.setIfInBounds_toArray, List.set_cons_zero, List.set_cons_succ])
            refine' wpAnyH_take (i := 1) (oi := { dst := some 32, op := Go.Op.load 31 (Go.Operand.tmp 6), type := 31, pos := "law.go:70", after := #[], guard := none }) (v := _) rfl (by kernel_rfl) (by kernel_rfl) (by kernel_rfl) (fun _ _ _ h => h) (Or.inl ⟨by rfl, ?hy2⟩) (by assumption) ?rest2
            case hy2 => (intro w hSw; (try dsimp only at hSw); go_simp; try (with_reducible rfl))
            (try simp only [Act.put, List.setIfInBounds_toArray, List.set_cons_zero, List.set_cons_succ])
            refine' wpAnyH_take (i := 3) (oi := { dst := some 34, op := Go.Op.move (Go.Operand.tmp 4), type := 26, pos := "law.go:70", after := #[], guard := none }) (v := _) rfl (by kernel_rfl) (by kernel_rfl) (by kernel_rfl) (fun _ _ _ h => h) (Or.inl ⟨by rfl, ?hy3⟩) (by assumption) ?rest3
            case hy3 => (intro w hSw; (try dsimp only at hSw); go_simp; try (with_reducible rfl))
            (try simp only [Act.put, List.setIfInBounds_toArray, List.set_cons_zero, List.set_cons_succ])
            refine' wpAnyH_take (i := 4) (oi := { dst := some 35, op := Go.Op.load 31 (Go.Operand.tmp 6), type := 31, pos := "law.go:70", after := #[], guard := none }) (v := _) rfl (by kernel_rfl) (by kernel_rfl) (by kernel_rfl) (fun _ _ _ h => h) (Or.inl ⟨by rfl, ?hy4⟩) (by assumption) ?rest4
            case hy4 => (intro w hSw; (try dsimp only at hSw); go_simp; try (with_reducible rfl))
            (try simp only [Act.put, List.setIfInBounds_toArray, List.set_cons_zero, List.set_cons_succ])
            refine wpAnyH_ready (rs := [2]) (by kernel_rfl) (by simp) ?_
            refine AllReadyH.cons (o := { dst := some 33, op := Go.Op.call { callee := Go.Callee.value (Go.Operand.func 11), args := #[Go.Operand.tmp 31, Go.Operand.tmp 32], argTypes := #[24, 31] }, type := 34, pos := "law.go:70", after := #[{ on := 0, ground := Go.Ground.data }, { on := 1, ground := Go.Ground.data }], guard := none }) rfl (fun K hKk => ?_) AllReadyH.nil
            go_simp
            refine hdo.out.mono ?_
            rintro e w5 ⟨o, rfl, hh, pk⟩
            have ha5 : Hid (ActAt w5 b kd n m) := (pk.other _ _ _ _ (show W1.drew.heap[b]? = _ from hac.out) (by decide) (by decide) (by decide) (by decide)).trans hac.out
            have f50 : w5.cell? ⟨b, 0, none⟩ = some (.int .i64 kd) := cell_of_row _ _ 0 _ _ _ ha5.out
            have f51 : w5.cell? ⟨b, 1, none⟩ = some (.int .i64 n) := cell_of_row _ _ 1 _ _ _ ha5.out
            have f52 : w5.cell? ⟨b, 2, none⟩ = some (.int .i64 m) := cell_of_row _ _ 2 _ _ _ ha5.out
            have hB5 := Lib.hid (hBB.out.drew.trans ((pk.below hloB.out).mono hBw))
            have hfull := Lib.hid hh.full
            have hlo5 := Lib.hid hh.lo2
            have er1 : (o.x == o.x) = true := by simp
            have er2 : (o.d == o.d) = true := by simp
            have er3 : (o.e == o.e) = true := by simp
            clear hh pk hdo
            unfold ans
            refine hKk.out _ _ ⟨f50, f51, f52⟩ (fun hHeld => ?_)
            clear hKk K
            (try simp only [Act.put, List.setIfInBounds_toArray, List.set_cons_zero, List.set_cons_succ])
            refine wpAnyH_ready (rs := [5]) (by kernel_rfl) (by simp) ?_
            refine AllReadyH.cons (o := { dst := some 36, op := Go.Op.call { callee := Go.Callee.value (Go.Operand.func 12), args := #[Go.Operand.tmp 34, Go.Operand.tmp 35], argTypes := #[26, 31] }, type := 34, pos := "law.go:70", after := #[{ on := 3, ground := Go.Ground.data }, { on := 4, ground := Go.Ground.data }, { on := 2, ground := Go.Ground.chain }], guard := none }) rfl (fun K hKk => ?_) AllReadyH.nil
            go_simp
            refine hfull.out.mono ?_
            rintro e w6 ⟨rfl, hT6, rk⟩
            have ha6 : Hid (ActAt w6 b kd n m) := (rk.other _ _ _ _ ha5.out (by decide) (by decide)).trans ha5.out
            have f60 : w6.cell? ⟨b, 0, none⟩ = some (.int .i64 kd) := cell_of_row _ _ 0 _ _ _ ha6.out
            have f61 : w6.cell? ⟨b, 1, none⟩ = some (.int .i64 n) := cell_of_row _ _ 1 _ _ _ ha6.out
            have f62 : w6.cell? ⟨b, 2, none⟩ = some (.int .i64 m) := cell_of_row _ _ 2 _ _ _ ha6.out
            have hB6 := Lib.hid (hB5.out.trans ((rk.below hlo5.out).mono hRlo))
            have hi6 := Lib.hid hT6.idsP
            replace hT6 := Lib.hid hT6
            clear hfull rk hlo5
            unfold ans
            refine hKk.out _ _ ⟨f60, f61, f62⟩ (fun hHeld => ?_)
            clear hKk K
            (try simp only [Act.put, List.setIfInBounds_toArray, List.set_cons_zero, List.set_cons_succ])
            refine' wpAnyH_take (i := 6) (oi := { dst := some 37, op := Go.Op.binOp Go.BinOp.neq 34 (Go.Operand.tmp 33) (Go.Operand.tmp 36) 34, type := 4, pos := "law.go:70", after := #[{ on := 2, ground := Go.Ground.data }, { on := 5, ground := Go.Ground.data }], guard := none }) (v := _) rfl (by kernel_rfl) (by kernel_rfl) (by kernel_rfl) (fun _ _ _ h => h) (Or.inl ⟨by rfl, ?hy5⟩) (by assumption) ?rest5
            case hy5 => (intro w hSw; (try dsimp only at hSw); go_simp; try (with_reducible rfl))
            (try simp only [Act.put, List.setIfInBounds_toArray, List.set_cons_zero, List.set_cons_succ])
            refine' wpAnyH_take (i := 7) (oi := { dst := some 38, op := Go.Op.move (Go.Operand.tmp 37), type := 4, pos := "law.go:70", after := #[{ on := 6, ground := Go.Ground.data }, { on := 5, ground := Go.Ground.chain }], guard := none }) (v := _) rfl (by kernel_rfl) (by kernel_rfl) (by kernel_rfl) (fun _ _ _ h => h) (Or.inl ⟨by rfl, ?hy6⟩) (by assumption) ?rest6
            case hy6 => (intro w hSw; (try dsimp only at hSw); go_simp; try (with_reducible rfl))
            (try simp only [Act.put, List.setIfInBounds_toArray, List.set_cons_zero, List.set_cons_succ])
            refine' wpAnyH_take (i := 8) (oi := { dst := some 39, op := Go.Op.move (Go.Operand.tmp 3), type := 24, pos := "law.go:70", after := #[{ on := 7, ground := Go.Ground.guard }], guard := some (7, false) }) (v := _) rfl (by kernel_rfl) (by kernel_rfl) (by kernel_rfl) (fun _ _ _ h => h) (Or.inl ⟨by rfl, ?hy7⟩) (by assumption) ?rest7
            case hy7 => (intro w hSw; (try dsimp only at hSw); go_simp; try (with_reducible rfl))
            (try simp only [Act.put, List.setIfInBounds_toArray, List.set_cons_zero, List.set_cons_succ])
            refine' wpAnyH_take (i := 10) (oi := { dst := some 41, op := Go.Op.move (Go.Operand.tmp 4), type := 26, pos := "law.go:70", after := #[{ on := 7, ground := Go.Ground.guard }], guard := some (7, false) }) (v := _) rfl (by kernel_rfl) (by kernel_rfl) (by kernel_rfl) (fun _ _ _ h => h) (Or.inl ⟨by rfl, ?hy8⟩) (by assumption) ?rest8
            case hy8 => (intro w hSw; (try dsimp only at hSw); go_simp; try (with_reducible rfl))
            (try simp only [Act.put, List.setIfInBounds_toArray, List.set_cons_zero, List.set_cons_succ])
            refine wpAnyH_ready (rs := [9]) (by kernel_rfl) (by simp) ?_
            refine AllReadyH.cons (o := { dst := some 40, op := Go.Op.call { callee := Go.Callee.value (Go.Operand.func 14), args := #[Go.Operand.tmp 39], argTypes := #[24] }, type := 38, pos := "law.go:70", after := #[{ on := 8, ground := Go.Ground.data }, { on := 7, ground := Go.Ground.chain }, { on := 7, ground := Go.Ground.guard }], guard := some (7, false) }) rfl (fun K hKk => ?_) AllReadyH.nil
            go_simp
            refine hi6.out.mono ?_
            rintro e w7 ⟨r1, rfl, hr1, hb7⟩
            have ha7 : Hid (ActAt w7 b kd n m) := heap_below hb7 ha6.out
            have f70 : w7.cell? ⟨b, 0, none⟩ = some (.int .i64 kd) := cell_of_row _ _ 0 _ _ _ ha7.out
            have f71 : w7.cell? ⟨b, 1, none⟩ = some (.int .i64 n) := cell_of_row _ _ 1 _ _ _ ha7.out
            have f72 : w7.cell? ⟨b, 2, none⟩ = some (.int .i64 m) := cell_of_row _ _ 2 _ _ _ ha7.out
            have hT7 := hT6.out.below hb7
            have hB7 := Lib.hid (hB6.out.trans (hb7.mono (Nat.le_trans hBw hT6.out.lo1)))
            have hi7 := Lib.hid hT7.idsR
            replace hT7 := Lib.hid hT7
            replace hr1 := Lib.hid hr1
            clear hb7 hi6
            refine hKk.out _ _ ⟨f70, f71, f72⟩ (fun hHeld => ?_)
            clear hKk K
            (try simp only [Act.put, List.setIfInBounds_toArray, List.set_cons_zero, List.set_cons_succ])
            refine wpAnyH_ready (rs := [11]) (by kernel_rfl) (by simp) ?_
            refine AllReadyH.cons (o := { dst := some 42, op := Go.Op.call { callee := Go.Callee.value (Go.Operand.func 15), args := #[Go.Operand.tmp 41], argTypes := #[26] }, type := 38, pos := "law.go:70", after := #[{ on := 10, ground := Go.Ground.data }, { on := 9, ground := Go.Ground.chain }, { on := 7, ground := Go.Ground.guard }], guard := some (7, false) }) rfl (fun K hKk => ?_) AllReadyH.nil
            go_simp
            refine hi7.out.mono ?_
            rintro e w8 ⟨r2, rfl, hr2, hb8⟩
            have ha8 : Hid (ActAt w8 b kd n m) := heap_below hb8 ha7.out
            have f80 : w8.cell? ⟨b, 0, none⟩ = some (.int .i64 kd) := cell_of_row _ _ 0 _ _ _ ha8.out
            have f81 : w8.cell? ⟨b, 1, none⟩ = some (.int .i64 n) := cell_of_row _ _ 1 _ _ _ ha8.out
            have f82 : w8.cell? ⟨b, 2, none⟩ = some (.int .i64 m) := cell_of_row _ _ 2 _ _ _ ha8.out
            have hT8 := hT7.out.below hb8
            have hB8 := Lib.hid (hB7.out.trans (hb8.mono (Nat.le_trans hBw hT7.out.lo1)))
            have hlen8 : (o.l.map (·.id)).length ≤ 1000 := by have := hT8.inv.len; simp; omega
            have hs8 := sameInts hlen8 hlen8 (hr1.out.below hb8) hr2
            rw [show decide (o.l.map (·.id) = o.l.map (·.id)) = true by simp] at hs8
            replace hs8 := Lib.hid hs8
            replace hT8 := Lib.hid hT8
            clear hb8 hi7 hr2
            refine hKk.out _ _ ⟨f80, f81, f82⟩ (fun hHeld => ?_)
            clear hKk K
            (try simp only [Act.put, List.setIfInBounds_toArray, List.set_cons_zero, List.set_cons_succ])
            refine wpAnyH_ready (rs := [12]) (by kernel_rfl) (by simp) ?_
            refine AllReadyH.cons (o := { dst := some 43, op := Go.Op.call { callee := Go.Callee.value (Go.Operand.func 13), args := #[Go.Operand.tmp 40, Go.Operand.tmp 42], argTypes := #[38, 38] }, type := 4, pos := "law.go:70", after := #[{ on := 9, ground := Go.Ground.data }, { on := 11, ground := Go.Ground.data }, { on := 11, ground := Go.Ground.chain }, { on := 7, ground := Go.Ground.guard }], guard := some (7, false) }) rfl (fun K hKk => ?_) AllReadyH.nil
            go_simp
            refine hs8.out.mono ?_
            rintro e w9 ⟨rfl, hb9⟩
            have ha9 : Hid (ActAt w9 b kd n m) := heap_below hb9 ha8.out
            have f90 : w9.cell? ⟨b, 0, none⟩ = some (.int .i64 kd) := cell_of_row _ _ 0 _ _ _ ha9.out
            have f91 : w9.cell? ⟨b, 1, none⟩ = some (.int .i64 n) := cell_of_row _ _ 1 _ _ _ ha9.out
            have f92 : w9.cell? ⟨b, 2, none⟩ = some (.int .i64 m) := cell_of_row _ _ 2 _ _ _ ha9.out
            have hT9 := Lib.hid (hT8.out.below hb9)
            have hB9 := Lib.hid (hB8.out.trans (hb9.mono (Nat.le_trans hBw hT8.out.lo1)))
            clear hb9 hs8
            refine hKk.out _ _ ⟨f90, f91, f92⟩ (fun hHeld => ?_)
            clear hKk K
            (try simp only [Act.put, List.setIfInBounds_toArray, List.set_cons_zero, List.set_cons_succ])
            refine' wpAnyH_take (i := 13) (oi := { dst := some 44, op := Go.Op.unOp Go.UnOp.not 4 (Go.Operand.tmp 43), type := 4, pos := "law.go:70", after := #[{ on := 12, ground := Go.Ground.data }, { on := 7, ground := Go.Ground.guard }], guard := some (7, false) }) (v := _) rfl (by kernel_rfl) (by kernel_rfl) (by kernel_rfl) (fun _ _ _ h => h) (Or.inl ⟨by rfl, ?hy9⟩) (by assumption) ?rest9
            case hy9 => (intro w hSw; (try dsimp only at hSw); go_simp; try (with_reducible rfl))
            (try simp only [Act.put, List.setIfInBounds_toArray, List.set_cons_zero, List.set_cons_succ])
            refine' wpAnyH_take (i := 14) (oi := { dst := some 45, op := Go.Op.pick (Go.Operand.tmp 38) (Go.Operand.const (Go.Value.bool true)) (Go.Operand.tmp 44), type := 4, pos := "law.go:70", after := #[{ on := 7, ground := Go.Ground.data }, { on := 13, ground := Go.Ground.data }], guard := none }) (v := _) rfl (by kernel_rfl) (by kernel_rfl) (by kernel_rfl) (fun _ _ _ h => h) (Or.inl ⟨by rfl, ?hy10⟩) (by assumption) ?rest10
            case hy10 => (intro w hSw; (try dsimp only at hSw); go_simp; try (with_reducible rfl))
            (try simp only [Act.put, List.setIfInBounds_toArray, List.set_cons_zero, List.set_cons_succ])
            refine wpAnyH_done (by kernel_rfl) ?_ _
            refine NoPanic.normal ?_
            go_wp2_with fail
            go_meet
            exact ⟨rfl, ⟨_, _, hT9.out⟩, ha9.out, hB9.out⟩
          case rest =>
            clear hTn hBB hac hlow2 hdo hloB hloR e0 e1 e2
            obtain ⟨rfl, ⟨l2, last2, hT2⟩, hac2, hB2⟩ := hcut
            have hlo2 := hT2.lo1
            have hlen2 := hT2.inv.len
            have hidr := Lib.hid hT2.idsR
            replace hT2 := Lib.hid hT2
            replace hac2 := Lib.hid hac2
            replace hB2 := Lib.hid hB2
            go_wp2_with fail
            refine hidr.out.mono ?_
            rintro e w5 ⟨r, rfl, hr, hb5⟩
            have hT5 := Lib.hid (hT2.out.below hb5)
            have hac5 : Hid (ActAt w5 b kd n m) := heap_below hb5 hac2.out
            have hB5 := Lib.hid (hB2.out.trans (hb5.mono (Nat.le_trans hBw hlo2)))
            have hlo5 : w.heap.size ≤ w5.heap.size := hB5.out.size
            obtain ⟨xs, hxs⟩ : ∃ xs, xs = l2.map (·.id) := ⟨_, rfl⟩
            have hxl : xs.length ≤ 64 := by rw [hxs, List.length_map]; exact hlen2
            have hxl2 : (xs.length : Int) ≤ 64 := by omega
            rw [← hxs] at hr
            obtain ⟨rA, rc, rfl⟩ := hr.form
            replace hr := Lib.hid hr
            clear hidr hb5 hT2 hac2 hB2 hlen2 hlo2 hxs
            go_wp2
            go_loopw [49] (fun c w' => ∃ i : Nat, i ≤ xs.length ∧ c = .int .i64 i ∧ Below w5.heap.size w5 w') (fun c _ => xs.length - (intOf c).toNat)
            case atStart => exact ⟨0, Nat.zero_le _, rfl, Below.refl _ _⟩
            case round =>
              obtain ⟨i, hi, rfl, hBi⟩ := hrel
              by_cases hlt3 : i < xs.length
              · obtain ⟨g, c', hv, d0⟩ := (hr.out.below hBi).at_ hlt3
                cases hv
                have hTi := hT5.out.below hBi
                have hcr := Lib.hid (hTi.credit xs[i])
                have hTih := Lib.hid hTi
                have hBih := Lib.hid hBi
                clear hTi hBi
                go_wp2_with fail
                refine hcr.out.mono ?_
                rintro e w6 ⟨rfl, hb6⟩
                have hB6 := Lib.hid (below_then hBih.out hBih.out.size hb6)
                have hrc := Lib.hid ((hTih.out.below hb6).rcredit xs[i])
                clear hb6 hcr hTih hBih
                go_wp2_with fail
                refine hrc.out.mono ?_
                rintro e w7 ⟨rfl, hb7⟩
                have hB7 := Lib.hid (below_then hB6.out hB6.out.size hb7)
                have hne : (creditOf l2 xs[i] != creditOf l2 xs[i]) = false := by simp
                clear hb7 hrc hB6
                go_wp2
                go_roundw
                case rel => exact ⟨i + 1, by omega, by go_num, hB7.out⟩
                case measure => simp [intOf]; omega
              · obtain rfl : i = xs.length := by omega
                have hTn := Lib.hid (hT5.out.below hBi)
                have hac : Hid (ActAt wr b kd n m) := heap_below hBi hac5.out
                have hBB := Lib.hid (hB5.out.trans (hBi.mono hlo5))
                have e0 : wr.cell? ⟨b, 0, none⟩ = some (.int .i64 kd) := cell_of_row _ _ 0 _ _ _ hac.out
                have e1 : wr.cell? ⟨b, 1, none⟩ = some (.int .i64 n) := cell_of_row _ _ 1 _ _ _ hac.out
                have e2 : wr.cell? ⟨b, 2, none⟩ = some (.int .i64 m) := cell_of_row _ _ 2 _ _ _ hac.out
                have hcr := Lib.hid (Two.credit (w := wr.drew) ⟨hTn.out.p.imp fun _ h => h.drew, hTn.out.r.imp fun _ h => h.drew, hTn.out.inv, hTn.out.lo1, hTn.out.lo2⟩ n)
                clear hT5 hac5 hB5 hBi
                go_upto_region 18 with fail
                go_cut [69] (fun v wx => v = .bool false ∧ Two wx B R (k + 1) l2 last2 ∧ Below w.heap.size w wx)
                case first =>
                  refine wp_region_noPanic ?_
                  refine wp_region_held_drew (S := (fun w' : World => w'.cell? ⟨b, 0, none⟩ = some (.int .i64 kd) ∧ w'.cell? ⟨b, 1, none⟩ = some (.int .i64 n) ∧ w'.cell? ⟨b, 2, none⟩ = some (.int .i64 m))) (by kernel_rfl) ⟨e0, e1, e2⟩ (fun hHeld => ?_)
                  refine' wpAnyH_take (i := 0) (oi := { dst := some 61, op := Go.Op.move (Go.Operand.tmp 3), type := 24, pos := "law.go:78", after := #[], guard := none }) (v := _) rfl (by kernel_rfl) (by kernel_rfl) (by kernel_rfl) (fun _ _ _ h => h) (Or.inl ⟨by rfl, ?hy11⟩) (by assumption) ?rest11
                  case hy11 => (intro w hSw; (try dsimp only at hSw); go_simp; try (with_reducible rfl))
                  (try simp only [Act.put, List.setIfInBounds_toArray, List.set_cons_zero, List.set_cons_succ])
                  refine' wpAnyH_take (i := 1) (oi := { dst := some 62, op := Go.Op.fieldAddr 31 (Go.Operand.tmp 6) 1, type := 0, pos := "law.go:78", after := #[], guard := none }) (v := _) rfl (by kernel_rfl) (by kernel_rfl) (by kernel_rfl) (fun _ _ _ h => h) (Or.inl ⟨by rfl, ?hy12⟩) (by assumption) ?rest12
                  case hy12 => (intro w hSw; (try dsimp only at hSw); go_simp; try (with_reducible rfl))
                  (try simp only [Act.put, List.setIfInBounds_toArray, List.set_cons_zero, List.set_cons_succ])
                  refine' wpAnyH_take (i := 2) (oi := { dst := some 63, op := Go.Op.load 3 (Go.Operand.tmp 62), type := 3, pos := "law.go:78", after := #[{ on := 1, ground := Go.Ground.data }], guard := none }) (v := _) rfl (by kernel_rfl) (by kernel_rfl) (by kernel_rfl) (fun _ _ _ h => h) (Or.inl ⟨by rfl, ?hy13⟩) (by assumption) ?rest13
                  case hy13 => (intro w hSw; (try dsimp only at hSw); go_simp; try (with_reducible rfl))
                  (try simp only [Act.put, List.setIfInBounds_toArray, List.set_cons_zero, List.set_cons_succ])
                  refine' wpAnyH_take (i := 4) (oi := { dst := some 65, op := Go.Op.move (Go.Operand.tmp 4), type := 26, pos := "law.go:78", after := #[], guard := none }) (v := _) rfl (by kernel_rfl) (by kernel_rfl) (by kernel_rfl) (fun _ _ _ h => h) (Or.inl ⟨by rfl, ?hy14⟩) (by assumption) ?rest14
                  case hy14 => (intro w hSw; (try dsimp only at hSw); go_simp; try (with_reducible rfl))
                  (try simp only [Act.put, List.setIfInBounds_toArray, List.set_cons_zero, List.set_cons_succ])
                  refine' wpAnyH_take (i := 5) (oi := { dst := some 66, op := Go.Op.fieldAddr 31 (Go.Operand.tmp 6) 1, type := 0, pos := "law.go:78", after := #[], guard := none }) (v := _) rfl (by kernel_rfl) (by kernel_rfl) (by kernel_rfl) (fun _ _ _ h => h) (Or.inl ⟨by rfl, ?hy15⟩) (by assumption) ?rest15
                  case hy15 => (intro w hSw; (try dsimp only at hSw); go_simp; try (with_reducible rfl))
                  (try simp only [Act.put, List.setIfInBounds_toArray, List.set_cons_zero, List.set_cons_succ])
                  refine' wpAnyH_take (i := 6) (oi := { dst := some 67, op := Go.Op.load 3 (Go.Operand.tmp 66), type := 3, pos := "law.go:78", after := #[{ on := 5, ground := Go.Ground.data }], guard := none }) (v := _) rfl (by kernel_rfl) (by kernel_rfl) (by kernel_rfl) (fun _ _ _ h => h) (Or.inl ⟨by rfl, ?hy16⟩) (by assumption) ?rest16
                  case hy16 => (intro w hSw; (try dsimp only at hSw); go_simp; try (with_reducible rfl))
                  (try simp only [Act.put, List.setIfInBounds_toArray, List.set_cons_zero, List.set_cons_succ])
                  refine wpAnyH_ready (rs := [3]) (by kernel_rfl) (by simp) ?_
                  refine AllReadyH.cons (o := { dst := some 64, op := Go.Op.call { callee := Go.Callee.value (Go.Operand.func 16), args := #[Go.Operand.tmp 61, Go.Operand.tmp 63], argTypes := #[24, 3] }, type := 3, pos := "law.go:78", after := #[{ on := 0, ground := Go.Ground.data }, { on := 2, ground := Go.Ground.data }], guard := none }) rfl (fun K hKk => ?_) AllReadyH.nil
                  go_simp
                  refine hcr.out.mono ?_
                  rintro e w5 ⟨rfl, hb5⟩
                  have ha5 : Hid (ActAt w5 b kd n m) := heap_below hb5 hac.out
                  have f50 : w5.cell? ⟨b, 0, none⟩ = some (.int .i64 kd) := cell_of_row _ _ 0 _ _ _ ha5.out
                  have f51 : w5.cell? ⟨b, 1, none⟩ = some (.int .i64 n) := cell_of_row _ _ 1 _ _ _ ha5.out
                  have f52 : w5.cell? ⟨b, 2, none⟩ = some (.int .i64 m) := cell_of_row _ _ 2 _ _ _ ha5.out
                  have hT5 := hTn.out.below (below_then (Below.refl wr.heap.size wr).drew (Nat.le_refl _) hb5)
                  have hB5 := Lib.hid (hBB.out.drew.trans (hb5.mono (Nat.le_trans hBw hTn.out.lo1)))
                  have hrc := Lib.hid (hT5.rcredit n)
                  replace hT5 := Lib.hid hT5
                  clear hb5 hcr
                  refine hKk.out _ _ ⟨f50, f51, f52⟩ (fun hHeld => ?_)
                  clear hKk K
                  (try simp only [Act.put, List.setIfInBounds_toArray, List.set_cons_zero, List.set_cons_succ])
                  refine wpAnyH_ready (rs := [7]) (by kernel_rfl) (by simp) ?_
                  refine AllReadyH.cons (o := { dst := some 68, op := Go.Op.call { callee := Go.Callee.value (Go.Operand.func 17), args := #[Go.Operand.tmp 65, Go.Operand.tmp 67], argTypes := #[26, 3] }, type := 3, pos := "law.go:78", after := #[{ on := 4, ground := Go.Ground.data }, { on := 6, ground := Go.Ground.data }, { on := 3, ground := Go.Ground.chain }], guard := none }) rfl (fun K hKk => ?_) AllReadyH.nil
                  go_simp
                  refine hrc.out.mono ?_
                  rintro e w6 ⟨rfl, hb6⟩
                  have ha6 : Hid (ActAt w6 b kd n m) := heap_below hb6 ha5.out
                  have f60 : w6.cell? ⟨b, 0, none⟩ = some (.int .i64 kd) := cell_of_row _ _ 0 _ _ _ ha6.out
                  have f61 : w6.cell? ⟨b, 1, none⟩ = some (.int .i64 n) := cell_of_row _ _ 1 _ _ _ ha6.out
                  have f62 : w6.cell? ⟨b, 2, none⟩ = some (.int .i64 m) := cell_of_row _ _ 2 _ _ _ ha6.out
                  have hT6 := Lib.hid (hT5.out.below hb6)
                  have hB6 := Lib.hid (hB5.out.trans (hb6.mono (Nat.le_trans hBw hT5.out.lo1)))
                  clear hb6 hrc
                  refine hKk.out _ _ ⟨f60, f61, f62⟩ (fun hHeld => ?_)
                  clear hKk K
                  (try simp only [Act.put, List.setIfInBounds_toArray, List.set_cons_zero, List.set_cons_succ])
                  refine' wpAnyH_take (i := 8) (oi := { dst := some 69, op := Go.Op.binOp Go.BinOp.neq 3 (Go.Operand.tmp 64) (Go.Operand.tmp 68) 3, type := 4, pos := "law.go:78", after := #[{ on := 3, ground := Go.Ground.data }, { on := 7, ground := Go.Ground.data }], guard := none }) (v := _) rfl (by kernel_rfl) (by kernel_rfl) (by kernel_rfl) (fun _ _ _ h => h) (Or.inl ⟨by rfl, ?hy17⟩) (by assumption) ?rest17
                  case hy17 => (intro w hSw; (try dsimp only at hSw); go_simp; try (with_reducible rfl))
                  (try simp only [Act.put, List.setIfInBounds_toArray, List.set_cons_zero, List.set_cons_succ])
                  refine wpAnyH_done (by kernel_rfl) ?_ _
                  refine NoPanic.normal ?_
                  go_wp2_with fail
                  go_meet
                  exact ⟨rfl, hT6.out, hB6.out⟩
                case rest =>
                  clear hTn hac hBB e0 e1 e2 hcr
                  obtain ⟨rfl, hT8, hB8⟩ := hcut
                  replace hT8 := Lib.hid hT8
                  replace hB8 := Lib.hid hB8
                  go_wp2
                  go_roundw
                  case rel => exact ⟨k + 1, by omega, by go_num, ⟨_, _, hT8.out⟩, hB8.out⟩
                  case measure => simp [intOf]; omega
        · by_cases hneg : kd < 0
          · have u1 : decide (kd < 0) = true := decide_eq_true hneg
            clear hkd
            go_wp2
            go_roundw
            case rel => exact ⟨k + 1, by omega, by go_num, ⟨_, _, hTn.out.more⟩, hBB.out⟩
            case measure => simp [intOf]; omega
          · have u1 : decide (kd < 0) = false := decide_eq_false hneg
            have u2 : decide (kd > 3) = true := decide_eq_true (by omega)
            clear hkd
            go_wp2
            go_roundw
            case rel => exact ⟨k + 1, by omega, by go_num, ⟨_, _, hTn.out.more⟩, hBB.out⟩
            case measure => simp [intOf]; omega
      · obtain rfl : k = l0.length := by omega
        have hB2 := Lib.hid hB
        clear hB hTw
        go_wp2
        go_ret
        exact ⟨rfl, hB2.out⟩
  · have q1 : decide ((l0.length : Int) > 200) = true := decide_eq_true (by omega)
    go_enter Try.func3, Try.ntmps3
    go_wp2_with fail
    refine (awake w).mono ?_
    rintro e w1 ⟨rfl, hb1⟩
    replace hb1 := Lib.hid hb1
    go_wp2
    go_ret
    exact ⟨rfl, hb1.out⟩
end Go.Proofs.Ytkokijmgikdnfaa
