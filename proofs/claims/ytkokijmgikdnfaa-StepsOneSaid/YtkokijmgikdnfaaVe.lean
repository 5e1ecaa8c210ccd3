/- The walk of the law StepsOne. -/
import Derived.Test.YtkokijmgikdnfaaVc
import Derived.Test.YtkokijmgikdnfaaK
namespace Go.Proofs.Ytkokijmgikdnfaa
open Go.RowKit
set_option linter.unusedVariables false

theorem iw2 (n : Int) : IntKind.i64.wrap n = wrap64 n := by unfold wrap64; exact IntKind.wrap_i64 n
theorem iw {n : Int} (h1 : -9223372036854775808 ≤ n) (h2 : n ≤ 9223372036854775807) : IntKind.i64.wrap n = n := by rw [iw2]; exact w64 h1 h2
theorem made_ints (n : Nat) : (madeCells (Value.int .i64 0).cells (n * 1)).toList = (List.replicate n (0 : Int)).map (.int .i64) := by
  show (madeCells #[.int .i64 0] (n * 1)).toList = _
  rw [toList_madeCells_one]
  simp
theorem Ptrs.grownI {w w' : World} {B B' : Nat} {v u : Value} {js : List Nat} {xs : List Int} (h : Ptrs w B v js) (hi : Ints w B' u xs) (hg : w.grownBy w' u.ownBlock) : Ptrs w' B v js := by
  refine row_move h fun k hk => ?_
  rcases h.2 with ⟨rfl, _⟩ | ⟨g', cap', cur, rfl, _, hg', _⟩
  · cases hk
  · cases hk
    exact hi.other hg hg' (by decide)
theorem Lab.grown {w w' : World} {B B' : Nat} {bank : List Jb} {jv v u : Value} {l : List Ent} {last : Int} {xs : List Int} (h : Lab w B bank jv v l last) (hi : Ints w B' u xs) (hg : w.grownBy w' u.ownBlock) : Lab w' B bank jv v l last :=
  ⟨h.sch.grown hi hg, fun j hj => ⟨(h.jobs j hj).1, (hi.other hg (h.jobs j hj).2 (by decide)).trans (h.jobs j hj).2⟩, h.link, h.row.grownI hi hg⟩
theorem grown_below {w w' : World} (h : w.grownBy w' none) : Below w.heap.size w w' := ⟨h.os, h.tape, h.output, h.size, fun k hk => h.block k hk (by simp)⟩
/-- a step: the laws' rows of numbers stay -/
theorem Lab.stepped2 {w w' : World} {B : Nat} {bank : List Jb} {jv v : Value} {l l' : List Ent} {last : Int} (h : Lab w B bank jv v l last) (hl' : Link bank l') (hjs : ∀ x ∈ l', ∃ y ∈ l, y.jb = x.jb) {i : Nat} {hi : i < l'.length} {e : Ending} (hB : B ≤ w.heap.size) (hs : Stepped w B B l' last i hi e w') (hal : Alive l') :
    ∃ (k : Nat) (hk : k < bank.length), e = .returned (.tuple #[.int .i64 ((k : Int) + 1), .bool (bank[k].ran.left == 0), .int .i64 0]) ∧
      (∃ v' l2, Lab w' B (ranB bank k) jv v' l2 last ∧ l2.length ≤ l'.length ∧ Alive l2) ∧ Below B w w' ∧ ∀ B' u xs, Ints w B' u xs → Ints w' B' u xs := by
  obtain ⟨k, hk, he, h1, h2, ⟨v', hL⟩, hb⟩ := h.stepped hl' hjs hB hs
  obtain ⟨-, -, -, hK⟩ := hs
  obtain ⟨y, hy, hyj⟩ := hjs _ (List.getElem_mem hi)
  exact ⟨k, hk, he, ⟨v', _, hL, stepL_length hi, (hal.step hi).1⟩, hb, fun B' u xs hx => hx.keep hK (job_tag h.sch ⟨y, hy, hyj⟩)⟩

/-- what the loops hold -/
structure One (w : World) (B n : Nat) (jv : Value) (bank : List Jb) : Prop where
  lab : ∃ v l last, Lab w B bank jv v l last ∧ l.length ≤ n ∧ Alive l
  len : bank.length = n
  lo : B ≤ w.heap.size
theorem One.below {w w' : World} {B n : Nat} {jv : Value} {bank : List Jb} (h : One w B n jv bank) (hb : Below w.heap.size w w') : One w' B n jv bank := by
  obtain ⟨⟨v, l, last, hL, h1, h2⟩, h3, h4⟩ := h
  exact ⟨⟨v, l, last, hL.below hb, h1, h2⟩, h3, Nat.le_trans h4 hb.size⟩
theorem One.grown {w w' : World} {B n B' : Nat} {jv u : Value} {bank : List Jb} {xs : List Int} (h : One w B n jv bank) (hi : Ints w B' u xs) (hg : w.grownBy w' u.ownBlock) : One w' B n jv bank := by
  obtain ⟨⟨v, l, last, hL, h1, h2⟩, h3, h4⟩ := h
  exact ⟨⟨v, l, last, hL.grown hi hg, h1, h2⟩, h3, Nat.le_trans h4 hg.size⟩
/-- a pick's outcome -/
def Picked (w : World) (B n : Nat) (jv : Value) (bank : List Jb) (e : Ending) (w' : World) : Prop :=
  ∃ (k : Nat) (hk : k < bank.length), e = .returned (.tuple #[.int .i64 ((k : Int) + 1), .bool (bank[k].ran.left == 0), .int .i64 0]) ∧ One w' B n jv (ranB bank k) ∧ Below B w w' ∧ ∀ B' u xs, Ints w B' u xs → Ints w' B' u xs
/-- no machine is left -/
def Gone (w : World) (B n : Nat) (jv : Value) (bank : List Jb) : Prop := ∃ v last, Lab w B bank jv v [] last
def Some1 (w : World) (B n : Nat) (jv : Value) (bank : List Jb) : Prop := ∃ v l last, Lab w B bank jv v l last ∧ 0 < l.length ∧ l.length ≤ n ∧ Alive l ∧ B ≤ w.heap.size ∧ bank.length = n
theorem One.cases {w : World} {B n : Nat} {jv : Value} {bank : List Jb} (h : One w B n jv bank) : Gone w B n jv bank ∨ Some1 w B n jv bank := by
  obtain ⟨⟨v, l, last, hL, h1, h2⟩, h3, h4⟩ := h
  rcases Nat.eq_zero_or_pos l.length with h0 | h0
  · obtain rfl := List.length_eq_zero_iff.1 h0
    exact .inl ⟨v, last, hL⟩
  · exact .inr ⟨v, l, last, hL, h0, h1, h2, h4, h3⟩
theorem Some1.fair {w : World} {B n : Nat} {jv : Value} {bank : List Jb} (h : Some1 w B n jv bank) (hn : n ≤ 12) : Calls Try.prog 20 #[.pointer (some ⟨B, 0, none⟩)] w (Picked w B n jv bank) := by
  obtain ⟨v, l, last, hL, h0, h1, h2, hB, h3⟩ := h
  refine (Go.Proofs.Ytkokijmgikdnfaa.fair h0 (by omega) hL.sch hL.link.ids).mono ?_
  intro e w' hs
  obtain ⟨k, hk, he, ⟨v', l2, hL2, hl2, ha2⟩, hb, hi⟩ := hL.stepped2 hL.link.fair (fun x hx => by obtain ⟨y, hy, _, e2, _⟩ := fairL_mem hx; exact ⟨y, hy, e2.symm⟩) hB hs h2.fair
  exact ⟨k, hk, he, ⟨⟨v', l2, last, hL2, by rw [fairL_length] at hl2; omega, ha2⟩, by rw [ranB_length]; exact h3, Nat.le_trans hB hb.size⟩, hb, hi⟩
theorem Some1.pick {w : World} {B n : Nat} {jv : Value} {bank : List Jb} (h : Some1 w B n jv bank) (hn : n ≤ 12) (q : Nat) : Calls Try.prog 19 #[.pointer (some ⟨B, 0, none⟩), .int .i64 q] w (Picked w B n jv bank) := by
  obtain ⟨v, l, last, hL, h0, h1, h2, hB, h3⟩ := h
  refine (Go.Proofs.Ytkokijmgikdnfaa.pick q (q % l.length) (Nat.mod_lt _ h0) (by omega) (by simp) (by omega) hL.sch hL.link.ids).mono ?_
  intro e w' hs
  obtain ⟨k, hk, he, ⟨v', l2, hL2, hl2, ha2⟩, hb, hi⟩ := hL.stepped2 hL.link (fun x hx => ⟨x, hx, rfl⟩) hB hs h2
  exact ⟨k, hk, he, ⟨⟨v', l2, last, hL2, by omega, ha2⟩, by rw [ranB_length]; exact h3, Nat.le_trans hB hb.size⟩, hb, hi⟩
theorem Gone.fair {w : World} {B n : Nat} {jv : Value} {bank : List Jb} (h : Gone w B n jv bank) : Calls Try.prog 20 #[.pointer (some ⟨B, 0, none⟩)] w fun e w' => e = .returned (.tuple #[.int .i64 0, .bool false, .int .i64 9]) ∧ w' = w := by
  obtain ⟨v, last, hL⟩ := h
  exact fairNone hL.sch
theorem Gone.pick {w : World} {B n : Nat} {jv : Value} {bank : List Jb} (h : Gone w B n jv bank) (q : Int) : Calls Try.prog 19 #[.pointer (some ⟨B, 0, none⟩), .int .i64 q] w fun e w' => e = .returned (.tuple #[.int .i64 0, .bool false, .int .i64 9]) ∧ w' = w := by
  obtain ⟨v, last, hL⟩ := h
  exact pickNone q hL.sch
theorem Gone.ids {w : World} {B n : Nat} {jv : Value} {bank : List Jb} (h : Gone w B n jv bank) : Calls Try.prog 14 #[.pointer (some ⟨B, 0, none⟩)] w fun e w' => ∃ A c, e = .returned (.slice A 0 c) ∧ Below w.heap.size w w' := by
  obtain ⟨v, last, hL⟩ := h
  refine (hL.ids_ (by simp)).mono ?_
  rintro e w' ⟨r, rfl, hr, hb⟩
  obtain ⟨A, c, rfl⟩ := hr.form
  exact ⟨A, c, rfl, hb⟩
theorem One.form {w : World} {B n : Nat} {jv : Value} {bank : List Jb} (h : One w B n jv bank) : ∃ A c, jv = .slice A n c := by
  obtain ⟨⟨v, l, last, hL, h1, h2⟩, h3, h4⟩ := h
  obtain ⟨A, c, hv⟩ := hL.row.form
  exact ⟨A, c, by rw [hv, List.length_map, h3]⟩
theorem One.job {w : World} {B n : Nat} {jv : Value} {bank : List Jb} (h : One w B n jv bank) (i : Nat) (hi : i < bank.length) : ∃ g c, jv = .slice (some ⟨g, 0, none⟩) n c ∧ w.cell? ⟨g, i, none⟩ = some (.pointer (some ⟨bank[i].jb, 0, none⟩)) ∧
    w.cell? ⟨bank[i].jb, 0, none⟩ = some (.int .i64 bank[i].left) ∧ w.cell? ⟨bank[i].jb, 1, none⟩ = some (.int .i64 bank[i].done) := by
  obtain ⟨⟨v, l, last, hL, h1, h2⟩, h3, h4⟩ := h
  obtain ⟨g, c, hv, d0⟩ := hL.row.at_ (i := i) (by simpa using hi)
  rw [List.getElem_map] at d0
  have hj := (hL.jobs bank[i] (List.getElem_mem hi)).2
  exact ⟨g, c, by rw [hv, List.length_map, h3], d0, cell_of_row _ _ 0 _ _ _ hj, cell_of_row _ _ 1 _ _ _ hj⟩
/-- storing a number into a row -/
theorem Ints.stored {w : World} {B g c n : Nat} {xs : List Int} (h : Ints w B (.slice (some ⟨g, 0, none⟩) n c) xs) (hn : n = xs.length) (i : Nat) (x : Int) :
    Ints (w.setCell ⟨g, i, none⟩ (.int .i64 x)) B (.slice (some ⟨g, 0, none⟩) n c) (xs.set i x) ∧ w.grownBy (w.setCell ⟨g, i, none⟩ (.int .i64 x)) (Value.slice (some ⟨g, 0, none⟩) n c).ownBlock := by
  subst hn
  obtain ⟨h1, h2⟩ := World.ownsRow.stored h i (.int .i64 x)
  refine ⟨?_, h2⟩
  unfold Ints
  rw [List.length_set, List.map_set]
  exact h1

set_option maxRecDepth 100000 in
set_option maxHeartbeats 4000000 in
theorem lawOne (A0 : Option Addr) (c0 : Nat) (l0 : List Int) (A1 : Option Addr) (c1 : Nat) (l1 : List Int) (w : World) (hl0 : l0.length ≤ 9223372036854775807) (hl1 : l1.length ≤ 9223372036854775807) (h0 : Bys w A0 l0) (h1 : Bys w A1 l1) :
    Calls Try.prog 8 #[.slice A0 l0.length c0, .slice A1 l1.length c1] w fun e w' => e = .returned (.bool true) ∧ Below w.heap.size w w' := by
  by_cases hc : l0.length ≤ 12 ∧ l1.length ≤ 60
  · obtain ⟨hc1, hc2⟩ := hc
    have q1 : decide ((l0.length : Int) > 12) = false := decide_eq_false (by omega)
    have q2 : decide ((l1.length : Int) > 60) = false := decide_eq_false (by omega)
    go_enter Try.func8, Try.ntmps8
    go_wp2_with fail
    refine (awake w).mono ?_
    rintro e w1 ⟨rfl, hb1⟩
    have hz1 := hb1.size
    replace hb1 := Lib.hid hb1
    go_wp2_with fail
    refine (new_ w1).mono ?_
    rintro e w2 ⟨rfl, hs2, hb2⟩
    generalize hB : w1.heap.size = B at *
    have hz2 : B ≤ w2.heap.size := by rw [← hB]; exact hb2.size
    have hbb := Lib.hid (hb1.out.trans (hb2.mono hz1))
    have hE0 : Hid (Ends1 w2 B 0 (.slice none 0 0) 0) := ⟨⟨[], _, [], ⟨hs2, by simp [Jobs], ⟨by simp, by simp, by simp⟩, Ptrs.none_ _ _⟩, rfl, rfl, by simp [Alive], fun k hk => absurd hk (Nat.not_lt_zero _), rfl, Int.le_refl _, by simp⟩, hz2⟩
    clear hs2 hb2 hb1 hB
    go_wp2
    go_loopw [6, 33] (fun a c w' => ∃ (k : Nat), k ≤ l0.length ∧ c = .int .i64 k ∧ (∃ t, Ends1 w' B k a t) ∧ Below w.heap.size w w') (fun _ c _ => l0.length - (intOf c).toNat)
    case atStart => exact ⟨0, Nat.zero_le _, rfl, ⟨0, hE0.out⟩, hbb.out⟩
    case round =>
      obtain ⟨k, hk, rfl, ⟨t, hE⟩, hB⟩ := hrel
      clear hE0 hbb
      by_cases hlt : k < l0.length
      · obtain ⟨ad0, rfl, x0, ok0⟩ := h0.below hB k hlt
        obtain ⟨⟨bank, v, l, hL, hbk, hlk, hal, hde, hsum, ht0, ht1⟩, hz⟩ := hE
        obtain ⟨r0, hr0⟩ : ∃ r0 : Nat, l0[k] = r0 := ⟨l0[k].toNat, by have := wfu8 ok0; omega⟩
        have hr0' : (r0 : Int) ≤ 255 := by have := wfu8 ok0; omega
        obtain ⟨r1, hr1, hr1'⟩ := tmod_nat (wfu8 ok0).1 16 (by decide)
        rw [hr0] at x0 hr1
        subst hbk
        have hadd := Lib.hid (hL.add (1 + r0) (1 + r1) (by omega) (by omega) (by omega) (by omega) hz)
        have hB2 := Lib.hid hB
        replace hL := Lib.hid hL
        replace hal := Lib.hid hal
        replace hde := Lib.hid hde
        replace h0 := Lib.hid h0
        replace h1 := Lib.hid h1
        replace hsum := Lib.hid hsum
        clear ok0 hB hr0
        go_wp2_with fail
        refine hadd.out.mono ?_
        rintro e w3 ⟨rfl, hb3, hr3, eb, hnext⟩
        have hz3 := hb3.size
        replace hr3 := Lib.hid hr3
        replace hb3 := Lib.hid hb3
        replace hnext := Lib.hid hnext
        have hlen : (bank.map (·.jb)).length ≤ 1000 := by simp; omega
        clear x0 hadd
        go_wp2_with (at_builtin
                     refine wpList_appPtr _ rfl (.tmp 50) (.tmp 52) rfl B u6 _ rfl hr3.out _ wr.heap.size rfl rfl (Nat.le_trans hz hz3) hlen ?_
                     intro v5 w5 hown5 hb5 hg5)
        go_roundw
        case rel =>
          obtain ⟨v', hL'⟩ := hnext.out _ _ hown5 hg5
          refine ⟨bank.length + 1, by omega, by go_num, ⟨t + (1 + r0), ⟨_, v', _, hL', by simp, by simp [hlk], hal.out.add _ (by simp; omega), hde.out.add _ _ rfl, ?_, by omega, by omega⟩, Nat.le_trans (Nat.le_trans hz hz3) hg5.size⟩, (hB2.out.trans (hb3.out.mono hz1)).trans (hb5.mono hz1)⟩
          rw [sumL_append, hsum.out]
          simp [sumL]
        case measure => simp [intOf]; omega
      · obtain rfl : k = l0.length := by omega
        have hE2 : One wr B l0.length u6 (hE.lab.choose) := by
          obtain ⟨v, l, hL, hbk, hlk, hal, _⟩ := hE.lab.choose_spec
          exact ⟨⟨v, l, _, hL, by omega, hal⟩, hbk, hE.lo⟩
        obtain ⟨bank, hO⟩ : ∃ bank, One wr B l0.length u6 bank := ⟨_, hE2⟩
        obtain ⟨jA, jc, hjv⟩ := hO.form
        subst hjv
        obtain ⟨n, hn⟩ : ∃ n, n = l0.length := ⟨_, rfl⟩
        rw [← hn] at hO
        have hn12 : n ≤ 12 := by omega
        have hn12' : (n : Int) ≤ 12 := by omega
        have hO1 := Lib.hid hO
        have hB1 := Lib.hid hB
        clear hE2 hE hO hB
        rw [← hn]
        go_wp2
        go_loopw [57] (fun c w' => ∃ p : Nat, p ≤ l1.length ∧ c = .int .i64 p ∧ (∃ bank, One w' B n (.slice jA n jc) bank) ∧ Below w.heap.size w w') (fun c _ => l1.length - (intOf c).toNat)
        case atStart => exact ⟨0, Nat.zero_le _, rfl, ⟨_, hO1.out⟩, hB1.out⟩
        case round =>
          clear hO1 hB1
          obtain ⟨p, hp, rfl, ⟨bank, hO⟩, hB⟩ := hrel
          by_cases hlt1 : p < l1.length
          · obtain ⟨ad1, rfl, x1, ok1⟩ := h1.below hB p hlt1
            have hz := hO.lo
            have hOh := Lib.hid hO
            have hBh := Lib.hid hB
            obtain ⟨i0, hi0, hi1, hi2, hi3⟩ := info_parts info3
            have hb2 : i0.bytes * n ≤ 281474976710656 := by rw [hi3]; omega
            have hb3 : n ≤ maxLen := by simp only [maxLen]; omega
            clear hO hB hn
            go_wp2_with (at_make
                         refine wpList_make_full _ rfl (.tmp 62) (.tmp 62) 38 rfl B 3 i0 (.int .i64 0) 1 Try.underlying38 hi0 hi1 hi2 .i64 .i64 _ _ n rfl rfl rfl rfl hb2 hb3 hz ?_
                         intro w3 hown3 hg3)
            have hI : Ints w3 B (.slice (some ⟨wr.heap.size, 0, none⟩) n n) (List.replicate n 0) := by
              unfold Ints
              rw [List.length_replicate, ← made_ints]
              exact hown3
            have hO3 := Lib.hid (hOh.out.below (grown_below hg3))
            have hB3 := Lib.hid (hBh.out.trans ((grown_below hg3).mono (Nat.le_trans hz1 hz)))
            obtain ⟨b, hb⟩ : ∃ b, b = l1[p] := ⟨_, rfl⟩
            rw [← hb] at ok1 x1 ⊢
            have hI0 := Lib.hid hI
            clear hI
            generalize wr.heap.size = g at *
            clear hown3 hg3 hi0 hi1 hi2 hi3 hb2 hb3 hb x1 hOh hBh i0
            go_wp2
            go_loopw [66] (fun c w' => ∃ (i : Nat) (xs : List Int), i ≤ n ∧ c = .int .i64 i ∧ xs.length = n ∧ (∀ j (hj : j < bank.length), j < i → xs[j]? = some bank[j].done) ∧ Ints w' B (.slice (some ⟨g, 0, none⟩) n n) xs ∧ One w' B n (.slice jA n jc) bank ∧ Below w.heap.size w w') (fun c _ => n - (intOf c).toNat)
            case atStart => exact ⟨0, _, Nat.zero_le _, rfl, List.length_replicate, fun j hj h => absurd h (Nat.not_lt_zero _), hI0.out, hO3.out, hB3.out⟩
            case round =>
              obtain ⟨i, xs, hi, rfl, hxl, hxs, hI, hO, hB⟩ := hrel
              by_cases hlt2 : i < n
              · have hib : i < bank.length := by have := hO.len; omega
                obtain ⟨gj, cj, hv, d0, -, d1⟩ := hO.job i hib
                cases hv
                obtain ⟨g', c', hv', e0⟩ := hI.at_ (i := i) (by omega)
                have hgg : g' = g := by injection hv' with h; injection h with h; injection h with h; exact h.symm
                subst hgg
                clear hv'
                have fr : wr.frozen? ⟨g', i, none⟩ = false := by
                  have hII := hI
                  unfold Ints at hII
                  rw [hxl] at hII
                  exact World.ownsRow.frozenAt hII i
                obtain ⟨hI2, hg2⟩ := hI.stored hxl.symm i bank[i].done
                have hO2 := Lib.hid (hO.grown hI hg2)
                have hB2 := Lib.hid (hB.setCell (p := ⟨g', i, none⟩) (show w.heap.size ≤ g' from Nat.le_trans hz1 hz) (.int .i64 bank[i].done))
                have hxs2 : Hid (∀ j (hj : j < bank.length), j < i + 1 → (xs.set i bank[i].done)[j]? = some bank[j].done) := fun j hj h => by
                  by_cases e : j = i
                  · subst e; rw [List.getElem?_set_self (by omega)]
                  · rw [List.getElem?_set_ne (Ne.symm e)]; exact hxs j hj (by omega)
                replace hI2 := Lib.hid hI2
                clear hxs hg2 hI hO hB hO3 hB3 hI0
                go_wp2
                go_roundw
                case rel => exact ⟨i + 1, _, by omega, by go_num, by rw [List.length_set]; exact hxl, hxs2.out, hI2.out, hO2.out, hB2.out⟩
                case measure => simp [intOf]; omega
              · obtain rfl : n = i := by omega
                clear hO3 hB3 hI0
                have hzr := hO.lo
                have hbl := hO.len
                have hxs2 : Hid (∀ j (hj : j < bank.length), xs[j]? = some bank[j].done) := fun j hj => hxs j hj (by omega)
                obtain ⟨r2, hr2, hr2'⟩ := tmod_nat (wfu8 ok1).1 2 (by decide)
                obtain ⟨q, hq, hq2⟩ : ∃ q : Nat, Int.tdiv b 2 = q ∧ (q : Int) ≤ 127 := by
                  have := wfu8 ok1
                  refine ⟨(b / 2).toNat, ?_, by omega⟩
                  rw [Int.tdiv_eq_ediv_of_nonneg this.1]
                  omega
                have hB2 := Lib.hid hB
                have hIh := Lib.hid hI
                clear hxs hI hB ok1
                rcases hO.cases with hG | hS
                · replace hG := Lib.hid hG
                  clear hO
                  have hr3 : r2 = 0 ∨ r2 = 1 := by omega
                  clear hr2'
                  rcases hr3 with rfl | rfl
                  · skip
                    go_wp2_with fail
                    refine (hG.out.pick q).mono ?_
                    rintro e w5 ⟨rfl, rfl⟩
                    have hid := Lib.hid hG.out.ids
                    go_wp2_with fail
                    refine hid.out.mono ?_
                    rintro e w6 ⟨rA, rc, rfl, hb6⟩
                    have hB6 := Lib.hid (hB2.out.trans (hb6.mono (Nat.le_trans hz1 hzr)))
                    clear hb6 hid
                    go_wp2
                    go_ret
                    exact ⟨rfl, hB6.out⟩
                  · skip
                    go_wp2_with fail
                    refine (hG.out.fair).mono ?_
                    rintro e w5 ⟨rfl, rfl⟩
                    have hid := Lib.hid hG.out.ids
                    go_wp2_with fail
                    refine hid.out.mono ?_
                    rintro e w6 ⟨rA, rc, rfl, hb6⟩
                    have hB6 := Lib.hid (hB2.out.trans (hb6.mono (Nat.le_trans hz1 hzr)))
                    clear hb6 hid
                    go_wp2
                    go_ret
                    exact ⟨rfl, hB6.out⟩
                · clear hO
                  go_upto_if 81 with fail
                  go_cut [15, 16, 17] (fun a b c wx => ∃ (k : Nat) (hk : k < bank.length), a = .int .i64 ((k : Int) + 1) ∧ b = .bool (bank[k].ran.left == 0) ∧ c = .int .i64 0 ∧ One wx B n (.slice jA n jc) (ranB bank k) ∧ Ints wx B (.slice (some ⟨g, 0, none⟩) n n) xs ∧ Below w.heap.size w wx)
                  case first =>
                    have hr3 : r2 = 0 ∨ r2 = 1 := by omega
                    clear hr2'
                    rcases hr3 with rfl | rfl
                    · have hpk := Lib.hid (hS.pick hn12 q)
                      clear hS
                      go_wp2_with fail
                      refine hpk.out.mono ?_
                      rintro e w5 ⟨k, hk, rfl, hO5, hb5, hi5⟩
                      have hB5 := Lib.hid (hB2.out.trans (hb5.mono hz1))
                      have hI5 := Lib.hid (hi5 _ _ _ hIh.out)
                      have hO5h := Lib.hid hO5
                      have hk2 := Lib.hid hk
                      have hkl : k < bank.length := hk
                      generalize hfl : (bank[k].ran.left == 0) = fl at *
                      replace hfl := Lib.hid hfl
                      clear hi5 hb5 hO5 hk
                      go_wp2
                      go_meet
                      exact ⟨k, hkl, rfl, by rw [hfl.out], rfl, hO5h.out, hI5.out, hB5.out⟩
                    · have hpk := Lib.hid (hS.fair hn12)
                      clear hS
                      go_wp2_with fail
                      refine hpk.out.mono ?_
                      rintro e w5 ⟨k, hk, rfl, hO5, hb5, hi5⟩
                      have hB5 := Lib.hid (hB2.out.trans (hb5.mono hz1))
                      have hI5 := Lib.hid (hi5 _ _ _ hIh.out)
                      have hO5h := Lib.hid hO5
                      have hk2 := Lib.hid hk
                      have hkl : k < bank.length := hk
                      generalize hfl : (bank[k].ran.left == 0) = fl at *
                      replace hfl := Lib.hid hfl
                      clear hi5 hb5 hO5 hk
                      go_wp2
                      go_meet
                      exact ⟨k, hkl, rfl, by rw [hfl.out], rfl, hO5h.out, hI5.out, hB5.out⟩
                  case rest =>
                    clear hS hB2 hIh hr2 hr2' hq hq2
                    obtain ⟨k, hk, rfl, rfl, rfl, hO, hI, hB⟩ := hcut
                    have hzc := hO.lo
                    have hOh := Lib.hid hO
                    have hIh := Lib.hid hI
                    have hBh := Lib.hid hB
                    generalize hfl : (bank[k].ran.left == 0) = fl at *
                    replace hfl := Lib.hid hfl
                    clear hO hI hB
                    go_wp2
                    go_loopw [109] (fun c w' => ∃ i : Nat, i ≤ n ∧ c = .int .i64 i ∧ Below wc.heap.size wc w') (fun c _ => n - (intOf c).toNat)
                    case atStart => exact ⟨0, Nat.zero_le _, rfl, Below.refl _ _⟩
                    case round =>
                      obtain ⟨i, hi, rfl, hB5⟩ := hrel
                      by_cases hlt3 : i < n
                      · have hib : i < (ranB bank k).length := by rw [ranB_length]; omega
                        have hib2 : i < bank.length := by omega
                        obtain ⟨gj, cj, hv, d0, dl, dd⟩ := (hOh.out.below hB5).job i hib
                        cases hv
                        obtain ⟨g', c', hv', e0⟩ := (hIh.out.below hB5).at_ (i := i) (by omega)
                        have hgg : g' = g := by injection hv' with h; injection h with h; injection h with h; exact h.symm
                        subst hgg
                        clear hv'
                        have hxi : xs[i]'(by omega) = bank[i].done := by
                          have := hxs2.out i hib2
                          rw [List.getElem?_eq_getElem (by omega)] at this
                          injection this
                        rw [hxi] at e0
                        have hjbb : (ranB bank k)[i].jb = bank[i].jb := by rw [ranB_get]; split <;> rfl
                        rw [hjbb] at d0 dl dd
                        have hB5h := Lib.hid hB5
                        have gA : IntKind.i64.wrap ((i : Int) + 1) = i + 1 := iw (by omega) (by omega)
                        clear hB5 hxi hjbb
                        by_cases hik : i = k
                        · subst hik
                          rw [ranB_get, if_pos rfl] at dl dd
                          have gB : IntKind.i64.wrap (bank[i].done + 1) = bank[i].ran.done := iw2 _
                          have hfl2 : (bank[i].ran.left == 0) = fl := hfl.out
                          generalize bank[i].ran.done = D at *
                          generalize bank[i].ran.left = L at *
                          generalize bank[i].done = d at *
                          generalize bank[i].jb = jb at *
                          go_upto_region 34 with fail
                          go_cut [155] (fun v wx => v = .bool false ∧ Below wr.heap.size wr wx)
                          case first =>
                            have hBr := Lib.hid (Below.refl wr.heap.size wr)
                            refine wp_region_noPanic ?_
                            refine wp_region_held_drew (S := (fun w' : World => w'.cell? ⟨jb, 1, none⟩ = some (.int .i64 D) ∧ w'.cell? ⟨jb, 0, none⟩ = some (.int .i64 L) ∧ w'.cell? ⟨g', i, none⟩ = some (.int .i64 d) ∧ Hid (Below wr.heap.size wr w'))) (by kernel_rfl) ⟨dd, dl, e0, below_drewN hBr.out 1⟩ (fun hHeld => ?_)
                            refine' wpAnyH_take (i := 0) (oi := { dst := some 114, op := Go.Op.move (Go.Operand.tmp 18), type := 3, pos := "law.go:191", after := #[], guard := none }) (v := _) rfl (by kernel_rfl) (by kernel_rfl) (by kernel_rfl) (fun _ _ _ h => h) (Or.inl ⟨by rfl, ?hy1⟩) (by assumption) ?rest1
                            case hy1 => (intro w hSw; (try dsimp only at hSw); go_simp; try (with_reducible rfl))
                            (try simp only [Act.put, List.setIfInBounds_toArray, List.set_cons_zero, List.set_cons_succ])
                            refine' wpAnyH_take (i := 1) (oi := { dst := some 115, op := Go.Op.binOp Go.BinOp.add 3 (Go.Operand.tmp 114) (Go.Operand.const (Go.Value.int Go.IntKind.i64 1)) 3, type := 3, pos := "law.go:191", after := #[{ on := 0, ground := Go.Ground.data }], guard := none }) (v := _) rfl (by kernel_rfl) (by kernel_rfl) (by kernel_rfl) (fun _ _ _ h => h) (Or.inl ⟨by rfl, ?hy2⟩) (by assumption) ?rest2
                            case hy2 => (intro w hSw; (try dsimp only at hSw); go_simp; try (with_reducible rfl))
                            (try simp only [Act.put, List.setIfInBounds_toArray, List.set_cons_zero, List.set_cons_succ])
                            refine' wpAnyH_take (i := 2) (oi := { dst := some 116, op := Go.Op.move (Go.Operand.tmp 15), type := 3, pos := "law.go:191", after := #[], guard := none }) (v := _) rfl (by kernel_rfl) (by kernel_rfl) (by kernel_rfl) (fun _ _ _ h => h) (Or.inl ⟨by rfl, ?hy3⟩) (by assumption) ?rest3
                            case hy3 => (intro w hSw; (try dsimp only at hSw); go_simp; try (with_reducible rfl))
                            (try simp only [Act.put, List.setIfInBounds_toArray, List.set_cons_zero, List.set_cons_succ])
                            refine' wpAnyH_take (i := 3) (oi := { dst := some 117, op := Go.Op.binOp Go.BinOp.eql 3 (Go.Operand.tmp 115) (Go.Operand.tmp 116) 3, type := 4, pos := "law.go:191", after := #[{ on := 1, ground := Go.Ground.data }, { on := 2, ground := Go.Ground.data }], guard := none }) (v := _) rfl (by kernel_rfl) (by kernel_rfl) (by kernel_rfl) (fun _ _ _ h => h) (Or.inl ⟨by rfl, ?hy4⟩) (by assumption) ?rest4
                            case hy4 => (intro w hSw; (try dsimp only at hSw); go_simp; try (with_reducible rfl))
                            (try simp only [Act.put, List.setIfInBounds_toArray, List.set_cons_zero, List.set_cons_succ])
                            refine' wpAnyH_take (i := 4) (oi := { dst := some 118, op := Go.Op.move (Go.Operand.tmp 117), type := 4, pos := "law.go:191", after := #[{ on := 3, ground := Go.Ground.data }], guard := none }) (v := _) rfl (by kernel_rfl) (by kernel_rfl) (by kernel_rfl) (fun _ _ _ h => h) (Or.inl ⟨by rfl, ?hy5⟩) (by assumption) ?rest5
                            case hy5 => (intro w hSw; (try dsimp only at hSw); go_simp; try (with_reducible rfl))
                            (try simp only [Act.put, List.setIfInBounds_toArray, List.set_cons_zero, List.set_cons_succ])
                            refine' wpAnyH_take (i := 5) (oi := { dst := some 119, op := Go.Op.move (Go.Operand.tmp 19), type := 44, pos := "law.go:191", after := #[{ on := 4, ground := Go.Ground.guard }], guard := some (4, true) }) (v := _) rfl (by kernel_rfl) (by kernel_rfl) (by kernel_rfl) (fun _ _ _ h => h) (Or.inl ⟨by rfl, ?hy6⟩) (by assumption) ?rest6
                            case hy6 => (intro w hSw; (try dsimp only at hSw); go_simp; try (with_reducible rfl))
                            (try simp only [Act.put, List.setIfInBounds_toArray, List.set_cons_zero, List.set_cons_succ])
                            refine' wpAnyH_take (i := 6) (oi := { dst := some 120, op := Go.Op.nilCheck (Go.Operand.tmp 119), type := 0, pos := "law.go:191", after := #[{ on := 5, ground := Go.Ground.data }, { on := 4, ground := Go.Ground.guard }], guard := some (4, true) }) (v := _) rfl (by kernel_rfl) (by kernel_rfl) (by kernel_rfl) (fun _ _ _ h => h) (Or.inl ⟨by rfl, ?hy7⟩) (by assumption) ?rest7
                            case hy7 => (intro w hSw; (try dsimp only at hSw); go_simp; try (with_reducible rfl))
                            (try simp only [Act.put, List.setIfInBounds_toArray, List.set_cons_zero, List.set_cons_succ])
                            refine' wpAnyH_take (i := 7) (oi := { dst := some 121, op := Go.Op.fieldAddr 46 (Go.Operand.tmp 120) 1, type := 0, pos := "law.go:191", after := #[{ on := 6, ground := Go.Ground.data }, { on := 4, ground := Go.Ground.guard }], guard := some (4, true) }) (v := _) rfl (by kernel_rfl) (by kernel_rfl) (by kernel_rfl) (fun _ _ _ h => h) (Or.inl ⟨by rfl, ?hy8⟩) (by assumption) ?rest8
                            case hy8 => (intro w hSw; (try dsimp only at hSw); go_simp; try (with_reducible rfl))
                            (try simp only [Act.put, List.setIfInBounds_toArray, List.set_cons_zero, List.set_cons_succ])
                            refine' wpAnyH_take (i := 8) (oi := { dst := some 122, op := Go.Op.load 3 (Go.Operand.tmp 121), type := 3, pos := "law.go:191", after := #[{ on := 7, ground := Go.Ground.data }, { on := 4, ground := Go.Ground.guard }], guard := some (4, true) }) (v := _) rfl (by kernel_rfl) (by kernel_rfl) (by kernel_rfl) (fun _ _ _ h => h) (Or.inl ⟨by rfl, ?hy9⟩) (by assumption) ?rest9
                            case hy9 => (intro w hSw; (try dsimp only at hSw); go_simp; try (with_reducible rfl))
                            (try simp only [Act.put, List.setIfInBounds_toArray, List.set_cons_zero, List.set_cons_succ])
                            refine' wpAnyH_take (i := 9) (oi := { dst := some 123, op := Go.Op.move (Go.Operand.tmp 12), type := 38, pos := "law.go:191", after := #[{ on := 4, ground := Go.Ground.guard }], guard := some (4, true) }) (v := _) rfl (by kernel_rfl) (by kernel_rfl) (by kernel_rfl) (fun _ _ _ h => h) (Or.inl ⟨by rfl, ?hy10⟩) (by assumption) ?rest10
                            case hy10 => (intro w hSw; (try dsimp only at hSw); go_simp; try (with_reducible rfl))
                            (try simp only [Act.put, List.setIfInBounds_toArray, List.set_cons_zero, List.set_cons_succ])
                            refine' wpAnyH_take (i := 10) (oi := { dst := some 124, op := Go.Op.move (Go.Operand.tmp 18), type := 3, pos := "law.go:191", after := #[{ on := 4, ground := Go.Ground.guard }], guard := some (4, true) }) (v := _) rfl (by kernel_rfl) (by kernel_rfl) (by kernel_rfl) (fun _ _ _ h => h) (Or.inl ⟨by rfl, ?hy11⟩) (by assumption) ?rest11
                            case hy11 => (intro w hSw; (try dsimp only at hSw); go_simp; try (with_reducible rfl))
                            (try simp only [Act.put, List.setIfInBounds_toArray, List.set_cons_zero, List.set_cons_succ])
                            refine' wpAnyH_take (i := 11) (oi := { dst := some 125, op := Go.Op.indexAddr 38 (Go.Operand.tmp 123) (Go.Operand.tmp 124), type := 0, pos := "law.go:191", after := #[{ on := 9, ground := Go.Ground.data }, { on := 10, ground := Go.Ground.data }, { on := 4, ground := Go.Ground.guard }], guard := some (4, true) }) (v := _) rfl (by kernel_rfl) (by kernel_rfl) (by kernel_rfl) (fun _ _ _ h => h) (Or.inl ⟨by rfl, ?hy12⟩) (by assumption) ?rest12
                            case hy12 => (intro w hSw; (try dsimp only at hSw); go_simp; try (with_reducible rfl))
                            (try simp only [Act.put, List.setIfInBounds_toArray, List.set_cons_zero, List.set_cons_succ])
                            refine' wpAnyH_take (i := 12) (oi := { dst := some 126, op := Go.Op.load 3 (Go.Operand.tmp 125), type := 3, pos := "law.go:191", after := #[{ on := 11, ground := Go.Ground.data }, { on := 4, ground := Go.Ground.guard }], guard := some (4, true) }) (v := _) rfl (by kernel_rfl) (by kernel_rfl) (by kernel_rfl) (fun _ _ _ h => h) (Or.inl ⟨by rfl, ?hy13⟩) (by assumption) ?rest13
                            case hy13 => (intro w hSw; (try dsimp only at hSw); go_simp; try (with_reducible rfl))
                            (try simp only [Act.put, List.setIfInBounds_toArray, List.set_cons_zero, List.set_cons_succ])
                            refine' wpAnyH_take (i := 13) (oi := { dst := some 127, op := Go.Op.binOp Go.BinOp.add 3 (Go.Operand.tmp 126) (Go.Operand.const (Go.Value.int Go.IntKind.i64 1)) 3, type := 3, pos := "law.go:191", after := #[{ on := 12, ground := Go.Ground.data }, { on := 4, ground := Go.Ground.guard }], guard := some (4, true) }) (v := _) rfl (by kernel_rfl) (by kernel_rfl) (by kernel_rfl) (fun _ _ _ h => h) (Or.inl ⟨by rfl, ?hy14⟩) (by assumption) ?rest14
                            case hy14 => (intro w hSw; (try dsimp only at hSw); go_simp; try (with_reducible rfl))
                            (try simp only [Act.put, List.setIfInBounds_toArray, List.set_cons_zero, List.set_cons_succ])
                            refine' wpAnyH_take (i := 14) (oi := { dst := some 128, op := Go.Op.binOp Go.BinOp.neq 3 (Go.Operand.tmp 122) (Go.Operand.tmp 127) 3, type := 4, pos := "law.go:191", after := #[{ on := 8, ground := Go.Ground.data }, { on := 13, ground := Go.Ground.data }, { on := 4, ground := Go.Ground.guard }], guard := some (4, true) }) (v := _) rfl (by kernel_rfl) (by kernel_rfl) (by kernel_rfl) (fun _ _ _ h => h) (Or.inl ⟨by rfl, ?hy15⟩) (by assumption) ?rest15
                            case hy15 => (intro w hSw; (try dsimp only at hSw); go_simp; try (with_reducible rfl))
                            (try simp only [Act.put, List.setIfInBounds_toArray, List.set_cons_zero, List.set_cons_succ])
                            refine' wpAnyH_take (i := 15) (oi := { dst := some 129, op := Go.Op.move (Go.Operand.tmp 128), type := 4, pos := "law.go:191", after := #[{ on := 14, ground := Go.Ground.data }, { on := 4, ground := Go.Ground.chain }, { on := 4, ground := Go.Ground.guard }], guard := some (4, true) }) (v := _) rfl (by kernel_rfl) (by kernel_rfl) (by kernel_rfl) (fun _ _ _ h => h) (Or.inl ⟨by rfl, ?hy16⟩) (by assumption) ?rest16
                            case hy16 => (intro w hSw; (try dsimp only at hSw); go_simp; try (with_reducible rfl))
                            (try simp only [Act.put, List.setIfInBounds_toArray, List.set_cons_zero, List.set_cons_succ])
                            refine' wpAnyH_take (i := 16) (oi := { dst := some 130, op := Go.Op.move (Go.Operand.tmp 16), type := 4, pos := "law.go:191", after := #[{ on := 15, ground := Go.Ground.guard }], guard := some (15, false) }) (v := _) rfl (by kernel_rfl) (by kernel_rfl) (by kernel_rfl) (fun _ _ _ h => h) (Or.inl ⟨by rfl, ?hy17⟩) (by assumption) ?rest17
                            case hy17 => (intro w hSw; (try dsimp only at hSw); go_simp; try (with_reducible rfl))
                            (try simp only [Act.put, List.setIfInBounds_toArray, List.set_cons_zero, List.set_cons_succ])
                            refine' wpAnyH_take (i := 17) (oi := { dst := some 131, op := Go.Op.move (Go.Operand.tmp 19), type := 44, pos := "law.go:191", after := #[{ on := 15, ground := Go.Ground.guard }], guard := some (15, false) }) (v := _) rfl (by kernel_rfl) (by kernel_rfl) (by kernel_rfl) (fun _ _ _ h => h) (Or.inl ⟨by rfl, ?hy18⟩) (by assumption) ?rest18
                            case hy18 => (intro w hSw; (try dsimp only at hSw); go_simp; try (with_reducible rfl))
                            (try simp only [Act.put, List.setIfInBounds_toArray, List.set_cons_zero, List.set_cons_succ])
                            refine' wpAnyH_take (i := 18) (oi := { dst := some 132, op := Go.Op.nilCheck (Go.Operand.tmp 131), type := 0, pos := "law.go:191", after := #[{ on := 17, ground := Go.Ground.data }, { on := 15, ground := Go.Ground.guard }], guard := some (15, false) }) (v := _) rfl (by kernel_rfl) (by kernel_rfl) (by kernel_rfl) (fun _ _ _ h => h) (Or.inl ⟨by rfl, ?hy19⟩) (by assumption) ?rest19
                            case hy19 => (intro w hSw; (try dsimp only at hSw); go_simp; try (with_reducible rfl))
                            (try simp only [Act.put, List.setIfInBounds_toArray, List.set_cons_zero, List.set_cons_succ])
                            refine' wpAnyH_take (i := 19) (oi := { dst := some 133, op := Go.Op.fieldAddr 46 (Go.Operand.tmp 132) 0, type := 0, pos := "law.go:191", after := #[{ on := 18, ground := Go.Ground.data }, { on := 15, ground := Go.Ground.guard }], guard := some (15, false) }) (v := _) rfl (by kernel_rfl) (by kernel_rfl) (by kernel_rfl) (fun _ _ _ h => h) (Or.inl ⟨by rfl, ?hy20⟩) (by assumption) ?rest20
                            case hy20 => (intro w hSw; (try dsimp only at hSw); go_simp; try (with_reducible rfl))
                            (try simp only [Act.put, List.setIfInBounds_toArray, List.set_cons_zero, List.set_cons_succ])
                            refine' wpAnyH_take (i := 20) (oi := { dst := some 134, op := Go.Op.load 3 (Go.Operand.tmp 133), type := 3, pos := "law.go:191", after := #[{ on := 19, ground := Go.Ground.data }, { on := 15, ground := Go.Ground.guard }], guard := some (15, false) }) (v := _) rfl (by kernel_rfl) (by kernel_rfl) (by kernel_rfl) (fun _ _ _ h => h) (Or.inl ⟨by rfl, ?hy21⟩) (by assumption) ?rest21
                            case hy21 => (intro w hSw; (try dsimp only at hSw); go_simp; try (with_reducible rfl))
                            (try simp only [Act.put, List.setIfInBounds_toArray, List.set_cons_zero, List.set_cons_succ])
                            refine' wpAnyH_take (i := 21) (oi := { dst := some 135, op := Go.Op.binOp Go.BinOp.eql 3 (Go.Operand.tmp 134) (Go.Operand.const (Go.Value.int Go.IntKind.i64 0)) 3, type := 4, pos := "law.go:191", after := #[{ on := 20, ground := Go.Ground.data }, { on := 15, ground := Go.Ground.guard }], guard := some (15, false) }) (v := _) rfl (by kernel_rfl) (by kernel_rfl) (by kernel_rfl) (fun _ _ _ h => h) (Or.inl ⟨by rfl, ?hy22⟩) (by assumption) ?rest22
                            case hy22 => (intro w hSw; (try dsimp only at hSw); go_simp; try (with_reducible rfl))
                            (try simp only [Act.put, List.setIfInBounds_toArray, List.set_cons_zero, List.set_cons_succ])
                            refine' wpAnyH_take (i := 22) (oi := { dst := some 136, op := Go.Op.binOp Go.BinOp.neq 4 (Go.Operand.tmp 130) (Go.Operand.tmp 135) 4, type := 4, pos := "law.go:191", after := #[{ on := 16, ground := Go.Ground.data }, { on := 21, ground := Go.Ground.data }, { on := 15, ground := Go.Ground.guard }], guard := some (15, false) }) (v := _) rfl (by kernel_rfl) (by kernel_rfl) (by kernel_rfl) (fun _ _ _ h => h) (Or.inl ⟨by rfl, ?hy23⟩) (by assumption) ?rest23
                            case hy23 => (intro w hSw; (try dsimp only at hSw); go_simp; try (with_reducible rfl))
                            (try simp only [Act.put, List.setIfInBounds_toArray, List.set_cons_zero, List.set_cons_succ])
                            refine' wpAnyH_take (i := 23) (oi := { dst := some 137, op := Go.Op.pick (Go.Operand.tmp 129) (Go.Operand.const (Go.Value.bool true)) (Go.Operand.tmp 136), type := 4, pos := "law.go:191", after := #[{ on := 15, ground := Go.Ground.data }, { on := 22, ground := Go.Ground.data }, { on := 4, ground := Go.Ground.guard }], guard := some (4, true) }) (v := _) rfl (by kernel_rfl) (by kernel_rfl) (by kernel_rfl) (fun _ _ _ h => h) (Or.inl ⟨by rfl, ?hy24⟩) (by assumption) ?rest24
                            case hy24 => (intro w hSw; (try dsimp only at hSw); go_simp; try (with_reducible rfl))
                            (try simp only [Act.put, List.setIfInBounds_toArray, List.set_cons_zero, List.set_cons_succ])
                            refine' wpAnyH_take (i := 24) (oi := { dst := some 138, op := Go.Op.pick (Go.Operand.tmp 118) (Go.Operand.tmp 137) (Go.Operand.const (Go.Value.bool false)), type := 4, pos := "law.go:191", after := #[{ on := 4, ground := Go.Ground.data }, { on := 23, ground := Go.Ground.data }], guard := none }) (v := _) rfl (by kernel_rfl) (by kernel_rfl) (by kernel_rfl) (fun _ _ _ h => h) (Or.inl ⟨by rfl, ?hy25⟩) (by assumption) ?rest25
                            case hy25 => (intro w hSw; (try dsimp only at hSw); go_simp; try (with_reducible rfl))
                            (try simp only [Act.put, List.setIfInBounds_toArray, List.set_cons_zero, List.set_cons_succ])
                            refine' wpAnyH_take (i := 25) (oi := { dst := some 139, op := Go.Op.move (Go.Operand.tmp 138), type := 4, pos := "law.go:191", after := #[{ on := 24, ground := Go.Ground.data }, { on := 15, ground := Go.Ground.chain }], guard := none }) (v := _) rfl (by kernel_rfl) (by kernel_rfl) (by kernel_rfl) (fun _ _ _ h => h) (Or.inl ⟨by rfl, ?hy26⟩) (by assumption) ?rest26
                            case hy26 => (intro w hSw; (try dsimp only at hSw); go_simp; try (with_reducible rfl))
                            (try simp only [Act.put, List.setIfInBounds_toArray, List.set_cons_zero, List.set_cons_succ])
                            refine' wpAnyH_take (i := 26) (oi := { dst := some 140, op := Go.Op.move (Go.Operand.tmp 18), type := 3, pos := "law.go:191", after := #[{ on := 25, ground := Go.Ground.guard }], guard := some (25, false) }) (v := _) rfl (by kernel_rfl) (by kernel_rfl) (by kernel_rfl) (fun _ _ _ h => h) (Or.inl ⟨by rfl, ?hy27⟩) (by assumption) ?rest27
                            case hy27 => (intro w hSw; (try dsimp only at hSw); go_simp; try (with_reducible rfl))
                            (try simp only [Act.put, List.setIfInBounds_toArray, List.set_cons_zero, List.set_cons_succ])
                            refine' wpAnyH_take (i := 27) (oi := { dst := some 141, op := Go.Op.binOp Go.BinOp.add 3 (Go.Operand.tmp 140) (Go.Operand.const (Go.Value.int Go.IntKind.i64 1)) 3, type := 3, pos := "law.go:191", after := #[{ on := 26, ground := Go.Ground.data }, { on := 25, ground := Go.Ground.guard }], guard := some (25, false) }) (v := _) rfl (by kernel_rfl) (by kernel_rfl) (by kernel_rfl) (fun _ _ _ h => h) (Or.inl ⟨by rfl, ?hy28⟩) (by assumption) ?rest28
                            case hy28 => (intro w hSw; (try dsimp only at hSw); go_simp; try (with_reducible rfl))
                            (try simp only [Act.put, List.setIfInBounds_toArray, List.set_cons_zero, List.set_cons_succ])
                            refine' wpAnyH_take (i := 28) (oi := { dst := some 142, op := Go.Op.move (Go.Operand.tmp 15), type := 3, pos := "law.go:191", after := #[{ on := 25, ground := Go.Ground.guard }], guard := some (25, false) }) (v := _) rfl (by kernel_rfl) (by kernel_rfl) (by kernel_rfl) (fun _ _ _ h => h) (Or.inl ⟨by rfl, ?hy29⟩) (by assumption) ?rest29
                            case hy29 => (intro w hSw; (try dsimp only at hSw); go_simp; try (with_reducible rfl))
                            (try simp only [Act.put, List.setIfInBounds_toArray, List.set_cons_zero, List.set_cons_succ])
                            refine' wpAnyH_take (i := 29) (oi := { dst := some 143, op := Go.Op.binOp Go.BinOp.neq 3 (Go.Operand.tmp 141) (Go.Operand.tmp 142) 3, type := 4, pos := "law.go:191", after := #[{ on := 27, ground := Go.Ground.data }, { on := 28, ground := Go.Ground.data }, { on := 25, ground := Go.Ground.guard }], guard := some (25, false) }) (v := _) rfl (by kernel_rfl) (by kernel_rfl) (by kernel_rfl) (fun _ _ _ h => h) (Or.inl ⟨by rfl, ?hy30⟩) (by assumption) ?rest30
                            case hy30 => (intro w hSw; (try dsimp only at hSw); go_simp; try (with_reducible rfl))
                            (try simp only [Act.put, List.setIfInBounds_toArray, List.set_cons_zero, List.set_cons_succ])
                            refine' wpAnyH_take (i := 30) (oi := { dst := some 144, op := Go.Op.move (Go.Operand.tmp 143), type := 4, pos := "law.go:191", after := #[{ on := 29, ground := Go.Ground.data }, { on := 25, ground := Go.Ground.chain }, { on := 25, ground := Go.Ground.guard }], guard := some (25, false) }) (v := _) rfl (by kernel_rfl) (by kernel_rfl) (by kernel_rfl) (fun _ _ _ h => h) (Or.inl ⟨by rfl, ?hy31⟩) (by assumption) ?rest31
                            case hy31 => (intro w hSw; (try dsimp only at hSw); go_simp; try (with_reducible rfl))
                            (try simp only [Act.put, List.setIfInBounds_toArray, List.set_cons_zero, List.set_cons_succ])
                            refine wpAnyH_take (i := 31) (oi := { dst := some 145, op := Go.Op.move (Go.Operand.tmp 19), type := 44, pos := "law.go:191", after := #[{ on := 30, ground := Go.Ground.guard }], guard := some (30, true) }) (v := undef) rfl (by kernel_rfl) (by kernel_rfl) (by kernel_rfl) (fun _ _ _ h => h) (Or.inr ⟨by rfl, rfl⟩) (by assumption) ?_
                            (try simp only [Act.put, List.setIfInBounds_toArray, List.set_cons_zero, List.set_cons_succ])
                            refine wpAnyH_take (i := 32) (oi := { dst := some 146, op := Go.Op.nilCheck (Go.Operand.tmp 145), type := 0, pos := "law.go:191", after := #[{ on := 31, ground := Go.Ground.data }, { on := 30, ground := Go.Ground.guard }], guard := some (30, true) }) (v := undef) rfl (by kernel_rfl) (by kernel_rfl) (by kernel_rfl) (fun _ _ _ h => h) (Or.inr ⟨by rfl, rfl⟩) (by assumption) ?_
                            (try simp only [Act.put, List.setIfInBounds_toArray, List.set_cons_zero, List.set_cons_succ])
                            refine wpAnyH_take (i := 33) (oi := { dst := some 147, op := Go.Op.fieldAddr 46 (Go.Operand.tmp 146) 1, type := 0, pos := "law.go:191", after := #[{ on := 32, ground := Go.Ground.data }, { on := 30, ground := Go.Ground.guard }], guard := some (30, true) }) (v := undef) rfl (by kernel_rfl) (by kernel_rfl) (by kernel_rfl) (fun _ _ _ h => h) (Or.inr ⟨by rfl, rfl⟩) (by assumption) ?_
                            (try simp only [Act.put, List.setIfInBounds_toArray, List.set_cons_zero, List.set_cons_succ])
                            refine wpAnyH_take (i := 34) (oi := { dst := some 148, op := Go.Op.load 3 (Go.Operand.tmp 147), type := 3, pos := "law.go:191", after := #[{ on := 33, ground := Go.Ground.data }, { on := 30, ground := Go.Ground.guard }], guard := some (30, true) }) (v := undef) rfl (by kernel_rfl) (by kernel_rfl) (by kernel_rfl) (fun _ _ _ h => h) (Or.inr ⟨by rfl, rfl⟩) (by assumption) ?_
                            (try simp only [Act.put, List.setIfInBounds_toArray, List.set_cons_zero, List.set_cons_succ])
                            refine wpAnyH_take (i := 35) (oi := { dst := some 149, op := Go.Op.move (Go.Operand.tmp 12), type := 38, pos := "law.go:191", after := #[{ on := 30, ground := Go.Ground.guard }], guard := some (30, true) }) (v := undef) rfl (by kernel_rfl) (by kernel_rfl) (by kernel_rfl) (fun _ _ _ h => h) (Or.inr ⟨by rfl, rfl⟩) (by assumption) ?_
                            (try simp only [Act.put, List.setIfInBounds_toArray, List.set_cons_zero, List.set_cons_succ])
                            refine wpAnyH_take (i := 36) (oi := { dst := some 150, op := Go.Op.move (Go.Operand.tmp 18), type := 3, pos := "law.go:191", after := #[{ on := 30, ground := Go.Ground.guard }], guard := some (30, true) }) (v := undef) rfl (by kernel_rfl) (by kernel_rfl) (by kernel_rfl) (fun _ _ _ h => h) (Or.inr ⟨by rfl, rfl⟩) (by assumption) ?_
                            (try simp only [Act.put, List.setIfInBounds_toArray, List.set_cons_zero, List.set_cons_succ])
                            refine wpAnyH_take (i := 37) (oi := { dst := some 151, op := Go.Op.indexAddr 38 (Go.Operand.tmp 149) (Go.Operand.tmp 150), type := 0, pos := "law.go:191", after := #[{ on := 35, ground := Go.Ground.data }, { on := 36, ground := Go.Ground.data }, { on := 30, ground := Go.Ground.guard }], guard := some (30, true) }) (v := undef) rfl (by kernel_rfl) (by kernel_rfl) (by kernel_rfl) (fun _ _ _ h => h) (Or.inr ⟨by rfl, rfl⟩) (by assumption) ?_
                            (try simp only [Act.put, List.setIfInBounds_toArray, List.set_cons_zero, List.set_cons_succ])
                            refine wpAnyH_take (i := 38) (oi := { dst := some 152, op := Go.Op.load 3 (Go.Operand.tmp 151), type := 3, pos := "law.go:191", after := #[{ on := 37, ground := Go.Ground.data }, { on := 30, ground := Go.Ground.guard }], guard := some (30, true) }) (v := undef) rfl (by kernel_rfl) (by kernel_rfl) (by kernel_rfl) (fun _ _ _ h => h) (Or.inr ⟨by rfl, rfl⟩) (by assumption) ?_
                            (try simp only [Act.put, List.setIfInBounds_toArray, List.set_cons_zero, List.set_cons_succ])
                            refine wpAnyH_take (i := 39) (oi := { dst := some 153, op := Go.Op.binOp Go.BinOp.neq 3 (Go.Operand.tmp 148) (Go.Operand.tmp 152) 3, type := 4, pos := "law.go:191", after := #[{ on := 34, ground := Go.Ground.data }, { on := 38, ground := Go.Ground.data }, { on := 30, ground := Go.Ground.guard }], guard := some (30, true) }) (v := undef) rfl (by kernel_rfl) (by kernel_rfl) (by kernel_rfl) (fun _ _ _ h => h) (Or.inr ⟨by rfl, rfl⟩) (by assumption) ?_
                            (try simp only [Act.put, List.setIfInBounds_toArray, List.set_cons_zero, List.set_cons_succ])
                            refine' wpAnyH_take (i := 40) (oi := { dst := some 154, op := Go.Op.pick (Go.Operand.tmp 144) (Go.Operand.tmp 153) (Go.Operand.const (Go.Value.bool false)), type := 4, pos := "law.go:191", after := #[{ on := 30, ground := Go.Ground.data }, { on := 39, ground := Go.Ground.data }, { on := 25, ground := Go.Ground.guard }], guard := some (25, false) }) (v := _) rfl (by kernel_rfl) (by kernel_rfl) (by kernel_rfl) (fun _ _ _ h => h) (Or.inl ⟨by rfl, ?hy32⟩) (by assumption) ?rest32
                            case hy32 => (intro w hSw; (try dsimp only at hSw); go_simp; try (with_reducible rfl))
                            (try simp only [Act.put, List.setIfInBounds_toArray, List.set_cons_zero, List.set_cons_succ])
                            refine' wpAnyH_take (i := 41) (oi := { dst := some 155, op := Go.Op.pick (Go.Operand.tmp 139) (Go.Operand.const (Go.Value.bool true)) (Go.Operand.tmp 154), type := 4, pos := "law.go:191", after := #[{ on := 25, ground := Go.Ground.data }, { on := 40, ground := Go.Ground.data }], guard := none }) (v := _) rfl (by kernel_rfl) (by kernel_rfl) (by kernel_rfl) (fun _ _ _ h => h) (Or.inl ⟨by rfl, ?hy33⟩) (by assumption) ?rest33
                            case hy33 => (intro w hSw; (try dsimp only at hSw); go_simp; try (with_reducible rfl))
                            (try simp only [Act.put, List.setIfInBounds_toArray, List.set_cons_zero, List.set_cons_succ])
                            refine wpAnyH_done (by kernel_rfl) ?_ _
                            refine NoPanic.normal ?_
                            all_goals go_wp2_with fail
                            all_goals go_meet
                            all_goals exact ⟨rfl, hHeld.2.2.2.out⟩
                          case rest =>
                            obtain ⟨rfl, hb1⟩ := hcut
                            have hB6 := Lib.hid (below_then hB5h.out hB5h.out.size hb1)
                            clear hb1
                            go_wp2
                            go_roundw
                            case rel => exact ⟨i + 1, by omega, by go_num, hB6.out⟩
                            case measure => simp [intOf]; omega
                        · rw [ranB_get, if_neg (Ne.symm hik)] at dl dd
                          have gC : ((i : Int) + 1 == (k : Int) + 1) = false := by rw [beq_eq_false_iff_ne]; omega
                          have gD : ((i : Int) + 1 != (k : Int) + 1) = true := by rw [bne, gC]; rfl
                          generalize bank[i].left = L at *
                          generalize bank[i].done = d at *
                          generalize bank[i].jb = jb at *
                          go_upto_region 34 with fail
                          go_cut [155] (fun v wx => v = .bool false ∧ Below wr.heap.size wr wx)
                          case first =>
                            have hBr := Lib.hid (Below.refl wr.heap.size wr)
                            refine wp_region_noPanic ?_
                            refine wp_region_held_drew (S := (fun w' : World => w'.cell? ⟨jb, 1, none⟩ = some (.int .i64 d) ∧ w'.cell? ⟨g', i, none⟩ = some (.int .i64 d) ∧ Hid (Below wr.heap.size wr w'))) (by kernel_rfl) ⟨dd, e0, below_drewN hBr.out 1⟩ (fun hHeld => ?_)
                            refine' wpAnyH_take (i := 0) (oi := { dst := some 114, op := Go.Op.move (Go.Operand.tmp 18), type := 3, pos := "law.go:191", after := #[], guard := none }) (v := _) rfl (by kernel_rfl) (by kernel_rfl) (by kernel_rfl) (fun _ _ _ h => h) (Or.inl ⟨by rfl, ?hy34⟩) (by assumption) ?rest34
                            case hy34 => (intro w hSw; (try dsimp only at hSw); go_simp; try (with_reducible rfl))
                            (try simp only [Act.put, List.setIfInBounds_toArray, List.set_cons_zero, List.set_cons_succ])
                            refine' wpAnyH_take (i := 1) (oi := { dst := some 115, op := Go.Op.binOp Go.BinOp.add 3 (Go.Operand.tmp 114) (Go.Operand.const (Go.Value.int Go.IntKind.i64 1)) 3, type := 3, pos := "law.go:191", after := #[{ on := 0, ground := Go.Ground.data }], guard := none }) (v := _) rfl (by kernel_rfl) (by kernel_rfl) (by kernel_rfl) (fun _ _ _ h => h) (Or.inl ⟨by rfl, ?hy35⟩) (by assumption) ?rest35
                            case hy35 => (intro w hSw; (try dsimp only at hSw); go_simp; try (with_reducible rfl))
                            (try simp only [Act.put, List.setIfInBounds_toArray, List.set_cons_zero, List.set_cons_succ])
                            refine' wpAnyH_take (i := 2) (oi := { dst := some 116, op := Go.Op.move (Go.Operand.tmp 15), type := 3, pos := "law.go:191", after := #[], guard := none }) (v := _) rfl (by kernel_rfl) (by kernel_rfl) (by kernel_rfl) (fun _ _ _ h => h) (Or.inl ⟨by rfl, ?hy36⟩) (by assumption) ?rest36
                            case hy36 => (intro w hSw; (try dsimp only at hSw); go_simp; try (with_reducible rfl))
                            (try simp only [Act.put, List.setIfInBounds_toArray, List.set_cons_zero, List.set_cons_succ])
                            refine' wpAnyH_take (i := 3) (oi := { dst := some 117, op := Go.Op.binOp Go.BinOp.eql 3 (Go.Operand.tmp 115) (Go.Operand.tmp 116) 3, type := 4, pos := "law.go:191", after := #[{ on := 1, ground := Go.Ground.data }, { on := 2, ground := Go.Ground.data }], guard := none }) (v := _) rfl (by kernel_rfl) (by kernel_rfl) (by kernel_rfl) (fun _ _ _ h => h) (Or.inl ⟨by rfl, ?hy37⟩) (by assumption) ?rest37
                            case hy37 => (intro w hSw; (try dsimp only at hSw); go_simp; try (with_reducible rfl))
                            (try simp only [Act.put, List.setIfInBounds_toArray, List.set_cons_zero, List.set_cons_succ])
                            refine' wpAnyH_take (i := 4) (oi := { dst := some 118, op := Go.Op.move (Go.Operand.tmp 117), type := 4, pos := "law.go:191", after := #[{ on := 3, ground := Go.Ground.data }], guard := none }) (v := _) rfl (by kernel_rfl) (by kernel_rfl) (by kernel_rfl) (fun _ _ _ h => h) (Or.inl ⟨by rfl, ?hy38⟩) (by assumption) ?rest38
                            case hy38 => (intro w hSw; (try dsimp only at hSw); go_simp; try (with_reducible rfl))
                            (try simp only [Act.put, List.setIfInBounds_toArray, List.set_cons_zero, List.set_cons_succ])
                            refine wpAnyH_take (i := 5) (oi := { dst := some 119, op := Go.Op.move (Go.Operand.tmp 19), type := 44, pos := "law.go:191", after := #[{ on := 4, ground := Go.Ground.guard }], guard := some (4, true) }) (v := undef) rfl (by kernel_rfl) (by kernel_rfl) (by kernel_rfl) (fun _ _ _ h => h) (Or.inr ⟨by rfl, rfl⟩) (by assumption) ?_
                            (try simp only [Act.put, List.setIfInBounds_toArray, List.set_cons_zero, List.set_cons_succ])
                            refine wpAnyH_take (i := 6) (oi := { dst := some 120, op := Go.Op.nilCheck (Go.Operand.tmp 119), type := 0, pos := "law.go:191", after := #[{ on := 5, ground := Go.Ground.data }, { on := 4, ground := Go.Ground.guard }], guard := some (4, true) }) (v := undef) rfl (by kernel_rfl) (by kernel_rfl) (by kernel_rfl) (fun _ _ _ h => h) (Or.inr ⟨by rfl, rfl⟩) (by assumption) ?_
                            (try simp only [Act.put, List.setIfInBounds_toArray, List.set_cons_zero, List.set_cons_succ])
                            refine wpAnyH_take (i := 7) (oi := { dst := some 121, op := Go.Op.fieldAddr 46 (Go.Operand.tmp 120) 1, type := 0, pos := "law.go:191", after := #[{ on := 6, ground := Go.Ground.data }, { on := 4, ground := Go.Ground.guard }], guard := some (4, true) }) (v := undef) rfl (by kernel_rfl) (by kernel_rfl) (by kernel_rfl) (fun _ _ _ h => h) (Or.inr ⟨by rfl, rfl⟩) (by assumption) ?_
                            (try simp only [Act.put, List.setIfInBounds_toArray, List.set_cons_zero, List.set_cons_succ])
                            refine wpAnyH_take (i := 8) (oi := { dst := some 122, op := Go.Op.load 3 (Go.Operand.tmp 121), type := 3, pos := "law.go:191", after := #[{ on := 7, ground := Go.Ground.data }, { on := 4, ground := Go.Ground.guard }], guard := some (4, true) }) (v := undef) rfl (by kernel_rfl) (by kernel_rfl) (by kernel_rfl) (fun _ _ _ h => h) (Or.inr ⟨by rfl, rfl⟩) (by assumption) ?_
                            (try simp only [Act.put, List.setIfInBounds_toArray, List.set_cons_zero, List.set_cons_succ])
                            refine wpAnyH_take (i := 9) (oi := { dst := some 123, op := Go.Op.move (Go.Operand.tmp 12), type := 38, pos := "law.go:191", after := #[{ on := 4, ground := Go.Ground.guard }], guard := some (4, true) }) (v := undef) rfl (by kernel_rfl) (by kernel_rfl) (by kernel_rfl) (fun _ _ _ h => h) (Or.inr ⟨by rfl, rfl⟩) (by assumption) ?_
                            (try simp only [Act.put, List.setIfInBounds_toArray, List.set_cons_zero, List.set_cons_succ])
                            refine wpAnyH_take (i := 10) (oi := { dst := some 124, op := Go.Op.move (Go.Operand.tmp 18), type := 3, pos := "law.go:191", after := #[{ on := 4, ground := Go.Ground.guard }], guard := some (4, true) }) (v := undef) rfl (by kernel_rfl) (by kernel_rfl) (by kernel_rfl) (fun _ _ _ h => h) (Or.inr ⟨by rfl, rfl⟩) (by assumption) ?_
                            (try simp only [Act.put, List.setIfInBounds_toArray, List.set_cons_zero, List.set_cons_succ])
                            refine wpAnyH_take (i := 11) (oi := { dst := some 125, op := Go.Op.indexAddr 38 (Go.Operand.tmp 123) (Go.Operand.tmp 124), type := 0, pos := "law.go:191", after := #[{ on := 9, ground := Go.Ground.data }, { on := 10, ground := Go.Ground.data }, { on := 4, ground := Go.Ground.guard }], guard := some (4, true) }) (v := undef) rfl (by kernel_rfl) (by kernel_rfl) (by kernel_rfl) (fun _ _ _ h => h) (Or.inr ⟨by rfl, rfl⟩) (by assumption) ?_
                            (try simp only [Act.put, List.setIfInBounds_toArray, List.set_cons_zero, List.set_cons_succ])
                            refine wpAnyH_take (i := 12) (oi := { dst := some 126, op := Go.Op.load 3 (Go.Operand.tmp 125), type := 3, pos := "law.go:191", after := #[{ on := 11, ground := Go.Ground.data }, { on := 4, ground := Go.Ground.guard }], guard := some (4, true) }) (v := undef) rfl (by kernel_rfl) (by kernel_rfl) (by kernel_rfl) (fun _ _ _ h => h) (Or.inr ⟨by rfl, rfl⟩) (by assumption) ?_
                            (try simp only [Act.put, List.setIfInBounds_toArray, List.set_cons_zero, List.set_cons_succ])
                            refine wpAnyH_take (i := 13) (oi := { dst := some 127, op := Go.Op.binOp Go.BinOp.add 3 (Go.Operand.tmp 126) (Go.Operand.const (Go.Value.int Go.IntKind.i64 1)) 3, type := 3, pos := "law.go:191", after := #[{ on := 12, ground := Go.Ground.data }, { on := 4, ground := Go.Ground.guard }], guard := some (4, true) }) (v := undef) rfl (by kernel_rfl) (by kernel_rfl) (by kernel_rfl) (fun _ _ _ h => h) (Or.inr ⟨by rfl, rfl⟩) (by assumption) ?_
                            (try simp only [Act.put, List.setIfInBounds_toArray, List.set_cons_zero, List.set_cons_succ])
                            refine wpAnyH_take (i := 14) (oi := { dst := some 128, op := Go.Op.binOp Go.BinOp.neq 3 (Go.Operand.tmp 122) (Go.Operand.tmp 127) 3, type := 4, pos := "law.go:191", after := #[{ on := 8, ground := Go.Ground.data }, { on := 13, ground := Go.Ground.data }, { on := 4, ground := Go.Ground.guard }], guard := some (4, true) }) (v := undef) rfl (by kernel_rfl) (by kernel_rfl) (by kernel_rfl) (fun _ _ _ h => h) (Or.inr ⟨by rfl, rfl⟩) (by assumption) ?_
                            (try simp only [Act.put, List.setIfInBounds_toArray, List.set_cons_zero, List.set_cons_succ])
                            refine wpAnyH_take (i := 15) (oi := { dst := some 129, op := Go.Op.move (Go.Operand.tmp 128), type := 4, pos := "law.go:191", after := #[{ on := 14, ground := Go.Ground.data }, { on := 4, ground := Go.Ground.chain }, { on := 4, ground := Go.Ground.guard }], guard := some (4, true) }) (v := undef) rfl (by kernel_rfl) (by kernel_rfl) (by kernel_rfl) (fun _ _ _ h => h) (Or.inr ⟨by rfl, rfl⟩) (by assumption) ?_
                            (try simp only [Act.put, List.setIfInBounds_toArray, List.set_cons_zero, List.set_cons_succ])
                            refine wpAnyH_take (i := 16) (oi := { dst := some 130, op := Go.Op.move (Go.Operand.tmp 16), type := 4, pos := "law.go:191", after := #[{ on := 15, ground := Go.Ground.guard }], guard := some (15, false) }) (v := undef) rfl (by kernel_rfl) (by kernel_rfl) (by kernel_rfl) (fun _ _ _ h => h) (Or.inr ⟨by rfl, rfl⟩) (by assumption) ?_
                            (try simp only [Act.put, List.setIfInBounds_toArray, List.set_cons_zero, List.set_cons_succ])
                            refine wpAnyH_take (i := 17) (oi := { dst := some 131, op := Go.Op.move (Go.Operand.tmp 19), type := 44, pos := "law.go:191", after := #[{ on := 15, ground := Go.Ground.guard }], guard := some (15, false) }) (v := undef) rfl (by kernel_rfl) (by kernel_rfl) (by kernel_rfl) (fun _ _ _ h => h) (Or.inr ⟨by rfl, rfl⟩) (by assumption) ?_
                            (try simp only [Act.put, List.setIfInBounds_toArray, List.set_cons_zero, List.set_cons_succ])
                            refine wpAnyH_take (i := 18) (oi := { dst := some 132, op := Go.Op.nilCheck (Go.Operand.tmp 131), type := 0, pos := "law.go:191", after := #[{ on := 17, ground := Go.Ground.data }, { on := 15, ground := Go.Ground.guard }], guard := some (15, false) }) (v := undef) rfl (by kernel_rfl) (by kernel_rfl) (by kernel_rfl) (fun _ _ _ h => h) (Or.inr ⟨by rfl, rfl⟩) (by assumption) ?_
                            (try simp only [Act.put, List.setIfInBounds_toArray, List.set_cons_zero, List.set_cons_succ])
                            refine wpAnyH_take (i := 19) (oi := { dst := some 133, op := Go.Op.fieldAddr 46 (Go.Operand.tmp 132) 0, type := 0, pos := "law.go:191", after := #[{ on := 18, ground := Go.Ground.data }, { on := 15, ground := Go.Ground.guard }], guard := some (15, false) }) (v := undef) rfl (by kernel_rfl) (by kernel_rfl) (by kernel_rfl) (fun _ _ _ h => h) (Or.inr ⟨by rfl, rfl⟩) (by assumption) ?_
                            (try simp only [Act.put, List.setIfInBounds_toArray, List.set_cons_zero, List.set_cons_succ])
                            refine wpAnyH_take (i := 20) (oi := { dst := some 134, op := Go.Op.load 3 (Go.Operand.tmp 133), type := 3, pos := "law.go:191", after := #[{ on := 19, ground := Go.Ground.data }, { on := 15, ground := Go.Ground.guard }], guard := some (15, false) }) (v := undef) rfl (by kernel_rfl) (by kernel_rfl) (by kernel_rfl) (fun _ _ _ h => h) (Or.inr ⟨by rfl, rfl⟩) (by assumption) ?_
                            (try simp only [Act.put, List.setIfInBounds_toArray, List.set_cons_zero, List.set_cons_succ])
                            refine wpAnyH_take (i := 21) (oi := { dst := some 135, op := Go.Op.binOp Go.BinOp.eql 3 (Go.Operand.tmp 134) (Go.Operand.const (Go.Value.int Go.IntKind.i64 0)) 3, type := 4, pos := "law.go:191", after := #[{ on := 20, ground := Go.Ground.data }, { on := 15, ground := Go.Ground.guard }], guard := some (15, false) }) (v := undef) rfl (by kernel_rfl) (by kernel_rfl) (by kernel_rfl) (fun _ _ _ h => h) (Or.inr ⟨by rfl, rfl⟩) (by assumption) ?_
                            (try simp only [Act.put, List.setIfInBounds_toArray, List.set_cons_zero, List.set_cons_succ])
                            refine wpAnyH_take (i := 22) (oi := { dst := some 136, op := Go.Op.binOp Go.BinOp.neq 4 (Go.Operand.tmp 130) (Go.Operand.tmp 135) 4, type := 4, pos := "law.go:191", after := #[{ on := 16, ground := Go.Ground.data }, { on := 21, ground := Go.Ground.data }, { on := 15, ground := Go.Ground.guard }], guard := some (15, false) }) (v := undef) rfl (by kernel_rfl) (by kernel_rfl) (by kernel_rfl) (fun _ _ _ h => h) (Or.inr ⟨by rfl, rfl⟩) (by assumption) ?_
                            (try simp only [Act.put, List.setIfInBounds_toArray, List.set_cons_zero, List.set_cons_succ])
                            refine wpAnyH_take (i := 23) (oi := { dst := some 137, op := Go.Op.pick (Go.Operand.tmp 129) (Go.Operand.const (Go.Value.bool true)) (Go.Operand.tmp 136), type := 4, pos := "law.go:191", after := #[{ on := 15, ground := Go.Ground.data }, { on := 22, ground := Go.Ground.data }, { on := 4, ground := Go.Ground.guard }], guard := some (4, true) }) (v := undef) rfl (by kernel_rfl) (by kernel_rfl) (by kernel_rfl) (fun _ _ _ h => h) (Or.inr ⟨by rfl, rfl⟩) (by assumption) ?_
                            (try simp only [Act.put, List.setIfInBounds_toArray, List.set_cons_zero, List.set_cons_succ])
                            refine' wpAnyH_take (i := 24) (oi := { dst := some 138, op := Go.Op.pick (Go.Operand.tmp 118) (Go.Operand.tmp 137) (Go.Operand.const (Go.Value.bool false)), type := 4, pos := "law.go:191", after := #[{ on := 4, ground := Go.Ground.data }, { on := 23, ground := Go.Ground.data }], guard := none }) (v := _) rfl (by kernel_rfl) (by kernel_rfl) (by kernel_rfl) (fun _ _ _ h => h) (Or.inl ⟨by rfl, ?hy39⟩) (by assumption) ?rest39
                            case hy39 => (intro w hSw; (try dsimp only at hSw); go_simp; try (with_reducible rfl))
                            (try simp only [Act.put, List.setIfInBounds_toArray, List.set_cons_zero, List.set_cons_succ])
                            refine' wpAnyH_take (i := 25) (oi := { dst := some 139, op := Go.Op.move (Go.Operand.tmp 138), type := 4, pos := "law.go:191", after := #[{ on := 24, ground := Go.Ground.data }, { on := 15, ground := Go.Ground.chain }], guard := none }) (v := _) rfl (by kernel_rfl) (by kernel_rfl) (by kernel_rfl) (fun _ _ _ h => h) (Or.inl ⟨by rfl, ?hy40⟩) (by assumption) ?rest40
                            case hy40 => (intro w hSw; (try dsimp only at hSw); go_simp; try (with_reducible rfl))
                            (try simp only [Act.put, List.setIfInBounds_toArray, List.set_cons_zero, List.set_cons_succ])
                            refine' wpAnyH_take (i := 26) (oi := { dst := some 140, op := Go.Op.move (Go.Operand.tmp 18), type := 3, pos := "law.go:191", after := #[{ on := 25, ground := Go.Ground.guard }], guard := some (25, false) }) (v := _) rfl (by kernel_rfl) (by kernel_rfl) (by kernel_rfl) (fun _ _ _ h => h) (Or.inl ⟨by rfl, ?hy41⟩) (by assumption) ?rest41
                            case hy41 => (intro w hSw; (try dsimp only at hSw); go_simp; try (with_reducible rfl))
                            (try simp only [Act.put, List.setIfInBounds_toArray, List.set_cons_zero, List.set_cons_succ])
                            refine' wpAnyH_take (i := 27) (oi := { dst := some 141, op := Go.Op.binOp Go.BinOp.add 3 (Go.Operand.tmp 140) (Go.Operand.const (Go.Value.int Go.IntKind.i64 1)) 3, type := 3, pos := "law.go:191", after := #[{ on := 26, ground := Go.Ground.data }, { on := 25, ground := Go.Ground.guard }], guard := some (25, false) }) (v := _) rfl (by kernel_rfl) (by kernel_rfl) (by kernel_rfl) (fun _ _ _ h => h) (Or.inl ⟨by rfl, ?hy42⟩) (by assumption) ?rest42
                            case hy42 => (intro w hSw; (try dsimp only at hSw); go_simp; try (with_reducible rfl))
                            (try simp only [Act.put, List.setIfInBounds_toArray, List.set_cons_zero, List.set_cons_succ])
                            refine' wpAnyH_take (i := 28) (oi := { dst := some 142, op := Go.Op.move (Go.Operand.tmp 15), type := 3, pos := "law.go:191", after := #[{ on := 25, ground := Go.Ground.guard }], guard := some (25, false) }) (v := _) rfl (by kernel_rfl) (by kernel_rfl) (by kernel_rfl) (fun _ _ _ h => h) (Or.inl ⟨by rfl, ?hy43⟩) (by assumption) ?rest43
                            case hy43 => (intro w hSw; (try dsimp only at hSw); go_simp; try (with_reducible rfl))
                            (try simp only [Act.put, List.setIfInBounds_toArray, List.set_cons_zero, List.set_cons_succ])
                            refine' wpAnyH_take (i := 29) (oi := { dst := some 143, op := Go.Op.binOp Go.BinOp.neq 3 (Go.Operand.tmp 141) (Go.Operand.tmp 142) 3, type := 4, pos := "law.go:191", after := #[{ on := 27, ground := Go.Ground.data }, { on := 28, ground := Go.Ground.data }, { on := 25, ground := Go.Ground.guard }], guard := some (25, false) }) (v := _) rfl (by kernel_rfl) (by kernel_rfl) (by kernel_rfl) (fun _ _ _ h => h) (Or.inl ⟨by rfl, ?hy44⟩) (by assumption) ?rest44
                            case hy44 => (intro w hSw; (try dsimp only at hSw); go_simp; try (with_reducible rfl))
                            (try simp only [Act.put, List.setIfInBounds_toArray, List.set_cons_zero, List.set_cons_succ])
                            refine' wpAnyH_take (i := 30) (oi := { dst := some 144, op := Go.Op.move (Go.Operand.tmp 143), type := 4, pos := "law.go:191", after := #[{ on := 29, ground := Go.Ground.data }, { on := 25, ground := Go.Ground.chain }, { on := 25, ground := Go.Ground.guard }], guard := some (25, false) }) (v := _) rfl (by kernel_rfl) (by kernel_rfl) (by kernel_rfl) (fun _ _ _ h => h) (Or.inl ⟨by rfl, ?hy45⟩) (by assumption) ?rest45
                            case hy45 => (intro w hSw; (try dsimp only at hSw); go_simp; try (with_reducible rfl))
                            (try simp only [Act.put, List.setIfInBounds_toArray, List.set_cons_zero, List.set_cons_succ])
                            refine' wpAnyH_take (i := 31) (oi := { dst := some 145, op := Go.Op.move (Go.Operand.tmp 19), type := 44, pos := "law.go:191", after := #[{ on := 30, ground := Go.Ground.guard }], guard := some (30, true) }) (v := _) rfl (by kernel_rfl) (by kernel_rfl) (by kernel_rfl) (fun _ _ _ h => h) (Or.inl ⟨by rfl, ?hy46⟩) (by assumption) ?rest46
                            case hy46 => (intro w hSw; (try dsimp only at hSw); go_simp; try (with_reducible rfl))
                            (try simp only [Act.put, List.setIfInBounds_toArray, List.set_cons_zero, List.set_cons_succ])
                            refine' wpAnyH_take (i := 32) (oi := { dst := some 146, op := Go.Op.nilCheck (Go.Operand.tmp 145), type := 0, pos := "law.go:191", after := #[{ on := 31, ground := Go.Ground.data }, { on := 30, ground := Go.Ground.guard }], guard := some (30, true) }) (v := _) rfl (by kernel_rfl) (by kernel_rfl) (by kernel_rfl) (fun _ _ _ h => h) (Or.inl ⟨by rfl, ?hy47⟩) (by assumption) ?rest47
                            case hy47 => (intro w hSw; (try dsimp only at hSw); go_simp; try (with_reducible rfl))
                            (try simp only [Act.put, List.setIfInBounds_toArray, List.set_cons_zero, List.set_cons_succ])
                            refine' wpAnyH_take (i := 33) (oi := { dst := some 147, op := Go.Op.fieldAddr 46 (Go.Operand.tmp 146) 1, type := 0, pos := "law.go:191", after := #[{ on := 32, ground := Go.Ground.data }, { on := 30, ground := Go.Ground.guard }], guard := some (30, true) }) (v := _) rfl (by kernel_rfl) (by kernel_rfl) (by kernel_rfl) (fun _ _ _ h => h) (Or.inl ⟨by rfl, ?hy48⟩) (by assumption) ?rest48
                            case hy48 => (intro w hSw; (try dsimp only at hSw); go_simp; try (with_reducible rfl))
                            (try simp only [Act.put, List.setIfInBounds_toArray, List.set_cons_zero, List.set_cons_succ])
                            refine' wpAnyH_take (i := 34) (oi := { dst := some 148, op := Go.Op.load 3 (Go.Operand.tmp 147), type := 3, pos := "law.go:191", after := #[{ on := 33, ground := Go.Ground.data }, { on := 30, ground := Go.Ground.guard }], guard := some (30, true) }) (v := _) rfl (by kernel_rfl) (by kernel_rfl) (by kernel_rfl) (fun _ _ _ h => h) (Or.inl ⟨by rfl, ?hy49⟩) (by assumption) ?rest49
                            case hy49 => (intro w hSw; (try dsimp only at hSw); go_simp; try (with_reducible rfl))
                            (try simp only [Act.put, List.setIfInBounds_toArray, List.set_cons_zero, List.set_cons_succ])
                            refine' wpAnyH_take (i := 35) (oi := { dst := some 149, op := Go.Op.move (Go.Operand.tmp 12), type := 38, pos := "law.go:191", after := #[{ on := 30, ground := Go.Ground.guard }], guard := some (30, true) }) (v := _) rfl (by kernel_rfl) (by kernel_rfl) (by kernel_rfl) (fun _ _ _ h => h) (Or.inl ⟨by rfl, ?hy50⟩) (by assumption) ?rest50
                            case hy50 => (intro w hSw; (try dsimp only at hSw); go_simp; try (with_reducible rfl))
                            (try simp only [Act.put, List.setIfInBounds_toArray, List.set_cons_zero, List.set_cons_succ])
                            refine' wpAnyH_take (i := 36) (oi := { dst := some 150, op := Go.Op.move (Go.Operand.tmp 18), type := 3, pos := "law.go:191", after := #[{ on := 30, ground := Go.Ground.guard }], guard := some (30, true) }) (v := _) rfl (by kernel_rfl) (by kernel_rfl) (by kernel_rfl) (fun _ _ _ h => h) (Or.inl ⟨by rfl, ?hy51⟩) (by assumption) ?rest51
                            case hy51 => (intro w hSw; (try dsimp only at hSw); go_simp; try (with_reducible rfl))
                            (try simp only [Act.put, List.setIfInBounds_toArray, List.set_cons_zero, List.set_cons_succ])
                            refine' wpAnyH_take (i := 37) (oi := { dst := some 151, op := Go.Op.indexAddr 38 (Go.Operand.tmp 149) (Go.Operand.tmp 150), type := 0, pos := "law.go:191", after := #[{ on := 35, ground := Go.Ground.data }, { on := 36, ground := Go.Ground.data }, { on := 30, ground := Go.Ground.guard }], guard := some (30, true) }) (v := _) rfl (by kernel_rfl) (by kernel_rfl) (by kernel_rfl) (fun _ _ _ h => h) (Or.inl ⟨by rfl, ?hy52⟩) (by assumption) ?rest52
                            case hy52 => (intro w hSw; (try dsimp only at hSw); go_simp; try (with_reducible rfl))
                            (try simp only [Act.put, List.setIfInBounds_toArray, List.set_cons_zero, List.set_cons_succ])
                            refine' wpAnyH_take (i := 38) (oi := { dst := some 152, op := Go.Op.load 3 (Go.Operand.tmp 151), type := 3, pos := "law.go:191", after := #[{ on := 37, ground := Go.Ground.data }, { on := 30, ground := Go.Ground.guard }], guard := some (30, true) }) (v := _) rfl (by kernel_rfl) (by kernel_rfl) (by kernel_rfl) (fun _ _ _ h => h) (Or.inl ⟨by rfl, ?hy53⟩) (by assumption) ?rest53
                            case hy53 => (intro w hSw; (try dsimp only at hSw); go_simp; try (with_reducible rfl))
                            (try simp only [Act.put, List.setIfInBounds_toArray, List.set_cons_zero, List.set_cons_succ])
                            refine' wpAnyH_take (i := 39) (oi := { dst := some 153, op := Go.Op.binOp Go.BinOp.neq 3 (Go.Operand.tmp 148) (Go.Operand.tmp 152) 3, type := 4, pos := "law.go:191", after := #[{ on := 34, ground := Go.Ground.data }, { on := 38, ground := Go.Ground.data }, { on := 30, ground := Go.Ground.guard }], guard := some (30, true) }) (v := _) rfl (by kernel_rfl) (by kernel_rfl) (by kernel_rfl) (fun _ _ _ h => h) (Or.inl ⟨by rfl, ?hy54⟩) (by assumption) ?rest54
                            case hy54 => (intro w hSw; (try dsimp only at hSw); go_simp; try (with_reducible rfl))
                            (try simp only [Act.put, List.setIfInBounds_toArray, List.set_cons_zero, List.set_cons_succ])
                            refine' wpAnyH_take (i := 40) (oi := { dst := some 154, op := Go.Op.pick (Go.Operand.tmp 144) (Go.Operand.tmp 153) (Go.Operand.const (Go.Value.bool false)), type := 4, pos := "law.go:191", after := #[{ on := 30, ground := Go.Ground.data }, { on := 39, ground := Go.Ground.data }, { on := 25, ground := Go.Ground.guard }], guard := some (25, false) }) (v := _) rfl (by kernel_rfl) (by kernel_rfl) (by kernel_rfl) (fun _ _ _ h => h) (Or.inl ⟨by rfl, ?hy55⟩) (by assumption) ?rest55
                            case hy55 => (intro w hSw; (try dsimp only at hSw); go_simp; try (with_reducible rfl))
                            (try simp only [Act.put, List.setIfInBounds_toArray, List.set_cons_zero, List.set_cons_succ])
                            refine' wpAnyH_take (i := 41) (oi := { dst := some 155, op := Go.Op.pick (Go.Operand.tmp 139) (Go.Operand.const (Go.Value.bool true)) (Go.Operand.tmp 154), type := 4, pos := "law.go:191", after := #[{ on := 25, ground := Go.Ground.data }, { on := 40, ground := Go.Ground.data }], guard := none }) (v := _) rfl (by kernel_rfl) (by kernel_rfl) (by kernel_rfl) (fun _ _ _ h => h) (Or.inl ⟨by rfl, ?hy56⟩) (by assumption) ?rest56
                            case hy56 => (intro w hSw; (try dsimp only at hSw); go_simp; try (with_reducible rfl))
                            (try simp only [Act.put, List.setIfInBounds_toArray, List.set_cons_zero, List.set_cons_succ])
                            refine wpAnyH_done (by kernel_rfl) ?_ _
                            refine NoPanic.normal ?_
                            all_goals go_wp2_with fail
                            all_goals go_meet
                            all_goals exact ⟨rfl, hHeld.2.2.out⟩
                          case rest =>
                            obtain ⟨rfl, hb1⟩ := hcut
                            have hB6 := Lib.hid (below_then hB5h.out hB5h.out.size hb1)
                            clear hb1
                            go_wp2
                            go_roundw
                            case rel => exact ⟨i + 1, by omega, by go_num, hB6.out⟩
                            case measure => simp [intOf]; omega
                      · obtain rfl : n = i := by omega
                        have hO6 := Lib.hid (hOh.out.below hB5)
                        have hB6 := Lib.hid (hBh.out.trans (hB5.mono (Nat.le_trans hz1 hzc)))
                        clear hB5
                        have u1 : decide ((k : Int) + 1 < 1) = false := decide_eq_false (by omega)
                        have u2 : decide ((k : Int) + 1 > (n : Int)) = false := decide_eq_false (by omega)
                        go_wp2
                        go_roundw
                        case rel => exact ⟨p + 1, by omega, by go_num, ⟨_, hO6.out⟩, hB6.out⟩
                        case measure => simp [intOf]; omega
          · have hpl : p = l1.length := by omega
            subst hpl
            have hB2 := Lib.hid hB
            clear hO hB
            go_wp2
            go_ret
            exact ⟨rfl, hB2.out⟩
  · have hcc : 12 < l0.length ∨ 60 < l1.length := by omega
    clear hc
    by_cases h3 : 12 < l0.length
    · have q1 : decide ((l0.length : Int) > 12) = true := decide_eq_true (by omega)
      go_enter Try.func8, Try.ntmps8
      go_wp2_with fail
      refine (awake w).mono ?_
      rintro e w1 ⟨rfl, hb1⟩
      replace hb1 := Lib.hid hb1
      go_wp2
      go_ret
      exact ⟨rfl, hb1.out⟩
    · have q1 : decide ((l0.length : Int) > 12) = false := decide_eq_false (by omega)
      have q2 : decide ((l1.length : Int) > 60) = true := decide_eq_true (by omega)
      go_enter Try.func8, Try.ntmps8
      go_wp2_with fail
      refine (awake w).mono ?_
      rintro e w1 ⟨rfl, hb1⟩
      replace hb1 := Lib.hid hb1
      go_wp2
      go_ret
      exact ⟨rfl, hb1.out⟩
end Go.Proofs.Ytkokijmgikdnfaa
