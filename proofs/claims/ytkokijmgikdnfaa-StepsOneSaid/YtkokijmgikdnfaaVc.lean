/- The walk of the law StepsEnds. -/
import Derived.Test.YtkokijmgikdnfaaO
import Derived.Test.YtkokijmgikdnfaaR
namespace Go.Proofs.Ytkokijmgikdnfaa
open Go.RowKit
set_option linter.unusedVariables false

theorem Bys.below {w w' : World} {A : Option Addr} {l : List Int} (h : Bys w A l) (hb : Below w.heap.size w w') : Bys w' A l := fun i hi => by
  obtain ⟨ad, e, c, ok⟩ := h i hi
  exact ⟨ad, e, cell_below hb c, ok⟩
theorem wfu8 {n : Int} (h : (Lit.int .u8 n).wf = true) : 0 ≤ n ∧ n ≤ 255 := by simpa [Lit.wf, IntKind.min, IntKind.max, IntKind.signed, IntKind.bits] using h
theorem tmod_nat {n : Int} (h : 0 ≤ n) (m : Int) (hm : 0 < m) : ∃ r : Nat, Int.tmod n m = r ∧ (r : Int) < m := by
  rw [Int.tmod_eq_emod_of_nonneg h]
  exact ⟨(n % m).toNat, (Int.toNat_of_nonneg (Int.emod_nonneg _ (by omega))).symm, by rw [Int.toNat_of_nonneg (Int.emod_nonneg _ (by omega))]; exact Int.emod_lt_of_pos _ hm⟩

/-- what the adding loop holds -/
structure Ends1 (w : World) (B k : Nat) (jv : Value) (total : Int) : Prop where
  lab : ∃ bank v l, Lab w B bank jv v l bank.length ∧ bank.length = k ∧ l.length = k ∧ Alive l ∧ Dead bank l ∧ sumL l = total ∧ 0 ≤ total ∧ total ≤ 256 * k
  lo : B ≤ w.heap.size

/-- what the picking loop holds -/
structure Ends2 (w : World) (B n : Nat) (jv : Value) (rest : Int) : Prop where
  lab : ∃ bank v l last, Lab w B bank jv v l last ∧ bank.length = n ∧ l.length ≤ n ∧ Alive l ∧ Dead bank l ∧ sumL l = rest
  lo : B ≤ w.heap.size
theorem Alive.add {l : List Ent} (h : Alive l) (e : Ent) (he : 1 ≤ e.left ∧ e.left ≤ 256) : Alive (l ++ [e]) := fun x hx => by
  rcases List.mem_append.1 hx with hx | hx
  · exact h x hx
  · rw [List.mem_singleton] at hx; subst hx; exact he
theorem Dead.add {bank : List Jb} {l : List Ent} (h : Dead bank l) (j : Jb) (e : Ent) (he : e.id = (bank.length : Int) + 1) : Dead (bank ++ [j]) (l ++ [e]) := fun k hk => by
  by_cases hb : k < bank.length
  · rw [List.getElem_append_left hb]
    rcases h k hb with h | ⟨x, hx, hi⟩
    · exact .inl h
    · exact .inr ⟨x, List.mem_append_left _ hx, hi⟩
  · have : k = bank.length := by simp at hk; omega
    subst this
    exact .inr ⟨e, List.mem_append_right _ (List.mem_singleton.2 rfl), he⟩

set_option maxHeartbeats 4000000 in
theorem lawEnds (A0 : Option Addr) (c0 : Nat) (l0 : List Int) (A1 : Option Addr) (c1 : Nat) (l1 : List Int) (w : World) (hl0 : l0.length ≤ 9223372036854775807) (hl1 : l1.length ≤ 9223372036854775807) (h0 : Bys w A0 l0) (h1 : Bys w A1 l1) :
    Calls Try.prog 6 #[.slice A0 l0.length c0, .slice A1 l1.length c1] w fun e w' => e = .returned (.bool true) ∧ Below w.heap.size w w' := by
  by_cases hc : l0.length ≤ 12 ∧ l0.length ≤ l1.length
  · obtain ⟨hc1, hc2⟩ := hc
    have q1 : decide ((l0.length : Int) > 12) = false := decide_eq_false (by omega)
    have q2 : decide ((l1.length : Int) < l0.length) = false := decide_eq_false (by omega)
    go_enter Try.func6, Try.ntmps6
    go_wp2_with fail
    refine (awake w).mono ?_
    rintro e w1 ⟨rfl, hb1⟩
    have hz1 := hb1.size
    replace hb1 := Lib.hid hb1
    go_wp2_with fail
    refine (new_ w1).mono ?_
    rintro e w2 ⟨rfl, hs2, hb2⟩
    generalize hB : w1.heap.size = B at *
    have hz2 : B ≤ w2.heap.size := by rw [← hB]; exact hb2.size
    have hbb := Lib.hid (hb1.out.trans (hb2.mono hz1))
    have hE0 : Hid (Ends1 w2 B 0 (.slice none 0 0) 0) := ⟨⟨[], _, [], ⟨hs2, by simp [Jobs], ⟨by simp, by simp, by simp⟩, Ptrs.none_ _ _⟩, rfl, rfl, by simp [Alive], fun k hk => absurd hk (Nat.not_lt_zero _), rfl, Int.le_refl _, by simp⟩, hz2⟩
    clear hs2 hb2 hb1 hB
    go_wp2
    go_loopw [6, 7, 36] (fun a b c w' => ∃ (k : Nat) (t : Int), k ≤ l0.length ∧ b = .int .i64 t ∧ c = .int .i64 k ∧ Ends1 w' B k a t ∧ Below w.heap.size w w') (fun _ _ c _ => l0.length - (intOf c).toNat)
    case atStart => exact ⟨0, 0, Nat.zero_le _, rfl, rfl, hE0.out, hbb.out⟩
    case round =>
      obtain ⟨k, t, hk, rfl, rfl, hE, hB⟩ := hrel
      by_cases hlt : k < l0.length
      · obtain ⟨ad0, rfl, x0, ok0⟩ := h0.below hB k hlt
        obtain ⟨ad1, rfl, x1, ok1⟩ := h1.below hB k (by omega)
        obtain ⟨⟨bank, v, l, hL, hbk, hlk, hal, hde, hsum, ht0, ht1⟩, hz⟩ := hE
        obtain ⟨r0, hr0, hr0'⟩ := tmod_nat (wfu8 ok0).1 20 (by decide)
        obtain ⟨r1, hr1, hr1'⟩ := tmod_nat (wfu8 ok1).1 16 (by decide)
        subst hbk
        have hadd := Lib.hid (hL.add (1 + r0) (1 + r1) (by omega) (by omega) (by omega) (by omega) hz)
        have y1 : (wr.alloc (.cells #[.int .i64 (1 + r0), .int .i64 0] 46)).cell? (ad1.add bank.length) = some (.int .u8 l1[bank.length]) := (World.cell?_alloc_lt _ _ _ (World.block_lt_of_cell? _ _ x1)).trans x1
        have hB2 := Lib.hid hB
        have q5 : ((((bank.length : Nat) : Int) + 1) != ((bank.length : Nat) : Int) + 1) = false := by simp
        have hk12 : (bank.length : Int) ≤ 12 := by omega
        have ht2 : t ≤ 3072 := by omega
        clear hE0 hbb
        replace hL := Lib.hid hL
        replace hal := Lib.hid hal
        replace hde := Lib.hid hde
        replace h0 := Lib.hid h0
        replace h1 := Lib.hid h1
        clear ok0 ok1 hB
        go_wp2_with fail
        refine hadd.out.mono ?_
        rintro e w3 ⟨rfl, hb3, hr3, eb, hnext⟩
        have hz3 := hb3.size
        replace hr3 := Lib.hid hr3
        replace hb3 := Lib.hid hb3
        replace hnext := Lib.hid hnext
        have hlen : (bank.map (·.jb)).length ≤ 1000 := by simp; omega
        clear y1 x0 x1 hadd
        go_wp2_with (at_builtin
                     refine wpList_appPtr _ rfl (.tmp 75) (.tmp 77) rfl B u6 _ rfl hr3.out _ wr.heap.size rfl rfl (Nat.le_trans hz hz3) hlen ?_
                     intro v5 w5 hown5 hb5 hg5)
        go_roundw
        case rel =>
          obtain ⟨v', hL'⟩ := hnext.out _ _ hown5 hg5
          refine ⟨bank.length + 1, t + (1 + r0), by omega, rfl, by go_num, ⟨⟨_, v', _, hL', by simp, by simp [hlk], hal.out.add _ (by simp; omega), hde.out.add _ _ rfl, ?_, by omega, by omega⟩, Nat.le_trans (Nat.le_trans hz hz3) hg5.size⟩, (hB2.out.trans (hb3.out.mono hz1)).trans (hb5.mono hz1)⟩
          rw [sumL_append, hsum]
          simp [sumL]
        case measure => simp [intOf]; omega
      · obtain rfl : k = l0.length := by omega
        obtain ⟨⟨bank, v, l, hL, hbk, hlk, hal, hde, hsum, ht0, ht1⟩, hz⟩ := hE
        have hE2 : Hid (Ends2 wr B bank.length u6 t) := ⟨⟨bank, v, l, _, hL, rfl, by omega, hal, hde, hsum⟩, hz⟩
        have hB2 := Lib.hid hB
        have hn12 : bank.length ≤ 12 := by omega
        have ht2 : t ≤ 3072 := by omega
        generalize bank.length = n at *
        clear hL hal hde hsum hE0 hbb hB hlk ht1
        go_wp2
        go_loopw [81] (fun c w' => ∃ s : Nat, (s : Int) ≤ t ∧ c = .int .i64 s ∧ Ends2 w' B n u6 (t - s) ∧ Below w.heap.size w w') (fun c _ => t.toNat - (intOf c).toNat)
        case atStart => exact ⟨0, ht0, rfl, by simpa using hE2.out, hB2.out⟩
        case round =>
          obtain ⟨s, hst, rfl, hE, hB⟩ := hrel
          clear hE2 hB2
          by_cases hlt2 : (s : Int) < t
          · obtain ⟨⟨bank, v, l, last, hL, hbn, hln, hal, hde, hsum⟩, hz⟩ := hE
            have hl1 : 0 < l.length := by
              rcases Nat.eq_zero_or_pos l.length with h | h
              · rw [List.length_eq_zero_iff.1 h] at hsum
                simp [sumL] at hsum
                omega
              · exact h
            have hf := Lib.hid (hL.fair hl1 (by omega) hz)
            have hids := Lib.hid hL.link.ids
            have hB2 := Lib.hid hB
            replace hal := Lib.hid hal
            replace hde := Lib.hid hde
            clear hL hB
            go_wp2_with fail
            refine hf.out.mono ?_
            rintro e w4 ⟨hb, k, hk, rfl, hid, hleft, ⟨v', hL'⟩, hB'⟩
            generalize (bank[k].ran.left == 0) = flag
            have hE3 : Hid (Ends2 w4 B n u6 (t - (s + 1 : Nat))) := ⟨⟨_, v', _, last, hL', by rw [ranB_length]; exact hbn, Nat.le_trans (stepL_length hb) (by rw [fairL_length]; exact hln), (hal.out.fair.step hb).1,
              hde.out.fair.step hb hk hid hleft (by rw [ids_fairL]; exact hids.out), by rw [(hal.out.fair.step hb).2, sumL_fair, hsum]; omega⟩, Nat.le_trans hz hB'.size⟩
            have hB3 := Lib.hid (hB2.out.trans (hB'.mono hz1))
            clear hid hleft hL' hf hids hB' hal hde
            go_wp2
            go_roundw
            case rel => exact ⟨s + 1, by omega, by go_num, hE3.out, hB3.out⟩
            case measure => simp [intOf]; omega
          · obtain rfl : (s : Int) = t := by omega
            obtain ⟨⟨bank, v, l, last, hL, hbn, hln, hal, hde, hsum⟩, hz⟩ := hE
            obtain rfl : l = [] := by
              have := hal.pos
              exact List.length_eq_zero_iff.1 (by omega)
            have hfn := Lib.hid (fairNone hL.sch)
            have hids := Lib.hid (hL.ids_ (by simp))
            have hrow := hL.row
            have hjobs := hL.jobs
            obtain ⟨jA, jc, hjv⟩ := hrow.form
            have hzero : Hid (∀ k (h : k < bank.length), bank[k].left = 0) := fun k h => by
              rcases hde k h with h | ⟨x, hx, _⟩
              · exact h
              · exact absurd hx List.not_mem_nil
            rw [List.length_map] at hjv
            subst hjv
            replace hrow := Lib.hid hrow
            replace hjobs := Lib.hid hjobs
            have hB2 := Lib.hid hB
            clear hL hal hde hsum hB
            go_wp2_with fail
            refine hfn.out.mono ?_
            rintro e w4 ⟨rfl, rfl⟩
            go_wp2
            have hbl : bank.length = l0.length := by omega
            have hl3 : (l0.length : Int) ≤ 12 := by omega
            go_loopw [100] (fun c w' => ∃ i : Nat, i ≤ l0.length ∧ c = .int .i64 i ∧ w' = w4) (fun c _ => l0.length - (intOf c).toNat)
            case atStart => exact ⟨0, Nat.zero_le _, rfl, rfl⟩
            case round =>
              obtain ⟨i, hi, rfl, rfl⟩ := hrel
              by_cases hlt3 : i < l0.length
              · have hi2 : i < bank.length := by omega
                obtain ⟨g, c, hv, d0⟩ := hrow.out.at_ (i := i) (by simpa using hi2)
                rw [List.length_map] at hv
                cases hv
                rw [List.getElem_map] at d0
                have d1 : wr.cell? ⟨bank[i].jb, 0, none⟩ = some (.int .i64 0) := by
                  have := cell_of_row _ _ 0 _ _ _ (hjobs.out bank[i] (List.getElem_mem hi2)).2
                  rw [hzero.out i hi2] at this
                  exact this
                unfold jptr at d0
                clear hbl
                go_wp2
                go_roundw
                case rel => exact ⟨i + 1, by omega, by go_num, trivial⟩
                case measure => simp [intOf]; omega
              · obtain rfl : i = l0.length := by omega
                clear hbl
                go_wp2_with fail
                refine hids.out.mono ?_
                rintro e w5 ⟨r, rfl, hr, hb5⟩
                obtain ⟨rA, rc, rfl⟩ := hr.form
                have hB5 := Lib.hid (hB2.out.trans (hb5.mono (Nat.le_trans hz1 hz)))
                clear hb5 hr
                go_wp2
                go_ret
                exact ⟨rfl, hB5.out⟩
  · have hcc : 12 < l0.length ∨ l1.length < l0.length := by omega
    clear hc
    rcases hcc with h2 | h2
    · have q1 : decide ((l0.length : Int) > 12) = true := decide_eq_true (by omega)
      go_enter Try.func6, Try.ntmps6
      go_wp2_with fail
      refine (awake w).mono ?_
      rintro e w1 ⟨rfl, hb1⟩
      replace hb1 := Lib.hid hb1
      go_wp2
      go_ret
      exact ⟨rfl, hb1.out⟩
    · have q2 : decide ((l1.length : Int) < l0.length) = true := decide_eq_true (by omega)
      by_cases h3 : 12 < l0.length
      · have q1 : decide ((l0.length : Int) > 12) = true := decide_eq_true (by omega)
        go_enter Try.func6, Try.ntmps6
        go_wp2_with fail
        refine (awake w).mono ?_
        rintro e w1 ⟨rfl, hb1⟩
        replace hb1 := Lib.hid hb1
        go_wp2
        go_ret
        exact ⟨rfl, hb1.out⟩
      · have q1 : decide ((l0.length : Int) > 12) = false := decide_eq_false (by omega)
        go_enter Try.func6, Try.ntmps6
        go_wp2_with fail
        refine (awake w).mono ?_
        rintro e w1 ⟨rfl, hb1⟩
        replace hb1 := Lib.hid hb1
        go_wp2
        go_ret
        exact ⟨rfl, hb1.out⟩
end Go.Proofs.Ytkokijmgikdnfaa
