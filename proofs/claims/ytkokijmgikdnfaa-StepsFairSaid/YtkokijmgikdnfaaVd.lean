/- The walk of the law StepsFair. -/
import Derived.Test.YtkokijmgikdnfaaS
import Derived.Test.YtkokijmgikdnfaaVc
import Derived.Deep.RegionWith
namespace Go.Proofs.Ytkokijmgikdnfaa
open Go.RowKit
set_option linter.unusedVariables false

def wOf (l0 : List Int) (j : Nat) : Int := 1 + Int.tmod (l0[j]?.getD 0) 16
theorem wOf_get (l0 : List Int) (j : Nat) (h : j < l0.length) : wOf l0 j = 1 + Int.tmod l0[j] 16 := by simp [wOf, h]
/-- what the loops hold -/
structure Fai (w : World) (B n : Nat) (l0 : List Int) (jv : Value) (W T : Int) : Prop where
  lab : ∃ bank v l, Lab w B bank jv v l bank.length ∧ bank.length = n ∧ l.map (·.id) = oneTo n ∧ FairInv W T l ∧ ∀ j (h : j < l.length), l[j].wt = wOf l0 j
  lo : B ≤ w.heap.size
theorem Fai.below {w w' : World} {B n : Nat} {l0 : List Int} {jv : Value} {W T : Int} (h : Fai w B n l0 jv W T) (hb : Below w.heap.size w w') : Fai w' B n l0 jv W T := by
  obtain ⟨⟨bank, v, l, hL, h1, h2, h3, h4⟩, hz⟩ := h
  exact ⟨⟨bank, v, l, hL.below hb, h1, h2, h3, h4⟩, Nat.le_trans hz hb.size⟩
theorem len_of_ids {l : List Ent} {n : Nat} (h : l.map (·.id) = oneTo n) : l.length = n := by have := congrArg List.length h; simpa [oneTo_length] using this
theorem id_of_ids {l : List Ent} {n : Nat} (h : l.map (·.id) = oneTo n) (k : Nat) (hk : k < l.length) : l[k].id = (k : Int) + 1 := by
  have hkn : k < n := by rw [← len_of_ids h]; exact hk
  have : (l.map (·.id))[k]'(by simpa using hk) = (oneTo n)[k]'(by rw [oneTo_length]; exact hkn) := by simp [h]
  rw [oneTo_get] at this
  simpa using this
theorem FairInv.add {W : Int} {l : List Ent} (h : FairInv W 0 l) (hW : 0 ≤ W) (e : Ent) (h1 : 1 ≤ e.wt) (h2 : e.wt ≤ 16) (h3 : e.cr = 0) (h4 : e.left = 0) (h5 : e.done = 0) : FairInv (W + e.wt) 0 (l ++ [e]) := by
  refine ⟨fun x hx => ?_, fun x hx => ?_, fun x hx => ?_, ?_, ?_⟩
  · rcases List.mem_append.1 hx with hx | hx
    · exact h.wts x hx
    · rw [List.mem_singleton] at hx; subst hx; exact ⟨h1, h2⟩
  · rcases List.mem_append.1 hx with hx | hx
    · exact h.dn x hx
    · rw [List.mem_singleton] at hx; subst hx; omega
  · rcases List.mem_append.1 hx with hx | hx
    · obtain ⟨g1, g2, g3⟩ := h.cr x hx
      obtain ⟨d1, d2, _⟩ := h.dn x hx
      have d0 : x.done = 0 := by omega
      rw [d0] at g1 ⊢
      refine ⟨by rw [g1]; simp, by omega, g3⟩
    · rw [List.mem_singleton] at hx; subst hx; rw [h3, h5]; exact ⟨by simp, by omega, by omega⟩
  · rw [List.map_append, sum_append, h.sw]; simp
  · rw [List.map_append, sum_append, h.sd]; simp [h5]
theorem Fai.facts {w : World} {B n : Nat} {l0 : List Int} {jv : Value} {W T : Int} (h : Fai w B n l0 jv W T) (hn : n ≤ 12) : W ≤ 192 ∧ 0 ≤ W ∧ (0 < W → 0 < n) := by
  obtain ⟨⟨bank, v, l, hL, h1, h2, h3, h4⟩, hz⟩ := h
  have := h3.W_le
  have := len_of_ids h2
  omega
/-- one fair pick -/
theorem Fai.pick {w : World} {B n : Nat} {l0 : List Int} {jv : Value} {W T : Int} (h : Fai w B n l0 jv W T) (hn : n ≤ 12) (h0 : 0 < n) (hT : T ≤ 1000) :
    Calls Try.prog 20 #[.pointer (some ⟨B, 0, none⟩)] w fun e w' => ∃ x, e = .returned (.tuple #[.int .i64 x, .bool false, .int .i64 0]) ∧ Fai w' B n l0 jv W (T + 1) ∧ Below B w w' := by
  obtain ⟨⟨bank, v, l, hL, h1, h2, h3, h4⟩, hz⟩ := h
  have hln := len_of_ids h2
  refine (hL.fair (by omega) (by omega) hz).mono ?_
  rintro e w' ⟨hb, k, hk, rfl, hid, hleft, ⟨v', hL'⟩, hB'⟩
  obtain ⟨e1, e2⟩ := h3.next (by omega) (by omega) hT hb
  rw [e1] at hL'
  refine ⟨(k : Int) + 1, ?_, ⟨⟨_, v', _, by rw [ranB_length]; exact hL', by rw [ranB_length]; exact h1, ?_, h3.step (by omega) (by omega) hT, ?_⟩, Nat.le_trans hz hB'.size⟩, hB'⟩
  · rw [hleft] at e2
    have e3 : (bank[k].ran.left == 0) = false := e2
    rw [e3]
  · rw [← h2]
    apply List.ext_getElem (by simp [nextL])
    intro j g1 g2
    rw [List.getElem_map, List.getElem_map, nextL_get]
    split <;> rfl
  · intro j hj
    rw [nextL_get]
    split <;> exact h4 j (by simpa [nextL] using hj)
/-- the credits, and their sums -/
theorem Fai.credits {w : World} {B n : Nat} {l0 : List Int} {jv : Value} {W T : Int} (h : Fai w B n l0 jv W T) (hn : n ≤ 12) (hT : T ≤ 1000) : ∃ cs : List Int, cs.length = n ∧ cs.sum = 0 ∧ (∀ c ∈ cs, -192 ≤ c ∧ c ≤ 16000) ∧
    ∀ i (hi : i < cs.length) (w1 : World), Below w.heap.size w w1 → Calls Try.prog 16 #[.pointer (some ⟨B, 0, none⟩), .int .i64 ((i : Int) + 1)] w1 fun e w' => e = .returned (.int .i64 cs[i]) ∧ Below w1.heap.size w1 w' := by
  have hf := h.facts hn
  obtain ⟨⟨bank, v, l, hL, h1, h2, h3, h4⟩, hz⟩ := h
  have hln := len_of_ids h2
  refine ⟨l.map (·.cr), by simpa using hln, h3.crSum, fun c hc => ?_, fun i hi w1 hb => ?_⟩
  · obtain ⟨x, hx, rfl⟩ := List.mem_map.1 hc
    have := h3.cr x hx
    omega
  · have hi2 : i < l.length := by simpa using hi
    have hc : creditOf l ((i : Int) + 1) = l[i].cr := creditOf_at hi2 (id_of_ids h2 i hi2) fun j hj => by rw [id_of_ids h2 j (by omega)]; omega
    rw [List.getElem_map, ← hc]
    exact credit _ (by omega) (hL.sch.below hb)
theorem Fai.idsC {w : World} {B n : Nat} {l0 : List Int} {jv : Value} {W T : Int} (h : Fai w B n l0 jv W T) (hn : n ≤ 12) :
    Calls Try.prog 14 #[.pointer (some ⟨B, 0, none⟩)] w fun e w' => ∃ r, e = .returned r ∧ Ints w' w.heap.size r (oneTo n) ∧ Below w.heap.size w w' := by
  obtain ⟨⟨bank, v, l, hL, h1, h2, h3, h4⟩, hz⟩ := h
  have hln := len_of_ids h2
  rw [← h2]
  exact ids (by omega) hL.sch
/-- the jobs at the end of a round -/
theorem Fai.jobs {w : World} {B n : Nat} {l0 : List Int} {jv : Value} {W r : Int} (h : Fai w B n l0 jv W (W * r)) (i : Nat) (hi : i < n) : ∃ g c jb left, jv = .slice (some ⟨g, 0, none⟩) n c ∧ w.cell? ⟨g, i, none⟩ = some (jptr jb) ∧
    w.cell? ⟨jb, 1, none⟩ = some (.int .i64 (r * wOf l0 i)) ∧ w.cell? ⟨jb, 0, none⟩ = some (.int .i64 left) := by
  obtain ⟨⟨bank, v, l, hL, h1, h2, h3, h4⟩, hz⟩ := h
  have hln := len_of_ids h2
  obtain ⟨g, c, hv, d0⟩ := hL.row.at_ (i := i) (by simp; omega)
  have hib : i < bank.length := by omega
  have hil : i < l.length := by omega
  obtain ⟨k, hk, e1, e2, e3, e4⟩ := hL.link.link l[i] (List.getElem_mem hil)
  rw [id_of_ids h2 i hil] at e1
  obtain rfl : k = i := by omega
  have hj := (hL.jobs bank[k] (List.getElem_mem hk)).2
  have hd := (h3.ends l[k] (List.getElem_mem hil)).1
  rw [h4 k hil] at hd
  refine ⟨g, c, bank[k].jb, bank[k].left, ?_, ?_, ?_, cell_of_row _ _ 0 _ _ _ hj⟩
  · rw [hv, List.length_map, h1]
  · rw [List.getElem_map] at d0; exact d0
  · rw [← hd, e4]; exact cell_of_row _ _ 1 _ _ _ hj
theorem Fai.creditEnd {w : World} {B n : Nat} {l0 : List Int} {jv : Value} {W r : Int} (h : Fai w B n l0 jv W (W * r)) (hn : n ≤ 12) (i : Nat) (hi : i < n) :
    Calls Try.prog 16 #[.pointer (some ⟨B, 0, none⟩), .int .i64 ((i : Int) + 1)] w fun e w' => e = .returned (.int .i64 0) ∧ Below w.heap.size w w' := by
  obtain ⟨⟨bank, v, l, hL, h1, h2, h3, h4⟩, hz⟩ := h
  have hln := len_of_ids h2
  have hil : i < l.length := by omega
  have hc : creditOf l ((i : Int) + 1) = 0 := by rw [creditOf_at hil (id_of_ids h2 i hil) fun j hj => by rw [id_of_ids h2 j (by omega)]; omega]; exact (h3.ends _ (List.getElem_mem hil)).2
  rw [← hc]
  exact credit _ (by omega) hL.sch
theorem Fai.form {w : World} {B n : Nat} {l0 : List Int} {jv : Value} {W T : Int} (h : Fai w B n l0 jv W T) : ∃ A c, jv = .slice A n c := by
  obtain ⟨⟨bank, v, l, hL, h1, h2, h3, h4⟩, hz⟩ := h
  obtain ⟨A, c, hv⟩ := hL.row.form
  exact ⟨A, c, by rw [hv, List.length_map, h1]⟩

theorem iw2 (n : Int) : IntKind.i64.wrap n = wrap64 n := by unfold wrap64; exact IntKind.wrap_i64 n
theorem iw {n : Int} (h1 : -9223372036854775808 ≤ n) (h2 : n ≤ 9223372036854775807) : IntKind.i64.wrap n = n := by rw [iw2]; exact w64 h1 h2
theorem callK {S : World → Prop} {f : FuncId} {args : Array Value} {v : Value} (hS : ∀ w w', S w → Below w.heap.size w w' → S w') (hcall : ∀ w, S w → Calls Try.prog f args w fun e w' => e = .returned v ∧ Below w.heap.size w w') {w : World} (h : S w) :
    Calls Try.prog f args w fun e w' => e = .returned v ∧ S w' := (hcall w h).mono fun e w' ⟨he, hb⟩ => ⟨he, hS _ _ h hb⟩

set_option maxRecDepth 100000 in
set_option maxHeartbeats 2000000 in
theorem lawFair (A0 : Option Addr) (c0 : Nat) (l0 : List Int) (a : Int) (w : World) (hl0 : l0.length ≤ 9223372036854775807) (h0 : Bys w A0 l0) (ha : (Lit.int .u8 a).wf = true) :
    Calls Try.prog 7 #[.slice A0 l0.length c0, .int .u8 a] w fun e w' => e = .returned (.bool true) ∧ Below w.heap.size w w' := by
  by_cases hc1 : l0.length ≤ 12
  · obtain ⟨m, hm, hm3⟩ := tmod_nat (wfu8 ha).1 3 (by decide)
    have q1 : decide ((l0.length : Int) > 12) = false := decide_eq_false (by omega)
    clear ha
    go_enter Try.func7, Try.ntmps7
    go_wp2_with fail
    refine (awake w).mono ?_
    rintro e w1 ⟨rfl, hb1⟩
    have hz1 := hb1.size
    replace hb1 := Lib.hid hb1
    go_wp2_with fail
    refine (new_ w1).mono ?_
    rintro e w2 ⟨rfl, hs2, hb2⟩
    generalize hB : w1.heap.size = B at *
    have hz2 : B ≤ w2.heap.size := by rw [← hB]; exact hb2.size
    have hbb := Lib.hid (hb1.out.trans (hb2.mono hz1))
    have hE0 : Hid (Fai w2 B 0 l0 (.slice none 0 0) 0 0) := ⟨⟨[], _, [], ⟨hs2, by simp [Jobs], ⟨by simp, by simp, by simp⟩, Ptrs.none_ _ _⟩, rfl, rfl, ⟨by simp, by simp, by simp, by simp, by simp⟩, fun j hj => absurd hj (Nat.not_lt_zero _)⟩, hz2⟩
    clear hs2 hb2 hb1 hB
    go_wp2
    go_loopw [6, 7, 30] (fun a b c w' => ∃ (k : Nat) (t : Int), k ≤ l0.length ∧ b = .int .i64 t ∧ c = .int .i64 k ∧ Fai w' B k l0 a t 0 ∧ Below w.heap.size w w') (fun _ _ c _ => l0.length - (intOf c).toNat)
    case atStart => exact ⟨0, 0, Nat.zero_le _, rfl, rfl, hE0.out, hbb.out⟩
    case round =>
      obtain ⟨k, t, hk, rfl, rfl, hE, hB⟩ := hrel
      clear hE0 hbb
      by_cases hlt : k < l0.length
      · obtain ⟨ad0, rfl, x0, ok0⟩ := h0.below hB k hlt
        have hfac := hE.facts (by omega)
        obtain ⟨⟨bank, v, l, hL, hbk, hids, hfi, hwt⟩, hz⟩ := hE
        have hlk := len_of_ids hids
        obtain ⟨r1, hr1, hr1'⟩ := tmod_nat (wfu8 ok0).1 16 (by decide)
        subst hbk
        have hadd := Lib.hid (hL.add 0 (1 + r1) (by omega) (by omega) (by omega) (by omega) hz)
        have hB2 := Lib.hid hB
        have hwk := Lib.hid (show (1 : Int) + r1 = wOf l0 bank.length by rw [wOf_get _ _ hlt, hr1])
        have ht2 : t ≤ 192 := hfac.1
        have ht0 : 0 ≤ t := hfac.2.1
        clear hfac
        replace hL := Lib.hid hL
        replace hfi := Lib.hid hfi
        replace hwt := Lib.hid hwt
        replace hids := Lib.hid hids
        replace h0 := Lib.hid h0
        clear ok0 hB
        go_wp2_with fail
        refine hadd.out.mono ?_
        rintro e w3 ⟨rfl, hb3, hr3, eb, hnext⟩
        have hz3 := hb3.size
        replace hr3 := Lib.hid hr3
        replace hb3 := Lib.hid hb3
        replace hnext := Lib.hid hnext
        have hlen : (bank.map (·.jb)).length ≤ 1000 := by simp; omega
        clear x0 hadd
        go_wp2_with (at_builtin
                     refine wpList_appPtr _ rfl (.tmp 55) (.tmp 57) rfl B u6 _ rfl hr3.out _ wr.heap.size rfl rfl (Nat.le_trans hz hz3) hlen ?_
                     intro v5 w5 hown5 hb5 hg5)
        go_roundw
        case rel =>
          obtain ⟨v', hL'⟩ := hnext.out _ _ hown5 hg5
          refine ⟨bank.length + 1, t + (1 + r1), by omega, rfl, by go_num, ⟨⟨_, v', _, hL', by simp, by rw [List.map_append, hids.out, oneTo_succ]; rfl, hfi.out.add ht0 ⟨(bank.length : Int) + 1, 1 + r1, 0, eb, wr.heap.size, 0, 0⟩ (by show (1:Int) ≤ 1 + r1; omega) (by show (1:Int) + r1 ≤ 16; omega) rfl rfl rfl, ?_⟩, Nat.le_trans (Nat.le_trans hz hz3) hg5.size⟩, (hB2.out.trans (hb3.out.mono hz1)).trans (hb5.mono hz1)⟩
          intro j hj
          by_cases hjl : j < l.length
          · rw [List.getElem_append_left hjl]; exact hwt.out j hjl
          · have : j = l.length := by simp at hj; omega
            subst this
            rw [List.getElem_append_right (Nat.le_refl _)]
            simp only [Nat.sub_self, List.getElem_cons_zero]
            rw [hlk]; exact hwk.out
        case measure => simp [intOf]; omega
      · obtain rfl : k = l0.length := by omega
        have hfac := hE.facts hc1
        obtain ⟨jA, jc, hjv⟩ := hE.form
        subst hjv
        obtain ⟨W, rfl⟩ : ∃ W : Nat, t = W := ⟨t.toNat, by omega⟩
        have hW : W ≤ 192 := by omega
        have hWn : 0 < W → 0 < l0.length := fun h => hfac.2.2 (by omega)
        have hE1 := Lib.hid hE
        have hB1 := Lib.hid hB
        clear hE hB hfac
        go_wp2
        go_loopw [13] (fun c w' => ∃ r : Nat, r ≤ m + 1 ∧ c = .int .i64 ((r : Int) + 1) ∧ Fai w' B l0.length l0 (.slice jA l0.length jc) W ((W : Int) * r) ∧ Below w.heap.size w w') (fun c _ => m + 2 - (intOf c).toNat)
        case atStart => exact ⟨0, Nat.zero_le _, rfl, by simpa using hE1.out, hB1.out⟩
        case round =>
          obtain ⟨r, hr, rfl, hE, hB⟩ := hrel
          clear hE1 hB1
          by_cases hr2 : r ≤ m
          · have q2 : decide ((r : Int) + 1 ≤ 1 + (m : Int)) = true := decide_eq_true (by omega)
            have hE1 := Lib.hid hE
            have hB1 := Lib.hid hB
            have hWr : Hid ((W : Int) * r ≤ 576) := by
              have h1 : (W : Int) * r ≤ 192 * r := Int.mul_le_mul_of_nonneg_right (by omega) (by omega)
              show (W : Int) * r ≤ 576
              omega
            clear hE hB
            go_wp2
            go_loopw [69] (fun c w' => ∃ s : Nat, s ≤ W ∧ c = .int .i64 s ∧ Fai w' B l0.length l0 (.slice jA l0.length jc) W ((W : Int) * r + s) ∧ Below w.heap.size w w') (fun c _ => W - (intOf c).toNat)
            case atStart => exact ⟨0, Nat.zero_le _, rfl, by simpa using hE1.out, hB1.out⟩
            case round =>
              obtain ⟨s, hs, rfl, hE, hB⟩ := hrel
              clear hE1 hB1
              by_cases hlt2 : s < W
              · have hpick := Lib.hid (hE.pick hc1 (hWn (by omega)) (by have := hWr.out; omega))
                have hB2 := Lib.hid hB
                have hz := hE.lo
                clear hE hB
                go_wp2_with fail
                refine hpick.out.mono ?_
                rintro e w3 ⟨x, rfl, hE3, hb3⟩
                have hz3 := hE3.lo
                have hB3 := Lib.hid (hB2.out.trans (hb3.mono hz1))
                have hidc := Lib.hid (hE3.idsC hc1)
                have hE3h := Lib.hid hE3
                clear hE3 hb3 hpick hB2
                go_wp2_with fail
                refine hidc.out.mono ?_
                rintro e w4 ⟨ri, rfl, hri, hb4⟩
                have hE4 := hE3h.out.below hb4
                have hB4 := Lib.hid (hB3.out.trans (hb4.mono (Nat.le_trans hz1 hz3)))
                have hz4 := hE4.lo
                obtain ⟨iA, ic, rfl⟩ := hri.form
                rw [oneTo_length] at hri
                rw [oneTo_length]
                obtain ⟨cs, hcl, hcs, hcb, hcc⟩ := hE4.credits hc1 (by have := hWr.out; omega)
                have hE4h := Lib.hid hE4
                replace hri := Lib.hid hri
                replace hcs := Lib.hid hcs
                replace hcb := Lib.hid hcb
                clear hb4 hidc hE3h hE4 hB3
                go_wp2
                go_loopw [17, 85] (fun a c w' => ∃ i : Nat, i ≤ l0.length ∧ a = .int .i64 (cs.take i).sum ∧ c = .int .i64 i ∧ Below w4.heap.size w4 w') (fun _ c _ => l0.length - (intOf c).toNat)
                case atStart => exact ⟨0, Nat.zero_le _, rfl, rfl, Below.refl _ _⟩
                case round =>
                  obtain ⟨i, hi, rfl, rfl, hB5⟩ := hrel
                  by_cases hlt3 : i < l0.length
                  · obtain ⟨g, c, hv, d0⟩ := (hri.out.below hB5).at_ (i := i) (by rw [oneTo_length]; exact hlt3)
                    rw [oneTo_length] at hv
                    cases hv
                    rw [oneTo_get] at d0
                    have hic : i < cs.length := by omega
                    have hcr := Lib.hid (hcc i hic wr hB5)
                    have hts := Lib.hid (show (cs.take (i + 1)).sum = (cs.take i).sum + cs[i] by rw [List.take_succ_eq_append_getElem hic, sum_append]; simp)
                    have hb1 := hcb.out cs[i] (List.getElem_mem hic)
                    have hb2 := sum_le (fun c : Int => c) 16000 (cs.take i) (fun c hc => (hcb.out c (List.mem_of_mem_take hc)).2) (by decide)
                    have hb3 := sum_ge (fun c : Int => c) 192 (cs.take i) (fun c hc => (hcb.out c (List.mem_of_mem_take hc)).1) (by decide)
                    rw [List.map_id'] at hb2 hb3
                    have hb4 : ((cs.take i).length : Int) ≤ 12 := by simp; omega
                    have hb5 : -2304 ≤ (cs.take i).sum ∧ (cs.take i).sum ≤ 192000 := by omega
                    obtain ⟨hb6, hb7⟩ := hb5
                    obtain ⟨hb8, hb9⟩ := hb1
                    have hB5h := Lib.hid hB5
                    clear hb2 hb3 hb4 hB5 hcc
                    generalize (cs.take i).sum = tot at *
                    generalize cs[i] = ci at *
                    go_wp2_with fail
                    refine hcr.out.mono ?_
                    rintro e w5 ⟨rfl, hb5⟩
                    have hB6 := Lib.hid (below_then hB5h.out hB5h.out.size hb5)
                    clear hb5
                    go_wp2
                    go_roundw
                    case rel => exact ⟨i + 1, by omega, by rw [hts.out], by go_num, hB6.out⟩
                    case measure => simp [intOf]; omega
                  · obtain rfl : i = l0.length := by omega
                    have hsum : (cs.take l0.length).sum = 0 := by rw [← hcl, List.take_length]; exact hcs.out
                    rw [hsum]
                    have hE5 := Lib.hid (hE4h.out.below hB5)
                    have hB5h := Lib.hid (hB4.out.trans (hB5.mono (Nat.le_trans hz1 hz4)))
                    clear hcc hB5 hsum
                    go_wp2
                    go_roundw
                    case rel => exact ⟨s + 1, by omega, by go_num, by have := hE5.out; rw [Int.add_assoc] at this; exact this, hB5h.out⟩
                    case measure => simp [intOf]; omega
              · obtain rfl : s = W := by omega
                have hE2 : Fai wr B l0.length l0 (.slice jA l0.length jc) s ((s : Int) * (r + 1 : Nat)) := by rw [Int.natCast_add, Int.mul_add]; simpa using hE
                have hB2 := Lib.hid hB
                have hz := hE.lo
                clear hE hB
                have hE2h := Lib.hid hE2
                clear hE2
                go_wp2
                go_loopw [100] (fun c w' => ∃ i : Nat, i ≤ l0.length ∧ c = .int .i64 i ∧ Below wr.heap.size wr w') (fun c _ => l0.length - (intOf c).toNat)
                case atStart => exact ⟨0, Nat.zero_le _, rfl, Below.refl _ _⟩
                case round =>
                  obtain ⟨i, hi, rfl, hB5⟩ := hrel
                  by_cases hlt3 : i < l0.length
                  · obtain ⟨ad0, rfl, x0, ok0⟩ := h0.below (hB2.out.trans (hB5.mono (Nat.le_trans hz1 hz))) i hlt3
                    obtain ⟨r1, hr1, hr1'⟩ := tmod_nat (wfu8 ok0).1 16 (by decide)
                    have hEw := hE2h.out.below hB5
                    obtain ⟨g, c, jb, left, hv, d0, d1, -⟩ := hEw.jobs i hlt3
                    cases hv
                    obtain ⟨D, hD⟩ : ∃ D : Int, D = ((r : Int) + 1) * (1 + r1) := ⟨_, rfl⟩
                    have hDD : ((r + 1 : Nat) : Int) * wOf l0 i = D := by rw [wOf_get _ _ hlt3, hr1, hD]; rfl
                    rw [hDD] at d1
                    have hD2 : wrap64 (((r : Int) + 1) * (1 + (r1 : Int))) = D := by
                      rw [← hD]
                      have h1 : ((r : Int) + 1) * (1 + r1) ≤ 4 * (1 + r1) := Int.mul_le_mul_of_nonneg_right (by omega) (by omega)
                      have h2 : 0 * (1 + (r1 : Int)) ≤ ((r : Int) + 1) * (1 + r1) := Int.mul_le_mul_of_nonneg_right (by omega) (by omega)
                      exact w64 (by omega) (by omega)
                    have hcr := Lib.hid (fun (W' : World) (hb : Below wr.heap.size wr W') => (hEw.below hb).creditEnd hc1 i hlt3)
                    have hne : (D != D) = false := by simp
                    have g1 : IntKind.i64.wrap (r1 : Int) = r1 := iw (by omega) (by omega)
                    have g2 : IntKind.i64.wrap (1 + (r1 : Int)) = 1 + r1 := iw (by omega) (by omega)
                    have g3 : IntKind.i64.wrap (((r : Int) + 1) * (1 + (r1 : Int))) = D := (iw2 _).trans hD2
                    have g4 : IntKind.i64.wrap ((i : Int) + 1) = i + 1 := iw (by omega) (by omega)
                    have hB5h := Lib.hid hB5
                    unfold jptr at d0
                    clear hEw ok0 hDD hB5 hD hD2
                    go_upto_region 38 with fail
                    go_cut [125] (fun v wx => v = .bool false ∧ Below wr.heap.size wr wx)
                    case first =>
                      have hk : ∀ W W' : World, (fun w' : World => w'.cell? ⟨jb, 1, none⟩ = some (.int .i64 D) ∧ w'.cell? (ad0.add i) = some (.int .u8 l0[i]) ∧ Hid (Below wr.heap.size wr w')) W → Below W.heap.size W W' → (fun w' : World => w'.cell? ⟨jb, 1, none⟩ = some (.int .i64 D) ∧ w'.cell? (ad0.add i) = some (.int .u8 l0[i]) ∧ Hid (Below wr.heap.size wr w')) W' := by
                        rintro W W' ⟨k0, k1, k2⟩ hb
                        exact ⟨cell_below hb k0, cell_below hb k1, below_then k2.out k2.out.size hb⟩
                      replace hk := Lib.hid hk
                      have hBr := Lib.hid (Below.refl wr.heap.size wr)
                      refine wp_region_noPanic ?_
                      refine wp_region_held_drew (S := (fun w' : World => w'.cell? ⟨jb, 1, none⟩ = some (.int .i64 D) ∧ w'.cell? (ad0.add i) = some (.int .u8 l0[i]) ∧ Hid (Below wr.heap.size wr w'))) (by kernel_rfl) ⟨d1, x0, below_drewN hBr.out 1⟩ (fun hHeld => ?_)
                      refine' wpAnyH_take (i := 0) (oi := { dst := some 105, op := Go.Op.move (Go.Operand.tmp 21), type := 44, pos := "law.go:118", after := #[], guard := none }) (v := _) rfl (by kernel_rfl) (by kernel_rfl) (by kernel_rfl) (fun _ _ _ h => h) (Or.inl ⟨by rfl, ?hy1⟩) (by assumption) ?rest1
                      case hy1 => (intro w hSw; (try dsimp only at hSw); go_simp; try (with_reducible rfl))
                      (try simp only [Act.put, List.setIfInBounds_toArray, List.set_cons_zero, List.set_cons_succ])
                      refine' wpAnyH_take (i := 1) (oi := { dst := some 106, op := Go.Op.nilCheck (Go.Operand.tmp 105), type := 0, pos := "law.go:118", after := #[{ on := 0, ground := Go.Ground.data }], guard := none }) (v := _) rfl (by kernel_rfl) (by kernel_rfl) (by kernel_rfl) (fun _ _ _ h => h) (Or.inl ⟨by rfl, ?hy2⟩) (by assumption) ?rest2
                      case hy2 => (intro w hSw; (try dsimp only at hSw); go_simp; try (with_reducible rfl))
                      (try simp only [Act.put, List.setIfInBounds_toArray, List.set_cons_zero, List.set_cons_succ])
                      refine' wpAnyH_take (i := 2) (oi := { dst := some 107, op := Go.Op.fieldAddr 46 (Go.Operand.tmp 106) 1, type := 0, pos := "law.go:118", after := #[{ on := 1, ground := Go.Ground.data }], guard := none }) (v := _) rfl (by kernel_rfl) (by kernel_rfl) (by kernel_rfl) (fun _ _ _ h => h) (Or.inl ⟨by rfl, ?hy3⟩) (by assumption) ?rest3
                      case hy3 => (intro w hSw; (try dsimp only at hSw); go_simp; try (with_reducible rfl))
                      (try simp only [Act.put, List.setIfInBounds_toArray, List.set_cons_zero, List.set_cons_succ])
                      refine' wpAnyH_take (i := 3) (oi := { dst := some 108, op := Go.Op.load 3 (Go.Operand.tmp 107), type := 3, pos := "law.go:118", after := #[{ on := 2, ground := Go.Ground.data }], guard := none }) (v := _) rfl (by kernel_rfl) (by kernel_rfl) (by kernel_rfl) (fun _ _ _ h => h) (Or.inl ⟨by rfl, ?hy4⟩) (by assumption) ?rest4
                      case hy4 => (intro w hSw; (try dsimp only at hSw); go_simp; try (with_reducible rfl))
                      (try simp only [Act.put, List.setIfInBounds_toArray, List.set_cons_zero, List.set_cons_succ])
                      refine' wpAnyH_take (i := 4) (oi := { dst := some 109, op := Go.Op.move (Go.Operand.tmp 13), type := 3, pos := "law.go:118", after := #[], guard := none }) (v := _) rfl (by kernel_rfl) (by kernel_rfl) (by kernel_rfl) (fun _ _ _ h => h) (Or.inl ⟨by rfl, ?hy5⟩) (by assumption) ?rest5
                      case hy5 => (intro w hSw; (try dsimp only at hSw); go_simp; try (with_reducible rfl))
                      (try simp only [Act.put, List.setIfInBounds_toArray, List.set_cons_zero, List.set_cons_succ])
                      refine' wpAnyH_take (i := 5) (oi := { dst := some 110, op := Go.Op.move (Go.Operand.tmp 0), type := 53, pos := "law.go:118", after := #[], guard := none }) (v := _) rfl (by kernel_rfl) (by kernel_rfl) (by kernel_rfl) (fun _ _ _ h => h) (Or.inl ⟨by rfl, ?hy6⟩) (by assumption) ?rest6
                      case hy6 => (intro w hSw; (try dsimp only at hSw); go_simp; try (with_reducible rfl))
                      (try simp only [Act.put, List.setIfInBounds_toArray, List.set_cons_zero, List.set_cons_succ])
                      refine' wpAnyH_take (i := 6) (oi := { dst := some 111, op := Go.Op.move (Go.Operand.tmp 20), type := 3, pos := "law.go:118", after := #[], guard := none }) (v := _) rfl (by kernel_rfl) (by kernel_rfl) (by kernel_rfl) (fun _ _ _ h => h) (Or.inl ⟨by rfl, ?hy7⟩) (by assumption) ?rest7
                      case hy7 => (intro w hSw; (try dsimp only at hSw); go_simp; try (with_reducible rfl))
                      (try simp only [Act.put, List.setIfInBounds_toArray, List.set_cons_zero, List.set_cons_succ])
                      refine' wpAnyH_take (i := 7) (oi := { dst := some 112, op := Go.Op.indexAddr 53 (Go.Operand.tmp 110) (Go.Operand.tmp 111), type := 0, pos := "law.go:118", after := #[{ on := 5, ground := Go.Ground.data }, { on := 6, ground := Go.Ground.data }], guard := none }) (v := _) rfl (by kernel_rfl) (by kernel_rfl) (by kernel_rfl) (fun _ _ _ h => h) (Or.inl ⟨by rfl, ?hy8⟩) (by assumption) ?rest8
                      case hy8 => (intro w hSw; (try dsimp only at hSw); go_simp; try (with_reducible rfl))
                      (try simp only [Act.put, List.setIfInBounds_toArray, List.set_cons_zero, List.set_cons_succ])
                      refine' wpAnyH_take (i := 8) (oi := { dst := some 113, op := Go.Op.load 5 (Go.Operand.tmp 112), type := 5, pos := "law.go:118", after := #[{ on := 7, ground := Go.Ground.data }], guard := none }) (v := _) rfl (by kernel_rfl) (by kernel_rfl) (by kernel_rfl) (fun _ _ _ h => h) (Or.inl ⟨by rfl, ?hy9⟩) (by assumption) ?rest9
                      case hy9 => (intro w hSw; (try dsimp only at hSw); go_simp; try (with_reducible rfl))
                      (try simp only [Act.put, List.setIfInBounds_toArray, List.set_cons_zero, List.set_cons_succ])
                      refine' wpAnyH_take (i := 9) (oi := { dst := some 114, op := Go.Op.binOp Go.BinOp.rem 5 (Go.Operand.tmp 113) (Go.Operand.const (Go.Value.int Go.IntKind.u8 16)) 5, type := 5, pos := "law.go:118", after := #[{ on := 8, ground := Go.Ground.data }], guard := none }) (v := _) rfl (by kernel_rfl) (by kernel_rfl) (by kernel_rfl) (fun _ _ _ h => h) (Or.inl ⟨by rfl, ?hy10⟩) (by assumption) ?rest10
                      case hy10 => (intro w hSw; (try dsimp only at hSw); go_simp; try (with_reducible rfl))
                      (try simp only [Act.put, List.setIfInBounds_toArray, List.set_cons_zero, List.set_cons_succ])
                      refine' wpAnyH_take (i := 10) (oi := { dst := some 115, op := Go.Op.convert 5 3 (Go.Operand.tmp 114), type := 3, pos := "law.go:118", after := #[{ on := 9, ground := Go.Ground.data }], guard := none }) (v := _) rfl (by kernel_rfl) (by kernel_rfl) (by kernel_rfl) (fun _ _ _ h => h) (Or.inl ⟨by rfl, ?hy11⟩) (by assumption) ?rest11
                      case hy11 => (intro w hSw; (try dsimp only at hSw); go_simp; try (with_reducible rfl))
                      (try simp only [Act.put, List.setIfInBounds_toArray, List.set_cons_zero, List.set_cons_succ])
                      refine' wpAnyH_take (i := 11) (oi := { dst := some 116, op := Go.Op.binOp Go.BinOp.add 3 (Go.Operand.const (Go.Value.int Go.IntKind.i64 1)) (Go.Operand.tmp 115) 3, type := 3, pos := "law.go:118", after := #[{ on := 10, ground := Go.Ground.data }], guard := none }) (v := _) rfl (by kernel_rfl) (by kernel_rfl) (by kernel_rfl) (fun _ _ _ h => h) (Or.inl ⟨by rfl, ?hy12⟩) (by assumption) ?rest12
                      case hy12 => (intro w hSw; (try dsimp only at hSw); go_simp; try (with_reducible rfl))
                      (try simp only [Act.put, List.setIfInBounds_toArray, List.set_cons_zero, List.set_cons_succ])
                      refine' wpAnyH_take (i := 12) (oi := { dst := some 117, op := Go.Op.binOp Go.BinOp.mul 3 (Go.Operand.tmp 109) (Go.Operand.tmp 116) 3, type := 3, pos := "law.go:118", after := #[{ on := 4, ground := Go.Ground.data }, { on := 11, ground := Go.Ground.data }], guard := none }) (v := _) rfl (by kernel_rfl) (by kernel_rfl) (by kernel_rfl) (fun _ _ _ h => h) (Or.inl ⟨by rfl, ?hy13⟩) (by assumption) ?rest13
                      case hy13 => (intro w hSw; (try dsimp only at hSw); go_simp; try (with_reducible rfl))
                      (try simp only [Act.put, List.setIfInBounds_toArray, List.set_cons_zero, List.set_cons_succ])
                      refine' wpAnyH_take (i := 13) (oi := { dst := some 118, op := Go.Op.binOp Go.BinOp.neq 3 (Go.Operand.tmp 108) (Go.Operand.tmp 117) 3, type := 4, pos := "law.go:118", after := #[{ on := 3, ground := Go.Ground.data }, { on := 12, ground := Go.Ground.data }], guard := none }) (v := _) rfl (by kernel_rfl) (by kernel_rfl) (by kernel_rfl) (fun _ _ _ h => h) (Or.inl ⟨by rfl, ?hy14⟩) (by assumption) ?rest14
                      case hy14 => (intro w hSw; (try dsimp only at hSw); go_simp; try (with_reducible rfl))
                      (try simp only [Act.put, List.setIfInBounds_toArray, List.set_cons_zero, List.set_cons_succ])
                      refine' wpAnyH_take (i := 14) (oi := { dst := some 119, op := Go.Op.move (Go.Operand.tmp 118), type := 4, pos := "law.go:118", after := #[{ on := 13, ground := Go.Ground.data }], guard := none }) (v := _) rfl (by kernel_rfl) (by kernel_rfl) (by kernel_rfl) (fun _ _ _ h => h) (Or.inl ⟨by rfl, ?hy15⟩) (by assumption) ?rest15
                      case hy15 => (intro w hSw; (try dsimp only at hSw); go_simp; try (with_reducible rfl))
                      (try simp only [Act.put, List.setIfInBounds_toArray, List.set_cons_zero, List.set_cons_succ])
                      refine' wpAnyH_take (i := 15) (oi := { dst := some 120, op := Go.Op.move (Go.Operand.tmp 5), type := 24, pos := "law.go:118", after := #[{ on := 14, ground := Go.Ground.guard }], guard := some (14, false) }) (v := _) rfl (by kernel_rfl) (by kernel_rfl) (by kernel_rfl) (fun _ _ _ h => h) (Or.inl ⟨by rfl, ?hy16⟩) (by assumption) ?rest16
                      case hy16 => (intro w hSw; (try dsimp only at hSw); go_simp; try (with_reducible rfl))
                      (try simp only [Act.put, List.setIfInBounds_toArray, List.set_cons_zero, List.set_cons_succ])
                      refine' wpAnyH_take (i := 16) (oi := { dst := some 121, op := Go.Op.move (Go.Operand.tmp 20), type := 3, pos := "law.go:118", after := #[{ on := 14, ground := Go.Ground.guard }], guard := some (14, false) }) (v := _) rfl (by kernel_rfl) (by kernel_rfl) (by kernel_rfl) (fun _ _ _ h => h) (Or.inl ⟨by rfl, ?hy17⟩) (by assumption) ?rest17
                      case hy17 => (intro w hSw; (try dsimp only at hSw); go_simp; try (with_reducible rfl))
                      (try simp only [Act.put, List.setIfInBounds_toArray, List.set_cons_zero, List.set_cons_succ])
                      refine' wpAnyH_take (i := 17) (oi := { dst := some 122, op := Go.Op.binOp Go.BinOp.add 3 (Go.Operand.tmp 121) (Go.Operand.const (Go.Value.int Go.IntKind.i64 1)) 3, type := 3, pos := "law.go:118", after := #[{ on := 16, ground := Go.Ground.data }, { on := 14, ground := Go.Ground.guard }], guard := some (14, false) }) (v := _) rfl (by kernel_rfl) (by kernel_rfl) (by kernel_rfl) (fun _ _ _ h => h) (Or.inl ⟨by rfl, ?hy18⟩) (by assumption) ?rest18
                      case hy18 => (intro w hSw; (try dsimp only at hSw); go_simp; try (with_reducible rfl))
                      (try simp only [Act.put, List.setIfInBounds_toArray, List.set_cons_zero, List.set_cons_succ])
                      refine wpAnyH_ready (rs := [18]) (by kernel_rfl) (by simp) ?_
                      refine AllReadyH.cons (o := { dst := some 123, op := Go.Op.call { callee := Go.Callee.value (Go.Operand.func 16), args := #[Go.Operand.tmp 120, Go.Operand.tmp 122], argTypes := #[24, 3] }, type := 3, pos := "law.go:118", after := #[{ on := 15, ground := Go.Ground.data }, { on := 17, ground := Go.Ground.data }, { on := 14, ground := Go.Ground.chain }, { on := 14, ground := Go.Ground.guard }], guard := some (14, false) }) rfl (fun K hK => ?_) AllReadyH.nil
                      go_simp
                      refine (callK (S := (fun w' : World => w'.cell? ⟨jb, 1, none⟩ = some (.int .i64 D) ∧ w'.cell? (ad0.add i) = some (.int .u8 l0[i]) ∧ Hid (Below wr.heap.size wr w'))) hk.out (fun W hS => hcr.out W hS.2.2.out) (by assumption)).mono ?_
                      rintro e w' ⟨rfl, hq0, hq1, hq2⟩
                      refine hK.out _ _ ⟨hq0, hq1, hq2⟩ (fun hHeld => ?_)
                      clear hK K
                      (try simp only [Act.put, List.setIfInBounds_toArray, List.set_cons_zero, List.set_cons_succ])
                      refine' wpAnyH_take (i := 19) (oi := { dst := some 124, op := Go.Op.binOp Go.BinOp.neq 3 (Go.Operand.tmp 123) (Go.Operand.const (Go.Value.int Go.IntKind.i64 0)) 3, type := 4, pos := "law.go:118", after := #[{ on := 18, ground := Go.Ground.data }, { on := 14, ground := Go.Ground.guard }], guard := some (14, false) }) (v := _) rfl (by kernel_rfl) (by kernel_rfl) (by kernel_rfl) (fun _ _ _ h => h) (Or.inl ⟨by rfl, ?hy19⟩) (by assumption) ?rest19
                      case hy19 => (intro w hSw; (try dsimp only at hSw); go_simp; try (with_reducible rfl))
                      (try simp only [Act.put, List.setIfInBounds_toArray, List.set_cons_zero, List.set_cons_succ])
                      refine' wpAnyH_take (i := 20) (oi := { dst := some 125, op := Go.Op.pick (Go.Operand.tmp 119) (Go.Operand.const (Go.Value.bool true)) (Go.Operand.tmp 124), type := 4, pos := "law.go:118", after := #[{ on := 14, ground := Go.Ground.data }, { on := 19, ground := Go.Ground.data }], guard := none }) (v := _) rfl (by kernel_rfl) (by kernel_rfl) (by kernel_rfl) (fun _ _ _ h => h) (Or.inl ⟨by rfl, ?hy20⟩) (by assumption) ?rest20
                      case hy20 => (intro w hSw; (try dsimp only at hSw); go_simp; try (with_reducible rfl))
                      (try simp only [Act.put, List.setIfInBounds_toArray, List.set_cons_zero, List.set_cons_succ])
                      refine wpAnyH_done (by kernel_rfl) ?_ _
                      refine NoPanic.normal ?_
                      all_goals go_wp2_with fail
                      all_goals go_meet
                      all_goals exact ⟨rfl, hq2.out⟩
                    case rest =>
                      obtain ⟨rfl, hb1⟩ := hcut
                      have hB6 := Lib.hid (below_then hB5h.out hB5h.out.size hb1)
                      clear hb1
                      go_wp2
                      go_roundw
                      case rel => exact ⟨i + 1, by omega, by go_num, hB6.out⟩
                      case measure => simp [intOf]; omega
                  · obtain rfl : i = l0.length := by omega
                    have hE5 := Lib.hid (hE2h.out.below hB5)
                    have hB5h := Lib.hid (hB2.out.trans (hB5.mono (Nat.le_trans hz1 hz)))
                    clear hB5
                    go_wp2
                    go_roundw
                    case rel => exact ⟨r + 1, by omega, by go_num, hE5.out, hB5h.out⟩
                    case measure => simp [intOf]; omega
          · obtain rfl : r = m + 1 := by omega
            have q2 : decide (((m + 1 : Nat) : Int) + 1 ≤ 1 + (m : Int)) = false := decide_eq_false (by omega)
            have hB1 := Lib.hid hB
            clear hE hB
            go_wp2
            go_ret
            exact ⟨rfl, hB1.out⟩
  · have q1 : decide ((l0.length : Int) > 12) = true := decide_eq_true (by omega)
    go_enter Try.func7, Try.ntmps7
    go_wp2_with fail
    refine (awake w).mono ?_
    rintro e w1 ⟨rfl, hb1⟩
    replace hb1 := Lib.hid hb1
    go_wp2
    go_ret
    exact ⟨rfl, hb1.out⟩
end Go.Proofs.Ytkokijmgikdnfaa
