/- The walk of the law BandNewest. -/
import Derived.Test.YtmodhmcpljabcaaO
import Derived.Test.YtmodhmcpljabcaaR
namespace Go.Proofs.Ytmodhmcpljabcaa
open Go.RowKit
set_option linter.unusedVariables false

/-! The plain law. -/
theorem openTo_newest (l : List BI) (size : Int) (i : Nat) (hi : i < l.length) (hu : 0 < l[i].used) (hs : l[i].used < size) (hage : ∀ j : Nat, j ≠ i → ∀ h : j < l.length, l[j].age < l[i].age) :
    ∀ k : Nat, k ≤ l.length → openTo l size k = (if i < k then (i : Int) else openTo l size k) := by
  intro k
  induction k with
  | zero => intro _; rw [if_neg (by omega)]
  | succ k ih =>
    intro hk
    have hlt : k < l.length := by omega
    by_cases hik : i < k
    · have e := ih (by omega)
      rw [if_pos hik] at e
      rw [if_pos (by omega)]
      by_cases h1 : 0 < l[k].used
      · by_cases h2 : l[k].used < size
        · exact openTo_older hlt hi e (by have := hage k (by omega) hlt; omega)
        · rw [openTo_no2 hlt h2]; exact e
      · rw [openTo_no1 hlt h1]; exact e
    · by_cases hkk : k = i
      · subst hkk
        rw [if_pos (by omega)]
        by_cases hb : openTo l size k < 0
        · exact openTo_take hlt hu hs hb
        · have hr := openTo_range l size k
          obtain ⟨j, hj⟩ : ∃ j : Nat, openTo l size k = j := ⟨(openTo l size k).toNat, by omega⟩
          exact openTo_newer hlt (by omega) hu hs hj (hage j (by omega) (by omega))
      · rw [if_neg (by omega)]
theorem opn_newest (l : List BI) (size now : Int) (i : Nat) (hi : i < l.length) (hv : vld l size = true) (h2 : 2 ≤ size) (h0 : l[i].used = 0) (hs63 : size ≤ 9223372036854775807) (hage : ∀ b ∈ l, b.age < now) :
    opn (l.set i (appB now l[i])) size = i := by
  have hm := vld_mem hv hi
  have e1 : (appB now l[i]).used = 1 := by simp only [appB]; rw [h0]; exact w64 (by omega) (by omega)
  have e2 : (appB now l[i]).live = l[i].live + 1 := by simp only [appB]; exact w64 (by omega) (by omega)
  have hv' : vld (l.set i (appB now l[i])) size = true := vld_set hv (by rw [e1, e2]; omega)
  have hl : (l.set i (appB now l[i])).length = l.length := List.length_set
  have hi' : i < (l.set i (appB now l[i])).length := by omega
  have hg : (l.set i (appB now l[i]))[i] = appB now l[i] := List.getElem_set_self hi'
  unfold opn
  rw [if_pos hv']
  have k := openTo_newest (l.set i (appB now l[i])) size i hi' (by rw [hg, e1]; omega) (by rw [hg, e1]; omega) (fun j hj h => by
    rw [hg, List.getElem_set_ne (by omega)]
    exact hage _ (List.getElem_mem _)) (l.set i (appB now l[i])).length (Nat.le_refl _)
  rw [if_pos hi'] at k
  exact k
theorem free_set (l : List BI) (i : Nat) (b : BI) (hi : i < l.length) (h0 : l[i].used = 0) (hb : b.used ≠ 0) : freeN l = freeN (l.set i b) + 1 := by
  induction l generalizing i with
  | nil => simp at hi
  | cons c l ih =>
    cases i with
    | zero =>
      simp only [List.getElem_cons_zero] at h0
      simp [freeN, h0, hb]
    | succ i =>
      have k := ih i (by simpa using hi) (by simpa using h0)
      unfold freeN at k ⊢
      simp only [List.set_cons_succ, List.filter_cons]
      split
      · simp only [List.length_cons]; omega
      · omega

theorem freeT (A : Option Addr) (c : Nat) (l : List BI) (m : Int) (w : World) (hl : l.length ≤ 1000) (h : Bs w A l) (hm : (freeN l : Int) = m) :
    Calls Try.prog 12 #[.slice A l.length c] w fun e w' => e = .returned (.int .i64 m) ∧ Below w.heap.size w w' := by
  have := bandFree A c l w hl h
  rwa [hm] at this
theorem openT (A : Option Addr) (c : Nat) (l : List BI) (size m : Int) (w : World) (hl : l.length ≤ 1000) (h : Bs w A l) (hm : opn l size = m) :
    Calls Try.prog 14 #[.slice A l.length c, .int .i64 size] w fun e w' => e = .returned (.int .i64 m) ∧ Below w.heap.size w w' := by
  have := bandOpen A c l size w hl h
  rwa [hm] at this
/-- a call that only makes memory keeps three cells and the frame -/
theorem callS {f : FuncId} {args : Array Value} {v : Value} (W0 : World) (g : Nat) (A : Option Addr) (n c : Nat) (size band : Int) (hcall : ∀ w, Below W0.heap.size W0 w → Calls Try.prog f args w fun e w' => e = .returned v ∧ Below w.heap.size w w') (w : World)
    (c0 : w.cell? ⟨g, 0, none⟩ = some (.slice A n c)) (c1 : w.cell? ⟨g, 1, none⟩ = some (.int .i64 size)) (c2 : w.cell? ⟨g, 2, none⟩ = some (.int .i64 band)) (hB : Hid (Below W0.heap.size W0 w)) :
    Calls Try.prog f args w fun e w' => e = .returned v ∧ (w'.cell? ⟨g, 0, none⟩ = some (.slice A n c) ∧ w'.cell? ⟨g, 1, none⟩ = some (.int .i64 size) ∧ w'.cell? ⟨g, 2, none⟩ = some (.int .i64 band) ∧ Hid (Below W0.heap.size W0 w')) :=
  (hcall w hB.out).mono fun e w' ⟨he, hb⟩ => ⟨he, cell_below hb c0, cell_below hb c1, cell_below hb c2, below_then hB.out hB.out.size hb⟩

set_option maxHeartbeats 2000000 in
theorem lawNewest (A : Option Addr) (c : Nat) (l : List BI) (size band now : Int) (w : World) (hl : l.length ≤ 9223372036854775807) (h : Bs w A l) (hok : ∀ b ∈ l, okB b) (hsz : (Lit.int .i64 size).wf = true) :
    Calls Try.prog 5 #[.agg #[.slice A l.length c, .int .i64 size, .int .i64 band, .int .u64 now]] w fun e w' => e = .returned (.bool true) ∧ Below w.heap.size w w' := by
  have hb0 : Below w.heap.size w (w.alloc (.cells #[.slice A l.length c, .int .i64 size, .int .i64 band, .int .u64 now] 29)) := (Below.refl _ _).alloc (Nat.le_refl _) _
  have hc := Cnt.new w A l.length c size band now
  have hs63 := (wf64 hsz).2
  replace h := h.below hb0
  cases hv : vld l size with
  | false =>
    have hv' := Lib.hid hv
    clear hv
    go_enter Try.func5, Try.ntmps5
    go_wp2_with fail
    generalize w.alloc _ = W at *
    refine (awake _).mono ?_
    rintro e w1 ⟨rfl, hb1⟩
    replace h := h.below hb1
    replace hc := hc.below hb1
    replace hb0 := below_then hb0 hb0.size hb1
    clear hb1
    obtain ⟨hc0, hc1, hc2, hc3⟩ := id hc
    go_wp2_with fail
    refine (refValid A c l size _ hl h).mono ?_
    rintro e w2 ⟨rfl, hq⟩
    have hb1 := hq.below
    clear hq
    replace h := h.below hb1
    replace hc := hc.below hb1
    replace hb0 := below_then hb0 hb0.size hb1
    clear hb1 hc0 hc1 hc2 hc3
    obtain ⟨hc0, hc1, hc2, hc3⟩ := id hc
    rw [hv'.out]
    go_wp2_with fail
    refine (awake _).mono ?_
    rintro e w3 ⟨rfl, hb1⟩
    go_wp2
    go_ret
    exact ⟨rfl, below_then hb0 hb0.size hb1⟩
  | true =>
    have hv' := Lib.hid hv
    have hl64 := ((vld_iff _ _).1 hv).2.1
    have hl1 : l.length ≤ 1000 := by omega
    clear hv
    by_cases h2 : size < 2
    · go_enter Try.func5, Try.ntmps5
      go_wp2_with fail
      generalize w.alloc _ = W at *
      refine (awake _).mono ?_
      rintro e w1 ⟨rfl, hb1⟩
      replace h := h.below hb1
      replace hc := hc.below hb1
      replace hb0 := below_then hb0 hb0.size hb1
      clear hb1
      obtain ⟨hc0, hc1, hc2, hc3⟩ := id hc
      go_wp2_with fail
      refine (refValid A c l size _ hl h).mono ?_
      rintro e w2 ⟨rfl, hq⟩
      have hb1 := hq.below
      clear hq
      replace h := h.below hb1
      replace hc := hc.below hb1
      replace hb0 := below_then hb0 hb0.size hb1
      clear hb1 hc0 hc1 hc2 hc3
      obtain ⟨hc0, hc1, hc2, hc3⟩ := id hc
      rw [hv'.out]
      go_wp2_with fail
      refine (awake _).mono ?_
      rintro e w3 ⟨rfl, hb1⟩
      go_wp2
      go_ret
      exact ⟨rfl, below_then hb0 hb0.size hb1⟩
    · have h2' : 2 ≤ size := by omega
      clear h2
      rcases in_or band (l := l) with ⟨i, rfl, hi⟩ | ho
      · by_cases hu : l[i].used = 0
        · have hu' := Lib.hid hu
          have bu : (l[i].used != 0) = false := by rw [hu]; rfl
          clear hu
          go_enter Try.func5, Try.ntmps5
          go_wp2_with fail
          generalize w.alloc _ = W at *
          refine (awake _).mono ?_
          rintro e w1 ⟨rfl, hb1⟩
          replace h := h.below hb1
          replace hc := hc.below hb1
          replace hb0 := below_then hb0 hb0.size hb1
          clear hb1
          obtain ⟨hc0, hc1, hc2, hc3⟩ := id hc
          go_wp2_with fail
          refine (refValid A c l size _ hl h).mono ?_
          rintro e w2 ⟨rfl, hq⟩
          have hb1 := hq.below
          clear hq
          replace h := h.below hb1
          replace hc := hc.below hb1
          replace hb0 := below_then hb0 hb0.size hb1
          clear hb1 hc0 hc1 hc2 hc3
          obtain ⟨hc0, hc1, hc2, hc3⟩ := id hc
          rw [hv'.out]
          obtain ⟨ad, rfl, x0, x1, x2, x3⟩ := h.at_ hi
          go_wp2
          go_loopw [3] (fun v w' => ∃ k : Nat, k ≤ l.length ∧ v = .int .i64 k ∧ Hid (∀ b ∈ l.take k, b.age < now) ∧ Quiet w2 w') (fun v _ => l.length - (intOf v).toNat)
          case atStart => exact ⟨0, Nat.zero_le _, rfl, (by show ∀ b ∈ List.take 0 l, b.age < now; simp), Quiet.refl _⟩
          case round =>
            clear x0 x1 x2 x3
            obtain ⟨k, hk, rfl, hn, ⟨n, rfl⟩⟩ := hrel
            by_cases hlt : k < l.length
            · obtain ⟨ad', had, y0, y1, y2, y3⟩ := h.at_ hlt
              cases had
              by_cases hage : now ≤ l[k].age
              · have d : decide (now ≤ l[k].age) = true := decide_eq_true hage
                clear hage
                go_wp2
                go_quiet (fail)
                go_wp2
                go_ret
                exact ⟨rfl, by first | exact below_drewN (below_drewN hb0 _) _ | exact below_drewN hb0 _⟩
              · have d : decide (now ≤ l[k].age) = false := decide_eq_false hage
                have hage' : l[k].age < now := by omega
                have hn2 : Hid (∀ b ∈ l.take (k + 1), b.age < now) := fun b hb => by
                  rw [List.take_succ_eq_append_getElem hlt, List.mem_append] at hb
                  rcases hb with hb | hb
                  · exact hn.out b hb
                  · simp at hb; subst hb; exact hage'
                clear hage hage'
                go_wp2
                go_quiet (fail)
                go_wp2
                go_roundw
                case rel => exact ⟨k + 1, by omega, by go_num, hn2, by repeat (first | exact Quiet.refl _ | apply Quiet.step)⟩
                case measure => simp [intOf]; omega
            · obtain rfl : k = l.length := by omega
              have hall : ∀ b ∈ l, b.age < now := fun b hb => hn.out b (by rw [List.take_length]; exact hb)
              have hvv := hv'.out
              have hr1 := appR_len l size i now
              have k1 : (appR l size i now).2 = 0 ∧ opn (appR l size i now).1 size = i ∧ freeN l = freeN (appR l size i now).1 + 1 := by
                rw [appR_in hi (by rw [hu'.out]; omega)]
                refine ⟨rfl, opn_newest l size now i hi hvv h2' hu'.out hs63 hall, free_set l i _ hi hu'.out ?_⟩
                simp only [appB]
                rw [hu'.out, w64 (by omega) (by omega)]
                omega
              clear hall hn hvv
              replace h := h.below (below_drewN (Below.refl _ _) n)
              have hc' := hc.below (below_drewN (Below.refl _ _) n)
              replace hb0 := below_drewN hb0 n
              go_wp2_with fail
              refine (bandAppend_any (some ad) c l size i now _ hl1 h).mono ?_
              rintro e w3 ⟨A1, c1, rfl, h1, hb1⟩
              replace h := h.below hb1
              replace hc := hc'.below hb1
              replace hb0 := below_then hb0 hb0.size hb1
              clear hb1 hc0 hc1 hc2 hc3 hc'
              obtain ⟨hc0, hc1, hc2, hc3⟩ := id hc
              generalize appR l size i now = r at *
              obtain ⟨r1, r2⟩ := r
              simp only at h1 hr1 k1 ⊢
              obtain ⟨rfl, t1, t2⟩ := k1
              have hOpen : ∀ w', Below w3.heap.size w3 w' → Calls Try.prog 14 #[.slice A1 r1.length c1, .int .i64 size] w' fun e w'' => e = .returned (.int .i64 i) ∧ Below w'.heap.size w' w'' := fun w' hb => openT A1 c1 r1 size i w' (by omega) (h1.below hb) t1
              have hF1 : ∀ w', Below w3.heap.size w3 w' → Calls Try.prog 12 #[.slice A1 r1.length c1] w' fun e w'' => e = .returned (.int .i64 (freeN r1 : Int)) ∧ Below w'.heap.size w' w'' := fun w' hb => freeT A1 c1 r1 _ w' (by omega) (h1.below hb) rfl
              have hF2 : ∀ w', Below w3.heap.size w3 w' → Calls Try.prog 12 #[.slice (some ad) l.length c] w' fun e w'' => e = .returned (.int .i64 ((freeN r1 : Int) + 1)) ∧ Below w'.heap.size w' w'' := fun w' hb => freeT (some ad) c l _ w' (by omega) (h.below hb) (by omega)
              have hfr : (freeN r1 : Int) ≤ 1000 := by have := free_le r1; omega
              replace hOpen := Lib.hid hOpen
              replace hF1 := Lib.hid hF1
              replace hF2 := Lib.hid hF2
              clear t1 t2 hc
              go_wp2
              go_region_held3 (fun w' => w'.cell? ⟨w.heap.size, 0, none⟩ = some (.slice (some ad) l.length c) ∧ w'.cell? ⟨w.heap.size, 1, none⟩ = some (.int .i64 size) ∧ w'.cell? ⟨w.heap.size, 2, none⟩ = some (.int .i64 i) ∧ Hid (Below w3.heap.size w3 w')) (first | (exact ⟨hc0, hc1, hc2, below_drewN (Below.refl _ _) 1⟩) | go_keep)
                (first | (go_at_call 14; refine (callS w3 w.heap.size (some ad) l.length c size i hOpen.out _ (by go_keep) (by go_keep) (by go_keep) (by simp [*])).mono ?_; rintro e w' ⟨rfl, hq0, hq1, hq2, hq3⟩)
                       | (go_at_call 12; (with_reducible refine (callS w3 w.heap.size (some ad) l.length c size i hF1.out _ (by go_keep) (by go_keep) (by go_keep) (by simp [*])).mono ?_); rintro e w' ⟨rfl, hq0, hq1, hq2, hq3⟩)
                       | (go_at_call 12; (with_reducible refine (callS w3 w.heap.size (some ad) l.length c size i hF2.out _ (by go_keep) (by go_keep) (by go_keep) (by simp [*])).mono ?_); rintro e w' ⟨rfl, hq0, hq1, hq2, hq3⟩))
              all_goals go_wp2
              all_goals go_ret
              all_goals exact ⟨by show Ending.returned (.bool (((freeN r1 : Nat) : Int) == IntKind.i64.wrap (freeN r1))) = _; rw [IntWalk.i64_in _ (by omega)]; simp, below_then hb0 hb0.size hq3.out⟩
        · have bu : (l[i].used != 0) = true := bne_iff_ne.2 hu
          clear hu
          go_enter Try.func5, Try.ntmps5
          go_wp2_with fail
          generalize w.alloc _ = W at *
          refine (awake _).mono ?_
          rintro e w1 ⟨rfl, hb1⟩
          replace h := h.below hb1
          replace hc := hc.below hb1
          replace hb0 := below_then hb0 hb0.size hb1
          clear hb1
          obtain ⟨hc0, hc1, hc2, hc3⟩ := id hc
          go_wp2_with fail
          refine (refValid A c l size _ hl h).mono ?_
          rintro e w2 ⟨rfl, hq⟩
          have hb1 := hq.below
          clear hq
          replace h := h.below hb1
          replace hc := hc.below hb1
          replace hb0 := below_then hb0 hb0.size hb1
          clear hb1 hc0 hc1 hc2 hc3
          obtain ⟨hc0, hc1, hc2, hc3⟩ := id hc
          rw [hv'.out]
          obtain ⟨ad, rfl, x0, x1, x2, x3⟩ := h.at_ hi
          go_wp2_with fail
          refine (awake _).mono ?_
          rintro e w3 ⟨rfl, hb1⟩
          go_wp2
          go_ret
          exact ⟨rfl, below_then hb0 hb0.size hb1⟩
      · by_cases hn : band < 0
        · clear ho
          go_enter Try.func5, Try.ntmps5
          go_wp2_with fail
          generalize w.alloc _ = W at *
          refine (awake _).mono ?_
          rintro e w1 ⟨rfl, hb1⟩
          replace h := h.below hb1
          replace hc := hc.below hb1
          replace hb0 := below_then hb0 hb0.size hb1
          clear hb1
          obtain ⟨hc0, hc1, hc2, hc3⟩ := id hc
          go_wp2_with fail
          refine (refValid A c l size _ hl h).mono ?_
          rintro e w2 ⟨rfl, hq⟩
          have hb1 := hq.below
          clear hq
          replace h := h.below hb1
          replace hc := hc.below hb1
          replace hb0 := below_then hb0 hb0.size hb1
          clear hb1 hc0 hc1 hc2 hc3
          obtain ⟨hc0, hc1, hc2, hc3⟩ := id hc
          rw [hv'.out]
          go_wp2_with fail
          refine (awake _).mono ?_
          rintro e w3 ⟨rfl, hb1⟩
          go_wp2
          go_ret
          exact ⟨rfl, below_then hb0 hb0.size hb1⟩
        · have hge : (l.length : Int) ≤ band := by omega
          have hn' : 0 ≤ band := by omega
          clear ho hn
          go_enter Try.func5, Try.ntmps5
          go_wp2_with fail
          generalize w.alloc _ = W at *
          refine (awake _).mono ?_
          rintro e w1 ⟨rfl, hb1⟩
          replace h := h.below hb1
          replace hc := hc.below hb1
          replace hb0 := below_then hb0 hb0.size hb1
          clear hb1
          obtain ⟨hc0, hc1, hc2, hc3⟩ := id hc
          go_wp2_with fail
          refine (refValid A c l size _ hl h).mono ?_
          rintro e w2 ⟨rfl, hq⟩
          have hb1 := hq.below
          clear hq
          replace h := h.below hb1
          replace hc := hc.below hb1
          replace hb0 := below_then hb0 hb0.size hb1
          clear hb1 hc0 hc1 hc2 hc3
          obtain ⟨hc0, hc1, hc2, hc3⟩ := id hc
          rw [hv'.out]
          go_wp2_with fail
          refine (awake _).mono ?_
          rintro e w3 ⟨rfl, hb1⟩
          go_wp2
          go_ret
          exact ⟨rfl, below_then hb0 hb0.size hb1⟩
end Go.Proofs.Ytmodhmcpljabcaa
