/- The walk of the law BandAppend. -/
import Derived.Test.YtmodhmcpljabcaaM
namespace Go.Proofs.Ytmodhmcpljabcaa
open Go.RowKit
set_option linter.unusedVariables false

theorem same_nil (w : World) : Calls Try.prog 19 #[.slice none 0 0, .slice none 0 0] w fun e w' => e = .returned (.bool true) ∧ Quiet w w' :=
  refSame none 0 [] none 0 [] w (by simp) (by simp) (Bs.nil _ _) (Bs.nil _ _)

set_option maxHeartbeats 8000000 in
theorem lawAppend (A : Option Addr) (c : Nat) (l : List BI) (size band now : Int) (w : World) (hl : l.length ≤ 9223372036854775807) (h : Bs w A l) :
    Calls Try.prog 4 #[.agg #[.slice A l.length c, .int .i64 size, .int .i64 band, .int .u64 now]] w fun e w' => e = .returned (.bool true) ∧ Below w.heap.size w w' := by
  have hb0 : Below w.heap.size w (w.alloc (.cells #[.slice A l.length c, .int .i64 size, .int .i64 band, .int .u64 now] 29)) := (Below.refl _ _).alloc (Nat.le_refl _) _
  have hc := Cnt.new w A l.length c size band now
  by_cases hlt : l.length ≤ 100
  · have hl1 : l.length ≤ 1000 := by omega
    have hself := Lib.hid (sameL_self l)
    replace h := h.below hb0
    go_enter Try.func4, Try.ntmps4
    go_wp2_with fail
    generalize w.alloc _ = W at *
    refine (awake _).mono ?_
    rintro e w1 ⟨rfl, hb1⟩
    replace h := h.below hb1
    replace hc := hc.below hb1
    replace hb0 := below_then hb0 hb0.size hb1
    clear hb1
    obtain ⟨hc0, hc1, hc2, hc3⟩ := id hc
    go_wp2_with fail
    refine (copied A c l _ hl1 h).mono ?_
    rintro e w2 ⟨v0, rfl, ho, hb1⟩
    replace h := h.below hb1
    replace hc := hc.below hb1
    replace hb0 := below_then hb0 hb0.size hb1
    clear hb1 hc0 hc1 hc2 hc3
    obtain ⟨hc0, hc1, hc2, hc3⟩ := id hc
    obtain ⟨A0, c0, rfl, ho, _⟩ := ho.slice
    by_cases hr : band < 0 ∨ (l.length : Int) ≤ band
    · go_wp2_with fail
      refine (bandAppend_range A0 c0 l size band now _ hl1 ho hr).mono ?_
      rintro e w3 ⟨rfl, hb1⟩
      replace h := h.below hb1
      replace ho := ho.below hb1
      replace hc := hc.below hb1
      replace hb0 := below_then hb0 hb0.size hb1
      clear hb1 hc0 hc1 hc2 hc3
      obtain ⟨hc0, hc1, hc2, hc3⟩ := id hc
      go_wp2_with fail
      refine (refAppend_range A c l size band now _ hl1 hr).mono ?_
      rintro e w4 ⟨rfl, hb1⟩
      replace h := h.below hb1
      replace ho := ho.below hb1
      replace hc := hc.below hb1
      replace hb0 := below_then hb0 hb0.size hb1
      clear hb1 hc0 hc1 hc2 hc3
      obtain ⟨hc0, hc1, hc2, hc3⟩ := id hc
      go_wp2_with fail
      go_loop [8] (fun v => v = .int .i64 0) (fun _ => 0)
      case atStart => rfl
      case round =>
        subst hrel
        go_wp2_with fail
        refine (same_nil _).mono ?_
        rintro e w5 ⟨rfl, hq⟩
        have hb1 := hq.below
        clear hq
        replace h := h.below hb1
        replace ho := ho.below hb1
        replace hc := hc.below hb1
        replace hb0 := below_then hb0 hb0.size hb1
        clear hb1 hc0 hc1 hc2 hc3
        obtain ⟨hc0, hc1, hc2, hc3⟩ := id hc
        go_wp2_with fail
        refine (refSame A0 c0 l A c l _ hl1 hl1 ho h).mono ?_
        rintro e w6 ⟨rfl, hq⟩
        rw [hself.out]
        go_wp2
        go_ret
        exact ⟨rfl, below_then hb0 hb0.size hq.below⟩
    · obtain ⟨i, rfl⟩ : ∃ i : Nat, band = i := ⟨band.toNat, by omega⟩
      have hi : i < l.length := by omega
      clear hr
      by_cases hfull : size ≤ l[i].used
      · go_wp2_with fail
        refine (bandAppend_no A0 c0 l size i now _ hl1 ho hi hfull).mono ?_
        rintro e w3 ⟨rfl, hb1⟩
        replace h := h.below hb1
        replace ho := ho.below hb1
        replace hc := hc.below hb1
        replace hb0 := below_then hb0 hb0.size hb1
        clear hb1 hc0 hc1 hc2 hc3
        obtain ⟨hc0, hc1, hc2, hc3⟩ := id hc
        go_wp2_with fail
        refine (refAppend_no A c l size i now _ hl1 h hi hfull).mono ?_
        rintro e w4 ⟨rfl, hb1⟩
        replace h := h.below hb1
        replace ho := ho.below hb1
        replace hc := hc.below hb1
        replace hb0 := below_then hb0 hb0.size hb1
        clear hb1 hc0 hc1 hc2 hc3
        obtain ⟨hc0, hc1, hc2, hc3⟩ := id hc
        go_wp2_with fail
        go_loop [8] (fun v => v = .int .i64 0) (fun _ => 0)
        case atStart => rfl
        case round =>
          subst hrel
          go_wp2_with fail
          refine (same_nil _).mono ?_
          rintro e w5 ⟨rfl, hq⟩
          have hb1 := hq.below
          clear hq
          replace h := h.below hb1
          replace ho := ho.below hb1
          replace hc := hc.below hb1
          replace hb0 := below_then hb0 hb0.size hb1
          clear hb1 hc0 hc1 hc2 hc3
          obtain ⟨hc0, hc1, hc2, hc3⟩ := id hc
          go_wp2_with fail
          refine (refSame A0 c0 l A c l _ hl1 hl1 ho h).mono ?_
          rintro e w6 ⟨rfl, hq⟩
          rw [hself.out]
          go_wp2
          go_ret
          exact ⟨rfl, below_then hb0 hb0.size hq.below⟩
      · have hfree : l[i].used < size := by omega
        clear hfull
        obtain ⟨l1, hl1e⟩ : ∃ l1, l1 = l.set i (appB now l[i]) := ⟨_, rfl⟩
        have hll := Lib.hid (show l1.length = l.length from by rw [hl1e]; exact List.length_set)
        have hl1e' := Lib.hid hl1e
        clear hl1e
        have hne : l1 ≠ [] := by rintro rfl; have := hll.out; simp at this; omega
        go_wp2_with fail
        refine (bandAppend_ok A0 c0 l size i now _ hl1 ho hi hfree).mono ?_
        rintro e w3 ⟨va, rfl, hoa, hb3⟩
        rw [← hl1e'.out] at hoa
        have h3 := h.below hb3
        have hc3' := hc.below hb3
        clear hc0 hc1 hc2 hc3
        obtain ⟨hc0, hc1, hc2, hc3⟩ := id hc3'
        obtain ⟨ga, ca, rfl, hga⟩ := hoa.to_ptr hne
        have hgal := (World.ownsRow.lt hoa ga rfl).2
        rw [hll.out] at hoa ⊢
        go_wp2_with fail
        refine (refAppend_ok A c l size i now _ hl1 h3 hi hfree).mono ?_
        rintro e w4 ⟨vb, rfl, hob, hb4⟩
        rw [← hl1e'.out] at hob
        replace hoa := hoa.below hb4
        obtain ⟨gb, cb, rfl, hgb⟩ := hob.to_ptr hne
        rw [hll.out] at hob ⊢
        have hB4 := below_then hb3 hb3.size hb4
        have hgab : ga ≠ gb := by omega
        have hgba : gb ≠ ga := by omega
        have hgb2 : w2.heap.size ≤ gb := by have := hb3.size; omega
        clear hc0 hc1 hc2 hc3 hc3' h3 hb3 hb4 hgal hgb
        have hl9 : l.length ≤ 9223372036854775806 := by omega
        go_wp2_with fail
        go_loopw [8] (fun v wr => ∃ (k : Nat) (la : List BI), k ≤ l.length ∧ v = .int .i64 k ∧ Hid (la.length = l.length) ∧ Own wr w2.heap.size (.slice (some ⟨ga, 0, none⟩) l.length ca) la ∧ Own wr w3.heap.size (.slice (some ⟨gb, 0, none⟩) l.length cb) la ∧ Below w2.heap.size w2 wr) (fun v _ => l.length - (intOf v).toNat)
        case atStart => exact ⟨0, l1, Nat.zero_le _, rfl, hll, hoa, hob, hB4⟩
        case round =>
          clear hoa hob hB4
          obtain ⟨k, la, hk, rfl, hla, hoa, hob, hB4⟩ := hrel
          by_cases hkl : k < l.length
          · have hka : k < la.length := by have := hla.out; omega
            obtain ⟨x0, x1, x2, x3⟩ := hoa.cellAt hka
            obtain ⟨y0, y1, y2, y3⟩ := hob.cellAt hka
            have fa := fun j => hoa.frozenAt j
            have fb := fun j => hob.frozenAt j
            have hoa2 := Lib.hid (hoa.set0 (get_at hka) (wrap64 (la[k].used + 1)))
            have hob2 := Lib.hid (hob.set0 (get_at hka) (wrap64 (la[k].used + 1)))
            go_wp2
            go_roundw
            case rel =>
              refine ⟨k + 1, la.set k ⟨wrap64 (la[k].used + 1), la[k].live, la[k].age, la[k].wear⟩, by omega, by go_num, by show _ = _; rw [List.length_set]; exact hla.out, hoa2.out.far (by simp [Value.ownBlock]; omega) _, ?_, (hB4.setCell hga _).setCell hgb2 _⟩
              exact (hob.far (p := ⟨ga, k * 4, none⟩) (by simp [Value.ownBlock]; omega) _).set0 (get_at hka) (wrap64 (la[k].used + 1))
            case measure => simp [intOf]; omega
          · obtain rfl : k = l.length := by omega
            obtain ⟨Aa, c1', ea, hba, _⟩ := hoa.slice
            obtain ⟨Ab, c2', eb, hbb, _⟩ := hob.slice
            have hla' := hla.out
            rw [← hla'] at ea eb
            cases ea
            cases eb
            have hself2 := Lib.hid (sameL_self la)
            have h4 := h.below hB4
            have ho4 := ho.below hB4
            have hc4 := hc.below hB4
            have hsm : ∀ W, Bs W (some ⟨ga, 0, none⟩) la → Bs W (some ⟨gb, 0, none⟩) la → Calls Try.prog 19 #[.slice (some ⟨ga, 0, none⟩) l.length ca, .slice (some ⟨gb, 0, none⟩) l.length cb] W fun e w' => e = .returned (.bool true) ∧ Quiet W w' := fun W ba bb => by
              have := refSame (some ⟨ga, 0, none⟩) ca la (some ⟨gb, 0, none⟩) cb la W (by omega) (by omega) ba bb
              rw [sameL_self, hla'] at this
              exact this
            clear hla'
            go_wp2_with fail
            refine (hsm _ hba hbb).mono ?_
            rintro e w5 ⟨rfl, hq⟩
            have hb1 := hq.below
            clear hq
            replace h4 := h4.below hb1
            replace ho4 := ho4.below hb1
            replace hc4 := hc4.below hb1
            have hb5 := below_then (hb0.trans (hB4.mono hb0.size)) (hb0.trans (hB4.mono hb0.size)).size hb1
            obtain ⟨hc0, hc1, hc2, hc3⟩ := hc4
            go_wp2_with fail
            refine (refSame A0 c0 l A c l _ hl1 hl1 ho4 h4).mono ?_
            rintro e w6 ⟨rfl, hq⟩
            rw [hself.out]
            go_wp2
            go_ret
            exact ⟨rfl, below_then hb5 hb5.size hq.below⟩
  · have hgt : 100 < l.length := by omega
    clear hlt
    obtain ⟨hc0, hc1, hc2, hc3⟩ := id hc
    go_enter Try.func4, Try.ntmps4
    go_wp2_with fail
    generalize w.alloc _ = W at *
    refine (awake _).mono ?_
    rintro e w1 ⟨rfl, hb1⟩
    replace hc0 := cell_below hb1 hc0
    go_wp2_with fail
    refine (awake _).mono ?_
    rintro e w2 ⟨rfl, hb2⟩
    go_wp2
    go_ret
    exact ⟨rfl, below_then (below_then hb0 hb0.size hb1) (below_then hb0 hb0.size hb1).size hb2⟩
end Go.Proofs.Ytmodhmcpljabcaa
