/- Contracts of the reference's Credit and IDs. -/
import Derived.Test.YtkokijmgikdnfaaT
namespace Go.Proofs.Ytkokijmgikdnfaa
open Go.RowKit
set_option linter.unusedVariables false

set_option maxHeartbeats 1000000 in
theorem rCredit {w : World} {base S : Nat} {v : Value} {l : List Ent} {last : Int} (id : Int) (hl : l.length ≤ 1000) (h : RS w base S v l last) :
    Calls Try.prog 17 #[.pointer (some ⟨S, 0, none⟩), .int .i64 id] w fun e w' => e = .returned (.int .i64 (creditOf l id)) ∧ Below w.heap.size w w' := by
  obtain ⟨A, c, rfl⟩ := h.form
  have ch := h.head0
  have hl2 : (l.length : Int) ≤ 1000 := by omega
  go_enter Try.func17, Try.ntmps17
  go_wp2
  go_loopw [5] (fun b w' => ∃ k : Nat, k ≤ l.length ∧ b = .int .i64 k ∧ Hid (∀ j (hj : j < l.length), j < k → l[j].id ≠ id) ∧ w' = w) (fun b _ => l.length - (intOf b).toNat)
  case atStart => exact ⟨0, Nat.zero_le _, rfl, fun j _ hj => absurd hj (Nat.not_lt_zero _), rfl⟩
  case round =>
    obtain ⟨k, hk, rfl, hn, rfl⟩ := hrel
    by_cases hlt : k < l.length
    · obtain ⟨g, c', hv, hr⟩ := h.rrow (by omega)
      cases hv
      obtain ⟨d0, d1, d2, d3⟩ := hr.cells hlt
      cases hb : (l[k].id == id) with
      | true =>
        have hc := Lib.hid (creditOf_at hlt (by simpa using hb) fun j hj => hn.out j (by omega) hj)
        clear hn hr
        go_wp2
        go_ret
        exact ⟨by rw [hc.out]; rfl, Below.refl _ _⟩
      | false =>
        have hn2 : Hid (∀ j (hj : j < l.length), j < k + 1 → l[j].id ≠ id) := fun j hj hjk => by
          by_cases e : j = k
          · subst e; simpa using hb
          · exact hn.out j hj (by omega)
        clear hn hr
        go_wp2
        go_roundw
        case rel => exact ⟨k + 1, by omega, by go_num, hn2, trivial⟩
        case measure => simp [intOf]; omega
    · obtain rfl : k = l.length := by omega
      have hc := Lib.hid (creditOf_none (l := l) (id := id) fun e he => by obtain ⟨j, hj, rfl⟩ := List.mem_iff_getElem.1 he; exact hn.out j hj hj)
      clear hn
      go_wp2
      go_ret
      exact ⟨by rw [hc.out]; rfl, Below.refl _ _⟩

set_option maxHeartbeats 1000000 in
theorem rIds {w : World} {base S : Nat} {v : Value} {l : List Ent} {last : Int} (hl : l.length ≤ 1000) (h : RS w base S v l last) :
    Calls Try.prog 15 #[.pointer (some ⟨S, 0, none⟩)] w fun e w' => ∃ r, e = .returned r ∧ Ints w' w.heap.size r (l.map (·.id)) ∧ Below w.heap.size w w' := by
  obtain ⟨A, c, rfl⟩ := h.form
  have hl2 : (l.length : Int) ≤ 1000 := by omega
  go_enter Try.func15, Try.ntmps15
  go_wp2
  go_loopw [3, 4] (fun a b w' => ∃ k : Nat, k ≤ l.length ∧ b = .int .i64 k ∧ Ints w' w.heap.size a ((l.take k).map (·.id)) ∧ Below w.heap.size w w') (fun _ b _ => l.length - (intOf b).toNat)
  case atStart => exact ⟨0, Nat.zero_le _, rfl, Ints.none_ _ _, Below.refl _ _⟩
  case round =>
    obtain ⟨k, hk, rfl, hi, hB⟩ := hrel
    have h1 := h.below hB
    have ch := h1.head0
    by_cases hlt : k < l.length
    · obtain ⟨g, c', hv, hr⟩ := h1.rrow (by omega)
      cases hv
      obtain ⟨d0, d1, d2, d3⟩ := hr.cells hlt
      have hlen : ((l.take k).map (·.id)).length ≤ 1000 := by simp; omega
      have hsz := hB.size
      replace hB := Lib.hid hB
      replace hi := Lib.hid hi
      have htk := Lib.hid (show (l.take (k + 1)).map (·.id) = (l.take k).map (·.id) ++ [l[k].id] by rw [List.take_succ_eq_append_getElem hlt, List.map_append]; rfl)
      clear h1 hr
      go_wp2_with (at_builtin
                   refine wpList_appInt _ rfl (.tmp 14) (.tmp 23) rfl w.heap.size _ _ rfl hi.out _ _ rfl rfl hsz hlen ?_
                   intro v1 w1 hown1 hb1 hg1)
      go_roundw
      case rel => exact ⟨k + 1, by omega, by go_num, by rw [htk.out]; exact hown1, hB.out.trans hb1⟩
      case measure => simp [intOf]; omega
    · obtain rfl : k = l.length := by omega
      rw [List.take_length] at hi
      replace hB := Lib.hid hB
      replace hi := Lib.hid hi
      clear h1
      go_wp2
      go_ret
      exact ⟨_, rfl, hi.out, hB.out⟩
end Go.Proofs.Ytkokijmgikdnfaa
