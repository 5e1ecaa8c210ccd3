/- Contract of the laws' wakefulness check. -/
import Derived.Test.YtkokijmgikdnfaaM
namespace Go.Proofs.Ytkokijmgikdnfaa
open Go.RowKit
set_option linter.unusedVariables false

/-- the two machines behind k fair picks -/
def awk (a b c d : Nat) : Nat → List Ent
  | 0 => [⟨1, 2, 0, a, b, 0, 0⟩, ⟨2, 1, 0, c, d, 0, 0⟩]
  | 1 => [⟨1, 2, -1, a, b, -1, 1⟩, ⟨2, 1, 1, c, d, 0, 0⟩]
  | 2 => [⟨1, 2, 1, a, b, -1, 1⟩, ⟨2, 1, -1, c, d, -1, 1⟩]
  | 3 => [⟨1, 2, 0, a, b, -2, 2⟩, ⟨2, 1, 0, c, d, -1, 1⟩]
  | 4 => [⟨1, 2, -1, a, b, -3, 3⟩, ⟨2, 1, 1, c, d, -1, 1⟩]
  | 5 => [⟨1, 2, 1, a, b, -3, 3⟩, ⟨2, 1, -1, c, d, -2, 2⟩]
  | _ => [⟨1, 2, 0, a, b, -4, 4⟩, ⟨2, 1, 0, c, d, -2, 2⟩]
def awkIds : List Int := [1, 2, 1, 1, 2, 1]

theorem awk_length (a b c d k : Nat) : (awk a b c d k).length = 2 := by unfold awk; split <;> rfl
theorem awk_ids (a b c d k : Nat) : (awk a b c d k).map (·.id) = [1, 2] := by unfold awk; split <;> rfl

theorem awk_round (a b c d k : Nat) (hk : k < 6) : ∃ h : fairB (awk a b c d k) < (fairL (awk a b c d k)).length,
    (wrap64 (((fairL (awk a b c d k))[fairB (awk a b c d k)]).left - 1) == 0) = false ∧ stepL (fairL (awk a b c d k)) (fairB (awk a b c d k)) h = awk a b c d (k + 1) ∧
    awkIds.take (k + 1) = awkIds.take k ++ [((fairL (awk a b c d k))[fairB (awk a b c d k)]).id] ∧ (((fairL (awk a b c d k))[fairB (awk a b c d k)]).jb = b ∨ ((fairL (awk a b c d k))[fairB (awk a b c d k)]).jb = d) ∧
    ∃ x, x ∈ awk a b c d k ∧ x.jb = ((fairL (awk a b c d k))[fairB (awk a b c d k)]).jb := by
  match k, hk with
  | 0, _ => exact ⟨by rw [fairL_length]; exact fairB_lt _ (by rw [awk_length]; decide), by kernel_rfl, by kernel_rfl, by kernel_rfl, .inl (by kernel_rfl), _, List.mem_cons_self .., by kernel_rfl⟩
  | 1, _ => exact ⟨by rw [fairL_length]; exact fairB_lt _ (by rw [awk_length]; decide), by kernel_rfl, by kernel_rfl, by kernel_rfl, .inr (by kernel_rfl), _, List.mem_cons_of_mem _ (List.mem_cons_self ..), by kernel_rfl⟩
  | 2, _ => exact ⟨by rw [fairL_length]; exact fairB_lt _ (by rw [awk_length]; decide), by kernel_rfl, by kernel_rfl, by kernel_rfl, .inl (by kernel_rfl), _, List.mem_cons_self .., by kernel_rfl⟩
  | 3, _ => exact ⟨by rw [fairL_length]; exact fairB_lt _ (by rw [awk_length]; decide), by kernel_rfl, by kernel_rfl, by kernel_rfl, .inl (by kernel_rfl), _, List.mem_cons_self .., by kernel_rfl⟩
  | 4, _ => exact ⟨by rw [fairL_length]; exact fairB_lt _ (by rw [awk_length]; decide), by kernel_rfl, by kernel_rfl, by kernel_rfl, .inr (by kernel_rfl), _, List.mem_cons_of_mem _ (List.mem_cons_self ..), by kernel_rfl⟩
  | 5, _ => exact ⟨by rw [fairL_length]; exact fairB_lt _ (by rw [awk_length]; decide), by kernel_rfl, by kernel_rfl, by kernel_rfl, .inl (by kernel_rfl), _, List.mem_cons_self .., by kernel_rfl⟩
theorem Sch.keepEmpty {w w' : World} {base S : Nat} {last : Int} (h : Sch w base S (.slice none 0 0) [] last) (hb : Below w.heap.size w w') : Sch w' base S (.slice none 0 0) [] last := h.below hb
theorem keep_below {w w' : World} {base S : Nat} {v : Value} {l : List Ent} {last : Int} {j : Nat} (h : Sch w base S v l last) (hk : Keep base (· = j) w w') (hj : ∃ x ∈ l, x.jb = j) (hb : base ≤ w.heap.size) : Below base w w' :=
  hk.below (fun k e => by obtain ⟨x, hx, hxj⟩ := hj; have := (h.ents x hx).2.1; subst e; omega) hb
theorem keep_below0 {w w' : World} {base : Nat} (hk : Keep base (fun _ => False) w w') (hb : base ≤ w.heap.size) : Below base w w' := hk.below (fun k e => e.elim) hb
theorem job_tag {w : World} {base S : Nat} {v : Value} {l : List Ent} {last : Int} {j : Nat} (h : Sch w base S v l last) (hj : ∃ x ∈ l, x.jb = j) : ∀ k, k = j → ∃ cs fr, w.heap[k]? = some (.cells cs 46 fr) := by
  obtain ⟨x, hx, hxj⟩ := hj
  rintro k rfl
  exact ⟨_, _, by rw [← hxj]; exact (h.ents x hx).2.2⟩

/-- 'Add(&job{left: ..}, n)': the job's block is new -/
theorem addBox {w : World} {base S : Nat} {v : Value} {l : List Ent} {last : Int} (left n : Int) (hn1 : 1 ≤ n) (hn2 : n ≤ 16) (hl : l.length < 64) (h : Sch w base S v l last) (hb : base ≤ w.heap.size) :
    Calls Try.prog 18 #[.pointer (some ⟨S, 0, none⟩), .iface 44 (.pointer (some ⟨w.heap.size, 0, none⟩)), .int .i64 n] (w.alloc (.cells #[.int .i64 left, .int .i64 0] 46)) fun e w' =>
      e = .returned (.tuple #[.int .i64 (wrap64 (last + 1)), .int .i64 0]) ∧
      ∃ v' eb, Sch w' base S v' (l ++ [⟨wrap64 (last + 1), n, 0, eb, w.heap.size, left, 0⟩]) (wrap64 (last + 1)) ∧ Keep base (fun _ => False) w w' := by
  have hB : Below w.heap.size w (w.alloc (.cells #[.int .i64 left, .int .i64 0] 46)) := (Below.refl _ _).alloc (Nat.le_refl _) _
  refine (add w.heap.size left 0 n hn1 hn2 hl (h.below hB) (by simp; omega) ⟨hb, heap_alloc_new w _⟩ fun x hx => ?_).mono ?_
  · have := heap_lt (h.ents x hx).2.2
    omega
  · rintro e w' ⟨rfl, v', hs, hk⟩
    exact ⟨rfl, v', _, hs, (Keep.of_below hB).trans hk⟩

set_option maxHeartbeats 4000000 in
theorem awake (w : World) : Calls Try.prog 9 #[] w fun e w' => e = .returned (.bool true) ∧ Below w.heap.size w w' := by
  go_enter Try.func9, Try.ntmps9
  go_wp2_with fail
  refine (new_ w).mono ?_
  rintro e w1 ⟨rfl, hs1, hb1⟩
  have hz1 : w.heap.size ≤ w1.heap.size := hb1.size
  have hadd := Lib.hid (addBox 0 2 (by omega) (by omega) (by simp) hs1 hz1)
  replace hb1 := Lib.hid hb1
  clear hs1
  go_wp2_with fail
  refine hadd.out.mono ?_
  rintro e w2 ⟨rfl, v2, eb1, hs2, k2⟩
  have hz2 : w.heap.size ≤ w2.heap.size := Nat.le_trans hz1 k2.size
  have hadd2 := Lib.hid (addBox 0 1 (by omega) (by omega) (by simp) hs2 hz2)
  have hb2 := Lib.hid (hb1.out.trans (keep_below0 k2 hz1))
  generalize w1.heap.size = jb1 at *
  clear hs2 k2 hadd
  go_wp2_with fail
  refine hadd2.out.mono ?_
  rintro e w3 ⟨rfl, v3, eb2, hs3, k3⟩
  have hz3 : w.heap.size ≤ w3.heap.size := Nat.le_trans hz2 k3.size
  have hb3 := Lib.hid (hb2.out.trans (keep_below0 k3 hz2))
  generalize w2.heap.size = jb2 at *
  rw [show wrap64 (0 + 1) = 1 by kernel_rfl, show wrap64 (1 + 1) = 2 by kernel_rfl] at hs3
  have hs4 : Hid (Sch w3 w.heap.size w.heap.size v3 (awk eb1 jb1 eb2 jb2 0) 2) := hs3
  clear hs3 k3 hadd2 hb1 hb2
  go_wp2
  go_loopw [6, 29] (fun a b w' => ∃ k : Nat, k ≤ 6 ∧ b = .int .i64 k ∧ Ints w' w.heap.size a (awkIds.take k) ∧ (∃ v, Sch w' w.heap.size w.heap.size v (awk eb1 jb1 eb2 jb2 k) 2) ∧ Below w.heap.size w w') (fun _ b _ => 6 - (intOf b).toNat)
  case atStart => exact ⟨0, Nat.zero_le _, rfl, Ints.none_ _ _, ⟨_, hs4.out⟩, hb3.out⟩
  case round =>
    obtain ⟨k, hk, rfl, hi, ⟨v, hs⟩, hB⟩ := hrel
    by_cases hlt : k < 6
    · have hz := hB.size
      obtain ⟨hlt2, hd, hst, htk, -, hx⟩ := awk_round eb1 jb1 eb2 jb2 k hlt
      have hf := fair (by rw [awk_length]; decide) (by rw [awk_length]; decide) hs (by rw [awk_ids]; decide)
      have hf2 : Calls Try.prog 20 #[.pointer (some ⟨w.heap.size, 0, none⟩)] wr fun e w' => ∃ x, e = .returned (.tuple #[.int .i64 x, .bool false, .int .i64 0]) ∧ awkIds.take (k + 1) = awkIds.take k ++ [x] ∧
          (∃ v', Sch w' w.heap.size w.heap.size v' (awk eb1 jb1 eb2 jb2 (k + 1)) 2) ∧ Ints w' w.heap.size u6 (awkIds.take k) ∧ Below w.heap.size wr w' := by
        refine hf.mono ?_
        rintro e w' ⟨rfl, hs', -, hk'⟩
        rw [hst] at hs'
        exact ⟨_, by rw [hd], htk, hs', hi.keep hk' (job_tag hs hx), keep_below hs hk' hx hz⟩
      replace hf2 := Lib.hid hf2
      replace hB := Lib.hid hB
      clear hf hs hi hd hst htk hx hlt2 hs4 hb3
      go_wp2_with fail
      refine hf2.out.mono ?_
      rintro e w4 ⟨x, rfl, htk, hs', hi', hB'⟩
      have hlen : (awkIds.take k).length ≤ 1000 := by simp; omega
      have hz4 := (hB.out.trans hB').size
      replace htk := Lib.hid htk
      replace hs' := Lib.hid hs'
      replace hi' := Lib.hid hi'
      replace hB' := Lib.hid hB'
      go_wp2_with (at_builtin
                   refine wpList_appInt _ rfl (.tmp 42) (.tmp 44) rfl w.heap.size _ _ rfl hi'.out _ _ rfl rfl hz4 hlen ?_
                   intro v5 w5 hown5 hb5 hg5)
      go_roundw
      case rel => exact ⟨k + 1, by omega, by go_num, by rw [htk.out]; exact hown5, by obtain ⟨v', hv'⟩ := hs'.out; exact ⟨v', hv'.grown hi'.out hg5⟩, (hB.out.trans hB'.out).trans hb5⟩
      case measure => simp [intOf]; omega
    · obtain rfl : k = 6 := by omega
      have q1 : (wrap64 1 == (1 : Int)) = true := by kernel_rfl
      have q2 : (wrap64 (wrap64 1 + 1) == (2 : Int)) = true := by kernel_rfl
      have hz := hB.size
      have hB2 : Below wr.heap.size wr (wr.alloc (.cells #[.int .i64 1, .int .i64 2, .int .i64 1, .int .i64 1, .int .i64 2, .int .i64 1] 3)) := (Below.refl _ _).alloc (Nat.le_refl _) _
      have hlit : Ints (wr.alloc (.cells #[.int .i64 1, .int .i64 2, .int .i64 1, .int .i64 1, .int .i64 2, .int .i64 1] 3)) 0 (.slice (some ⟨wr.heap.size, 0, none⟩) 6 6) awkIds :=
        World.ownsRow_lit wr #[.int .i64 1, .int .i64 2, .int .i64 1, .int .i64 1, .int .i64 2, .int .i64 1] 6 (Nat.zero_le _) (by simp [maxLen]) rfl
      have hsame := Lib.hid (sameInts (by decide) (by decide) (hi.below hB2) hlit)
      have hB3 := Lib.hid (hB.trans (hB2.mono hz))
      have hz3' : w.heap.size ≤ (wr.alloc (.cells #[.int .i64 1, .int .i64 2, .int .i64 1, .int .i64 1, .int .i64 2, .int .i64 1] 3)).heap.size := by simp; omega
      replace hz3' := Lib.hid hz3'
      clear hs hi hB hB2 hlit hs4 hb3
      go_wp2_with fail
      refine hsame.out.mono ?_
      rintro e w6 ⟨rfl, hb6⟩
      go_wp2
      go_ret
      exact ⟨rfl, hB3.out.trans (hb6.mono hz3'.out)⟩
end Go.Proofs.Ytkokijmgikdnfaa
