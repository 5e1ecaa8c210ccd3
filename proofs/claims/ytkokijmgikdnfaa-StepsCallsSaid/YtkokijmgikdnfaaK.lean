/- Contract of Pick. -/
import Derived.Test.YtkokijmgikdnfaaJ
import Derived.Deep.RegionWith
namespace Go.Proofs.Ytkokijmgikdnfaa
open Go.RowKit
set_option linter.unusedVariables false

set_option maxHeartbeats 4000000 in
theorem pick {w : World} {base S : Nat} {v : Value} {l : List Ent} {last : Int} (n : Int) (i : Nat) (hi : i < l.length) (hn0 : 0 ≤ n) (hni : n % l.length = i) (hl : l.length ≤ 1000)
    (h : Sch w base S v l last) (hn : (l.map (·.id)).Nodup) : Calls Try.prog 19 #[.pointer (some ⟨S, 0, none⟩), .int .i64 n] w (Stepped w base S l last i hi) := by
  obtain ⟨g, c, hv, hg, c0, -⟩ := h.at_ hi
  subst hv
  have ch := h.head0
  have n0 : ((l.length : Int) == 0) = false := by rw [beq_eq_false_iff_ne]; omega
  have hst := Lib.hid (step i hi hl h.drew hn)
  unfold ptr at c0
  have hnt : Int.tmod n (l.length : Int) = (i : Int) := by rw [Int.tmod_eq_emod_of_nonneg hn0]; exact hni
  have hne : (l.length : Int) ≠ 0 := by omega
  have hi0 : (i : Int) < l.length := by omega
  have hne2 : l ≠ [] := by rintro rfl; simp at hi
  clear hni
  go_enter Try.func19, Try.ntmps19
  go_upto_region 5 with fail
  go_cut [4, 5, 6] (fun a b d wx => a = .int .i64 l[i].id ∧ b = .bool (wrap64 (l[i].left - 1) == 0) ∧ d = .int .i64 0 ∧ (∃ v', Sch wx base S v' (stepL l i hi) last) ∧ JobAt wx base l[i].ran ∧ Keep base (· = l[i].jb) w.drew wx)
  case first =>
    go_region_with (go_at_call 26; refine (hst.out.mono ?_); rintro e w2 ⟨rfl, hs3, hj3, hk3⟩)
    all_goals go_wp2_with fail
    all_goals go_meet
    all_goals exact ⟨rfl, rfl, rfl, hs3, hj3, hk3⟩
  case rest =>
    obtain ⟨rfl, rfl, rfl, hs3, hj3, hk3⟩ := hcut
    go_wp2
    go_ret3
    exact ⟨rfl, hs3, hj3, ⟨hk3.os, hk3.tape, hk3.output, hk3.size, hk3.block⟩⟩
end Go.Proofs.Ytkokijmgikdnfaa
