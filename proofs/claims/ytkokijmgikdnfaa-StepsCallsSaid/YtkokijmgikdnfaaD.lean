/- Contract of slices.Delete at one element of a row of entry pointers. -/
import Derived.Test.YtkokijmgikdnfaaC
import Derived.Deep.RegionLaw
import Derived.Lib.Walk
import Derived.Lib.SliceRun
import Derived.Lib.SlicesDelete
namespace Go.Proofs.Ytkokijmgikdnfaa
open Go.RowKit Go.Lib Go.Sort
set_option linter.unusedVariables false

def encP : Option Nat → Value := fun o => .pointer (o.map fun b => (⟨b, 0, none⟩ : Addr))
theorem info65 : (Try.prog.info? 65).map (fun i => (i.zero, i.size, i.bytes)) = some (some (.pointer none), 1, 8) := by kernel_rfl

set_option maxHeartbeats 4000000 in
set_option maxRecDepth 1000000 in
theorem delete_arr1 (blk cap i : Nat) (d : Array (Option Nat)) (w : World) (hH : Holds encP w blk 0 d) (hcap : d.size ≤ cap) (hm : cap ≤ 9223372036854775807) (hj : i + 1 ≤ d.size) :
    Calls Try.prog 27 #[.slice (some ⟨blk, 0, none⟩) d.size cap, .int .i64 i, .int .i64 (i + 1 : Nat)] w fun e w' => e = .returned (.slice (some ⟨blk, 0, none⟩) (d.size - 1) cap) ∧ ∃ q, w' = putRow encP (Sort.ahead w q) blk 0 (d.toList.take i ++ d.toList.drop (i + 1) ++ List.replicate 1 none).toArray := by
  obtain ⟨i0, hi0, hz0, hz1, hz2⟩ := info_parts info65
  have v65 : ∀ w, (zeroValue 65).run Try.prog w = .ok (encP none) w := fun w => by kernel_rfl
  obtain ⟨j, hjj⟩ : ∃ j, j = i + 1 := ⟨_, rfl⟩
  have hlt : i < j := by omega
  obtain ⟨news, hnews⟩ : ∃ news, news = (d.toList.drop j).map encP := ⟨_, rfl⟩
  have hlen : news.length = d.size - j := by rw [hnews]; simp
  have hget : ∀ t, t < d.size - j → news[t]? = some (encP d[j + t]!) := by
    intro t ht
    rw [hnews, List.getElem?_map, List.getElem?_drop, Array.getElem?_toList, getElem!_pos d (j + t) (by omega), Array.getElem?_eq_getElem (by omega)]
    rfl
  obtain ⟨A, hA, hsrc⟩ : ∃ A : Addr, (if cap = j then some (⟨blk, 0, none⟩ : Addr) else some ⟨blk, j, none⟩) = some A ∧ Hid (∀ t u, news[t]? = some u → w.drew.cell? (A.add t) = some u) := by
    by_cases h : cap = j
    · refine ⟨⟨blk, 0, none⟩, by simp [h], fun t u hu => ?_⟩
      have h0 : news.length = 0 := by rw [hlen]; omega
      rw [List.length_eq_zero_iff.1 h0] at hu
      simp at hu
    · refine ⟨⟨blk, j, none⟩, by simp [h], fun t u hu => ?_⟩
      have ht : t < d.size - j := by
        have := (List.getElem?_eq_some_iff.1 hu).1
        rwa [hlen] at this
      rw [hget t ht] at hu
      have h2 := (hH (j + t) (by omega)).1
      rw [Nat.zero_add] at h2
      rw [Addr.add_lit]
      exact h2.trans hu
  have s1 : Hid (news.length = (d.size - j) * 1) := by rw [Nat.mul_one]; exact hlen
  have s2 : Hid (∀ u ∈ news, u.oneCell' = true) := by
    intro u hu
    rw [hnews] at hu
    obtain ⟨x, _, rfl⟩ := List.mem_map.1 hu
    rfl
  have s3 : Hid (∀ t, t < news.length → (w.drew.cell? ⟨blk, 0 + i * 1 + t, none⟩).isSome = true ∧ w.drew.frozen? ⟨blk, 0 + i * 1 + t, none⟩ = false) := by
    intro t ht
    rw [hlen] at ht
    rw [Nat.mul_one, Nat.add_assoc]
    exact ⟨by show (w.cell? _).isSome = true; rw [(hH (i + t) (by omega)).1]; rfl, (hH (i + t) (by omega)).2⟩
  obtain ⟨W1, hW1⟩ : ∃ W1, W1 = w.drew.setCells blk (0 + i * 1) news := ⟨_, rfl⟩
  have hW1' : W1 = putRow encP (Sort.ahead w 1) blk 0 (lay d i (d.toList.drop j)) := by
    rw [hW1, hnews, Nat.mul_one, ← putRow_setCells encP (Sort.ahead w 1) blk 0 _ d i (by simp; omega), putRow_self encP (Sort.ahead w 1) blk 0 d (holds_ahead encP w 1 blk 0 d hH)]
    rfl
  have hH1 : Holds encP W1 blk 0 (lay d i (d.toList.drop j)) := by rw [hW1']; exact holds_putRow encP _ blk 0 d _ (holds_ahead encP w 1 blk 0 d hH) (lay_size _ _ _)
  have hcl : ∀ ty, (Builtin.clear_ #[57] ty #[.slice (some ⟨blk, 0 + (i + (d.size - j)), none⟩) (d.size - (i + (d.size - j))) (cap - (i + (d.size - j)))]).run Try.prog W1 = .ok (.tuple #[]) (W1.setCells blk (0 + (i + (d.size - j))) (List.replicate (d.size - (i + (d.size - j))) (encP none))) :=
    fun ty => Lib.run_clear_slice W1 _ _ ty _ Try.underlying57 v65 rfl rfl blk (0 + (i + (d.size - j))) _ _ (by omega) (fun t ht => by rw [show 0 + (i + (d.size - j)) + t = 0 + (i + (d.size - j) + t) by omega, (hH1 _ (by rw [lay_size]; omega)).1]; rfl) (fun t ht => by rw [show 0 + (i + (d.size - j)) + t = 0 + (i + (d.size - j) + t) by omega]; exact (hH1 _ (by rw [lay_size]; omega)).2)
  simp only [Nat.zero_add] at hcl
  have X : Aside (W1 = putRow encP (Sort.ahead w 1) blk 0 (lay d i (d.toList.drop j))) := hW1'
  have hW : Hid (W1 = w.drew.setCells blk (0 + i * 1) news) := hW1
  have hic : i ≤ cap := by omega
  have hjc : j ≤ cap := by omega
  rw [← hjj]
  rw [← hjj] at hj
  have hji := Lib.hid (show List.replicate 1 (none : Option Nat) = List.replicate (j - i) none by rw [hjj, Nat.add_sub_cancel_left])
  clear hW1 hW1' hH1 hH hget hnews hlen
  have hone := Lib.hid (show d.size - 1 = i + (d.size - j) by omega)
  clear hjj
  go_enter Try.func27, Try.ntmps27
  go_wp2_with fail
  go_region_law (refine step_append_room rfl (.tmp 22) (.tmp 25) 57 rfl 65 i0 1 Try.underlying57 hi0 hz1 blk 0 i cap (by simp [Act.eval, Act.put]) A (d.size - j) (cap - j) news (by simp [Act.eval, Act.put]) s1.out hsrc.out s2.out (by omega) s3.out ?_; rw [← hW.out])
  go_wp2
  go_ret
  refine ⟨by rw [hone.out]; rfl, 1, ?_⟩
  rw [hji.out, ← delete_arr d i j none (Nat.le_of_lt hlt) hj, ← putRow_setCells encP _ blk 0 _ _ (i + (d.size - j)) (by rw [lay_size]; simp; omega), Nat.zero_add, ← X.out, List.map_replicate, show d.size - (i + (d.size - j)) = j - i by omega]
end Go.Proofs.Ytkokijmgikdnfaa
