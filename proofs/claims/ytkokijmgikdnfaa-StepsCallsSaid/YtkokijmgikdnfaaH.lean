/- Contract of the fair pick. -/
import Derived.Test.YtkokijmgikdnfaaG
namespace Go.Proofs.Ytkokijmgikdnfaa
open Go.RowKit
set_option linter.unusedVariables false

def inc (e : Ent) : Ent := { e with cr := wrap64 (e.cr + e.wt) }
/-- the first k are incremented -/
def incTo (l : List Ent) (k : Nat) : List Ent := l.mapIdx fun j e => if j < k then inc e else e
def wtAt (l : List Ent) (k : Nat) : Int := ((l.map (·.wt))[k]?).getD 0
def crAt (l : List Ent) (k : Nat) : Int := ((l.map (·.cr))[k]?).getD 0
def sumTo (l : List Ent) : Nat → Int
  | 0 => 0
  | k + 1 => wrap64 (sumTo l k + wtAt l k)
/-- the place of the first greatest credit among the first k -/
def bestTo (l : List Ent) : Nat → Nat
  | 0 => 0
  | k + 1 => if crAt l k > crAt l (bestTo l k) then k else bestTo l k
def fairB (l : List Ent) : Nat := bestTo (l.map inc) l.length
/-- the credits behind a fair pick -/
def fairL (l : List Ent) : List Ent := (l.map inc).mapIdx fun j e => if j = fairB l then { e with cr := wrap64 (e.cr - sumTo l l.length) } else e

theorem wtAt_get (l : List Ent) (k : Nat) (h : k < l.length) : wtAt l k = l[k].wt := by simp [wtAt, h]
theorem crAt_get (l : List Ent) (k : Nat) (h : k < l.length) : crAt l k = l[k].cr := by simp [crAt, h]
theorem incTo_length (l : List Ent) (k : Nat) : (incTo l k).length = l.length := by simp [incTo]
theorem incTo_get (l : List Ent) (k j : Nat) (h : j < (incTo l k).length) : (incTo l k)[j] = if j < k then inc (l[j]'(by simpa [incTo] using h)) else l[j]'(by simpa [incTo] using h) := by simp [incTo]
theorem incTo_zero (l : List Ent) : incTo l 0 = l := by
  apply List.ext_getElem (by simp [incTo])
  intro j h1 h2
  rw [incTo_get, if_neg (by omega)]
theorem incTo_all (l : List Ent) : incTo l l.length = l.map inc := by
  apply List.ext_getElem (by simp [incTo])
  intro j h1 h2
  rw [incTo_get, if_pos (by simpa using h2)]
  simp
theorem incTo_succ (l : List Ent) (k : Nat) (h : k < l.length) : incTo l (k + 1) = (incTo l k).set k (inc l[k]) := by
  apply List.ext_getElem (by simp [incTo])
  intro j h1 h2
  rw [incTo_get, List.getElem_set, incTo_get]
  by_cases e : k = j
  · subst e; simp
  · rw [if_neg e]
    by_cases h : j < k
    · rw [if_pos h, if_pos (by omega)]
    · rw [if_neg h, if_neg (by omega)]
theorem bestTo_lt (l : List Ent) (k : Nat) (h : 0 < l.length) (hk : k ≤ l.length) : bestTo l k < l.length := by
  induction k with
  | zero => simpa [bestTo] using h
  | succ k ih =>
    rw [bestTo]
    split
    · omega
    · exact ih (by omega)
theorem fairB_lt (l : List Ent) (h : 0 < l.length) : fairB l < l.length := by
  have := bestTo_lt (l.map inc) l.length (by simpa using h) (by simp)
  unfold fairB
  simpa using this
theorem fairL_length (l : List Ent) : (fairL l).length = l.length := by simp [fairL]
theorem fairL_set (l : List Ent) (h : fairB l < l.length) : fairL l = (l.map inc).set (fairB l) { inc l[fairB l] with cr := wrap64 ((inc l[fairB l]).cr - sumTo l l.length) } := by
  apply List.ext_getElem (by simp [fairL])
  intro j h1 h2
  simp only [fairL, List.getElem_mapIdx, List.getElem_set, List.getElem_map]
  by_cases e : fairB l = j
  · rw [if_pos e.symm, if_pos e]; subst e; rfl
  · rw [if_neg (Ne.symm e), if_neg e]

/-- a machine with another credit -/
def Ent.withCr (e : Ent) (c : Int) : Ent := { e with cr := c }

theorem Sch.setCr {w : World} {base S : Nat} {v : Value} {l : List Ent} {last : Int} (h : Sch w base S v l last) (i : Nat) (hi : i < l.length) (c : Int) :
    Sch (w.setCell ⟨l[i].eb, 2, none⟩ (.int .i64 c)) base S v (l.set i (l[i].withCr c)) last := by
  have hei := (h.ents l[i] (List.getElem_mem hi)).1
  have ho : ∀ k, k ≠ l[i].eb → (w.setCell ⟨l[i].eb, 2, none⟩ (.int .i64 c)).heap[k]? = w.heap[k]? := fun k hk => setCell_same _ _ _ _ hk
  have hs := heap_setCell_same w l[i].eb 2 _ _ (.int .i64 c) hei.2
  generalize w.setCell ⟨l[i].eb, 2, none⟩ (.int .i64 c) = w' at *
  refine ⟨h.low, (ho _ (tag_ne h.head hei.2 (by decide))).trans h.head, ?_, ?_, ?_, ?_⟩
  · rw [List.length_set, map_set_same ptr l i hi (l[i].withCr c) rfl]
    refine row_move h.row fun k hk => ho k ?_
    rcases h.row.2 with ⟨rfl, _⟩ | ⟨g', cap', cur, rfl, _, hg, _⟩
    · cases hk
    · cases hk
      exact tag_ne hg hei.2 (by decide)
  · intro x hx
    obtain ⟨j, hj1, rfl⟩ := List.mem_iff_getElem.1 hx
    rw [List.getElem_set]
    have hj2 : j < l.length := by simpa using hj1
    have hx2 := h.ents l[j] (List.getElem_mem hj2)
    split
    · have hji := (h.ents l[i] (List.getElem_mem hi)).2
      exact ⟨⟨hei.1, hs⟩, hji.1, (ho _ (Ne.symm (tag_ne hei.2 hji.2 (by decide)))).trans hji.2⟩
    · rename_i hne
      refine ⟨⟨hx2.1.1, (ho _ ?_).trans hx2.1.2⟩, hx2.2.1, (ho _ (Ne.symm (tag_ne hei.2 hx2.2.2 (by decide)))).trans hx2.2.2⟩
      intro e
      have := (List.getElem_inj (h₀ := by simpa using hj2) (h₁ := by simpa using hi) h.nodE).1 (by simpa using e)
      exact hne this.symm
  · rw [map_set_same (·.eb) l i hi (l[i].withCr c) rfl]; exact h.nodE
  · rw [map_set_same (·.jb) l i hi (l[i].withCr c) rfl]; exact h.nodJ
theorem mine_ent {w : World} {base S : Nat} {v : Value} {l : List Ent} {last : Int} (h : Sch w base S v l last) (i : Nat) (hi : i < l.length) : Mine w base l[i].eb := by
  have hei := (h.ents l[i] (List.getElem_mem hi)).1
  exact ⟨hei.1, _, _, _, hei.2, .inr (.inr rfl)⟩
theorem incTo_eb (l : List Ent) (k j : Nat) (h : j < (incTo l k).length) : (incTo l k)[j].eb = (l[j]'(by simpa [incTo] using h)).eb := by
  rw [incTo_get]; split <;> rfl
theorem ids_incTo (l : List Ent) (k : Nat) : (incTo l k).map (·.id) = l.map (·.id) := by
  apply List.ext_getElem (by simp [incTo])
  intro j h1 h2
  rw [List.getElem_map, List.getElem_map, incTo_get]
  split <;> rfl

theorem Sch.drew {w : World} {base S : Nat} {v : Value} {l : List Ent} {last : Int} (h : Sch w base S v l last) : Sch w.drew base S v l last := ⟨h.low, h.head, h.row, h.ents, h.nodE, h.nodJ⟩
theorem Sch.drewN {w : World} {base S : Nat} {v : Value} {l : List Ent} {last : Int} (h : Sch w base S v l last) (n : Nat) : Sch (w.drewN n) base S v l last := ⟨h.low, h.head, h.row, h.ents, h.nodE, h.nodJ⟩
theorem ids_fairL (l : List Ent) : (fairL l).map (·.id) = l.map (·.id) := by
  apply List.ext_getElem (by simp [fairL])
  intro j h1 h2
  simp only [fairL, List.getElem_map, List.getElem_mapIdx]
  split <;> rfl
theorem inc_get (l : List Ent) (k : Nat) (h : k < (l.map inc).length) : (l.map inc)[k] = inc (l[k]'(by simpa using h)) := by simp

theorem fz {w : World} {k : Nat} {cs : Array Value} {t : TypeId} (h : w.heap[k]? = some (.cells cs t (0, 0))) (j : Nat) : w.frozen? ⟨k, j, none⟩ = false := by simp [World.frozen?, h]

set_option maxHeartbeats 1000000 in
theorem fair {w : World} {base S : Nat} {v : Value} {l : List Ent} {last : Int} (h0 : 0 < l.length) (hl : l.length ≤ 1000) (h : Sch w base S v l last) (hn : (l.map (·.id)).Nodup) :
    Calls Try.prog 20 #[.pointer (some ⟨S, 0, none⟩)] w (Stepped w base S (fairL l) last (fairB l) (by rw [fairL_length]; exact fairB_lt l h0)) := by
  obtain ⟨g, c, hv, hg, c0, c1, -⟩ := h.at_ h0
  subst hv
  have ch := h.head0
  have n0 : ((l.length : Int) == 0) = false := by rw [beq_eq_false_iff_ne]; omega
  have hl2 : (l.length : Int) ≤ 1000 := by omega
  have h02 : (0 : Int) < l.length := by omega
  go_enter Try.func20, Try.ntmps20
  go_wp2
  go_loopw [5, 32] (fun a b w' => ∃ k : Nat, k ≤ l.length ∧ a = .int .i64 (sumTo l k) ∧ b = .int .i64 k ∧ Sch w' base S (.slice (some ⟨g, 0, none⟩) l.length c) (incTo l k) last ∧ Keep base (fun _ => False) w w') (fun _ b _ => l.length - (intOf b).toNat)
  case atStart => exact ⟨0, Nat.zero_le _, rfl, rfl, by rw [incTo_zero]; exact h, Keep.refl _ _ _⟩
  case round =>
    obtain ⟨k, hk, rfl, rfl, hs, hK⟩ := hrel
    by_cases hlt : k < l.length
    · have hkl : k < (incTo l k).length := by rw [incTo_length]; exact hlt
      obtain ⟨g', c', hv, hgb, d0, d1, d2, d3, -⟩ := hs.at_ hkl
      rw [incTo_length] at hv
      cases hv
      have hei := (hs.ents _ (List.getElem_mem hkl)).1
      have e0 : (incTo l k)[k] = l[k] := by rw [incTo_get, if_neg (Nat.lt_irrefl k)]
      rw [e0] at d0 d1 d2 d3 hei
      have fr : wr.frozen? ⟨l[k].eb, 2, none⟩ = false := by simp [World.frozen?, hei.2]
      have hs2 := hs.setCr k hkl (wrap64 (l[k].cr + l[k].wt))
      rw [e0, show l[k].withCr (wrap64 (l[k].cr + l[k].wt)) = inc l[k] from rfl, ← incTo_succ l k hlt] at hs2
      have hK2 := hK.setCell (p := ⟨l[k].eb, 2, none⟩) (.inr (.inr (mine_ent h k hlt))) (.int .i64 (wrap64 (l[k].cr + l[k].wt)))
      have d3' : (wr.setCell ⟨l[k].eb, 2, none⟩ (.int .i64 (wrap64 (l[k].cr + l[k].wt)))).cell? ⟨l[k].eb, 1, none⟩ = some (.int .i64 l[k].wt) := by
        have := (hs2.at_ (i := k) (by rw [incTo_length]; exact hlt))
        obtain ⟨g', c', hv, hgb, d0', d1', d2', d3', -⟩ := this
        rw [incTo_get, if_pos (Nat.lt_succ_self k)] at d2'
        exact d2'
      have hst : sumTo l (k + 1) = wrap64 (sumTo l k + l[k].wt) := by rw [sumTo, wtAt_get l k hlt]
      replace hs2 := Lib.hid hs2
      replace hK2 := Lib.hid hK2
      replace hst := Lib.hid hst
      replace hs := Lib.hid hs
      clear hei e0
      unfold ptr at d0
      go_wp2
      go_region
      go_wp2
      go_roundw
      case rel => exact ⟨k + 1, by omega, by rw [hst.out], by go_num, hs2.out.drew, hK2.out.drew⟩
      case measure => simp [intOf]; omega
    · obtain rfl : k = l.length := by omega
      rw [incTo_all] at hs
      have ch2 := hs.head0
      have hKh := Lib.hid hK
      have hsh := Lib.hid hs
      clear hK hs
      have h0r : 0 < (l.map inc).length := by simpa using h0
      go_wp2
      go_loopw [6, 59] (fun a b w' => ∃ (k j : Nat) (hj : j < l.length), k ≤ l.length ∧ j = bestTo (l.map inc) k ∧ a = .pointer (some ⟨l[j].eb, 0, none⟩) ∧ b = .int .i64 k ∧ Sch w' base S (.slice (some ⟨g, 0, none⟩) l.length c) (l.map inc) last ∧ Keep base (fun _ => False) w w') (fun _ b _ => l.length - (intOf b).toNat)
      case atStart => exact ⟨0, 0, h0, Nat.zero_le _, rfl, rfl, rfl, hsh.out, hKh.out⟩
      case round =>
        obtain ⟨k, j, hj, hk, hjb, rfl, rfl, hs, hK⟩ := hrel
        clear hsh hKh
        by_cases hlt : k < l.length
        · have hkl : k < (l.map inc).length := by simpa using hlt
          have hjl : j < (l.map inc).length := by simpa using hj
          obtain ⟨g', c', hv, -, d0, -, -, d3, -⟩ := hs.at_ hkl
          rw [List.length_map] at hv
          cases hv
          obtain ⟨g', c', hv, -, -, -, -, e3, -⟩ := hs.at_ hjl
          clear hv g' c'
          rw [inc_get] at d0 d3 e3
          unfold ptr at d0
          have hs1 := Lib.hid hs
          have hK1 := Lib.hid hK
          clear hs hK
          change wr.cell? ⟨g, k, none⟩ = some (.pointer (some ⟨l[k].eb, 0, none⟩)) at d0
          change wr.cell? ⟨l[k].eb, 2, none⟩ = _ at d3
          change wr.cell? ⟨l[j].eb, 2, none⟩ = _ at e3
          have hb : bestTo (l.map inc) (k + 1) = if (inc l[k]).cr > (inc l[j]).cr then k else j := by
            rw [bestTo, ← hjb, crAt_get _ _ hkl, crAt_get _ _ hjl, inc_get, inc_get]
          replace hb := Lib.hid hb
          cases hgt : decide ((inc l[k]).cr > (inc l[j]).cr) with
          | true =>
            have hb2 := Lib.hid (show k = bestTo (l.map inc) (k + 1) by rw [hb.out, if_pos (of_decide_eq_true hgt)])
            clear hb hjb
            go_wp2_with fail
            go_quiet (fail)
            go_wp2
            go_roundw
            case rel => exact ⟨k + 1, k, hlt, by omega, hb2.out, rfl, by go_num, (hs1.out.drewN _), hK1.out.drewN _⟩
            case measure => simp [intOf]; omega
          | false =>
            have hb2 := Lib.hid (show j = bestTo (l.map inc) (k + 1) by rw [hb.out, if_neg (of_decide_eq_false hgt)])
            clear hb hjb
            go_wp2_with fail
            go_quiet (fail)
            go_wp2
            go_roundw
            case rel => exact ⟨k + 1, j, hj, by omega, hb2.out, rfl, by go_num, (hs1.out.drewN _), hK1.out.drewN _⟩
            case measure => simp [intOf]; omega
        · obtain rfl : k = l.length := by omega
          have hjl : j < (l.map inc).length := by simpa using hj
          have hjb' : fairB l = j := hjb.symm
          have hs2 := hs.setCr j hjl (wrap64 ((inc l[j]).cr - sumTo l l.length))
          have hlj : fairB l < l.length := by rw [hjb']; exact hj
          have hset : (l.map inc).set j ((l.map inc)[j].withCr (wrap64 ((inc l[j]).cr - sumTo l l.length))) = fairL l := by
            rw [fairL_set l hlj]
            subst hjb'
            simp [Ent.withCr]
          rw [hset] at hs2
          have hme := mine_ent hs j hjl
          have hei := (hs.ents _ (List.getElem_mem hjl)).1
          obtain ⟨g', c', hv, -, -, -, -, e3, -⟩ := hs.at_ hjl
          clear hv
          rw [inc_get] at e3 hei hs2 hme
          change wr.cell? ⟨l[j].eb, 2, none⟩ = _ at e3
          have fr : wr.frozen? ⟨l[j].eb, 2, none⟩ = false := fz hei.2 2
          have hK2 := hK.trans ((Keep.refl base _ wr).setCell (p := ⟨l[j].eb, 2, none⟩) (.inr (.inr hme)) (.int .i64 (wrap64 ((inc l[j]).cr - sumTo l l.length))))
          change Sch (wr.setCell ⟨l[j].eb, 2, none⟩ (.int .i64 (wrap64 ((inc l[j]).cr - sumTo l l.length)))) base S _ (fairL l) last at hs2
          have hst := step (fairB l) (by rw [fairL_length]; exact hlj) (by rw [fairL_length]; exact hl) hs2 (by rw [ids_fairL]; exact hn)
          have hpt : ptr ((fairL l)[fairB l]'(by rw [fairL_length]; exact hlj)) = .pointer (some ⟨l[j].eb, 0, none⟩) := by
            subst hjb'
            simp [ptr, fairL, inc]
          rw [hpt] at hst
          replace hst := Lib.hid hst
          replace hK2 := Lib.hid hK2
          clear hs hK hs2 hei hme hset hpt hjb hjb'
          go_wp2_with fail
          refine hst.out.mono ?_
          rintro e w2 ⟨rfl, hs3, hj3, hk3⟩
          go_wp2
          go_ret3
          exact ⟨rfl, hs3, hj3, (hK2.out.more fun _ h => h.elim).trans hk3⟩
end Go.Proofs.Ytkokijmgikdnfaa
