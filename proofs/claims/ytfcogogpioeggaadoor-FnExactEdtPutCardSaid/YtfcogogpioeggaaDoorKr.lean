import Derived.Test.YtfcogogpioeggaaDoorKq
namespace Go.Proofs.YtfcogogpioeggaaDoor
open Go.RowKit
/- slices.Delete of one cell; edited, over whatever edit. -/
def cellZ : Value := .agg #[.string ⟨#[]⟩, .int .i64 0, .int .i64 0, .int .i64 0, .int .i64 0, .int .i64 0, .int .i64 0, .int .i64 0, .int .i64 0, .int .i64 0, .int .i64 0]
theorem zero_cell : ∀ w, (zeroValue 65).run Tryd.prog w = .ok cellZ w := fun _ => by kernel_rfl
theorem info_cell : (Tryd.prog.info? 65).map (fun i => (i.zero, i.size, i.bytes)) = some (some cellZ, 11, 96) := by kernel_rfl
theorem cellZ_one : Builtin.zeroCells cellZ.cells 1 = cellZ.cells := by kernel_rfl
theorem cellZ_len : cellZ.cells.toList.length = 11 := by kernel_rfl
theorem cellZ_cells : ∀ v ∈ cellZ.cells.toList, v.oneCell' = true := by
  have : cellZ.cells.toList.all (fun v => v.oneCell') = true := by kernel_rfl
  intro v hv
  exact List.all_eq_true.1 this v hv
set_option maxRecDepth 100000 in
set_option maxHeartbeats 4000000 in
theorem delete_cell (g cap i : Nat) (cs : List TCell) (base : Nat) (w : World) (h : w.ownsRow base 65 11 (.slice (some ⟨g, 0, none⟩) cs.length cap) cs.length (cs.flatMap cellE)) (hi : i < cs.length) (hn : cs.length ≤ 1048576) :
    Calls Tryd.prog 67 #[.slice (some ⟨g, 0, none⟩) cs.length cap, .int .i64 i, .int .i64 ((i : Int) + 1)] w fun e w' =>
      e = .returned (.slice (some ⟨g, 0, none⟩) (cs.length - 1) cap) ∧ w'.ownsRow base 65 11 (.slice (some ⟨g, 0, none⟩) (cs.length - 1) cap) (cs.length - 1) ((cs.take i ++ cs.drop (i + 1)).flatMap cellE) ∧ w.grownBy w' (some g) := by
  obtain ⟨i0, hi0, hz0, hz1, hz2⟩ := info_parts info_cell
  have hcap : cs.length ≤ cap ∧ cap ≤ maxLen := by
    rcases h.2 with ⟨e, _⟩ | ⟨g', cap', cur, e, _, _, h1, h2, _⟩
    · cases e
    · injection e with _ _ e2; subst e2; exact ⟨h1, h2⟩
  have hcap1 := hcap.1
  have hcap2 := hcap.2
  unfold maxLen at hcap2
  obtain ⟨news, hnews⟩ : ∃ news, news = (cs.drop (i + 1)).flatMap cellE := ⟨_, rfl⟩
  have hlen : news.length = (cs.length - 1 - i) * 11 := by rw [hnews, flatMap_length cellE 11 (fun _ => rfl), List.length_drop]; congr 1; omega
  have hX : (cs.flatMap cellE).length = cs.length * 11 := flatMap_length cellE 11 (fun _ => rfl) cs
  have hcell : ∀ t, t < cs.length * 11 → (w.cell? ⟨g, t, none⟩).isSome = true := fun t ht => by
    have := h.cellAt t ht
    rw [List.getElem?_eq_getElem (by omega)] at this
    rw [this]; rfl
  have hfr : ∀ t, w.frozen? ⟨g, t, none⟩ = false := fun t => h.frozenAt t
  obtain ⟨A, hA, hsrc⟩ : ∃ A : Addr, (if cap = i + 1 then some (⟨g, 0, none⟩ : Addr) else some ⟨g, (i + 1) * 11, none⟩) = some A ∧ Hid (∀ t u, news[t]? = some u → w.drew.cell? (A.add t) = some u) := by
    by_cases hc : cap = i + 1
    · refine ⟨⟨g, 0, none⟩, by simp [hc], fun t u hu => ?_⟩
      have h0 : news.length = 0 := by rw [hlen]; omega
      rw [List.length_eq_zero_iff.1 h0] at hu
      simp at hu
    · refine ⟨⟨g, (i + 1) * 11, none⟩, by simp [hc], fun t u hu => ?_⟩
      have ht := (List.getElem?_eq_some_iff.1 hu).1
      rw [Addr.add_lit]
      have h1 := h.cellAt ((i + 1) * 11 + t) (by omega)
      rw [← List.getElem?_drop, flat_drop cellE 11 (fun _ => rfl), ← hnews, hu] at h1
      exact h1
  have s1 : Hid (news.length = (cs.length - (i + 1)) * 11) := by show news.length = _; rw [hlen]; congr 1; omega
  have s2 : Hid (∀ u ∈ news, u.oneCell' = true) := by rw [hnews]; exact cells_one _
  have s3 : Hid (∀ t, t < news.length → (w.drew.cell? ⟨g, 0 + i * 11 + t, none⟩).isSome = true ∧ w.drew.frozen? ⟨g, 0 + i * 11 + t, none⟩ = false) := by
    intro t ht
    rw [Nat.zero_add]
    exact ⟨hcell _ (by omega), hfr _⟩
  obtain ⟨W1, hW1⟩ : ∃ W1, W1 = w.drew.setCells g (0 + i * 11) news := ⟨_, rfl⟩
  have hsome : ∀ t, t < cs.length * 11 → (W1.cell? ⟨g, t, none⟩).isSome = true := fun t ht => by
    have h1 := own_setCells news (0 + i * 11) w.drew _ (World.ownsRow.drew h)
    rw [← hW1] at h1
    have h2 := h1.cellAt t ht
    rw [List.getElem?_eq_getElem (by rw [setL_length]; omega)] at h2
    rw [h2]; rfl
  have hcl : ∀ ty c, (Builtin.clear_ #[82] ty #[.slice (some ⟨g, (cs.length - 1) * 11, none⟩) 1 c]).run Tryd.prog W1 = .ok (.tuple #[]) (W1.setCells g ((cs.length - 1) * 11) cellZ.cells.toList) := fun ty c =>
    run_clear_one W1 _ _ ty cellZ und_cloneCells zero_cell cellZ_one g _ c (fun t ht => hsome _ (by rw [cellZ_len] at ht; omega)) (fun t ht => by rw [hW1, World.frozen?_setCells]; exact hfr _) cellZ_cells
  have X : Aside ((W1.setCells g ((cs.length - 1) * 11) cellZ.cells.toList).ownsRow base 65 11 (.slice (some ⟨g, 0, none⟩) (cs.length - 1) cap) (cs.length - 1) ((cs.take i ++ cs.drop (i + 1)).flatMap cellE) ∧ w.grownBy (W1.setCells g ((cs.length - 1) * 11) cellZ.cells.toList) (some g)) := by
    rw [hW1, hnews, Nat.zero_add]
    exact ⟨own_delete cellE (fun _ => rfl) cs i hi _ cellZ_len (World.ownsRow.drew h), grow_trans (grow_trans (grow_below (bdrew (brefl w))) (grow_setCells _ _ _)) (grow_setCells _ _ _)⟩
  have hW : Hid (W1 = w.drew.setCells g (0 + i * 11) news) := hW1
  obtain ⟨m, hm⟩ : ∃ m, cs.length = m + 1 := ⟨cs.length - 1, by omega⟩
  clear hW1 hcell hfr hnews hlen hX hsome h
  rw [hm] at hi hn hcap1 X hcl s1 ⊢
  rw [Nat.add_sub_cancel] at X hcl ⊢
  obtain ⟨zs, hzs⟩ : ∃ zs, zs = cellZ.cells.toList := ⟨_, rfl⟩
  rw [← hzs] at X hcl
  clear hzs
  have HM := hide hm
  have s1 : Hid (news.length = (m - i) * 11) := by have := s1.out; rwa [Nat.add_sub_add_right] at this
  clear hcap hm
  have hic : i ≤ cap := by omega
  have hic2 : i + 1 ≤ cap := by omega
  have hne : ¬ ((i : Int) = (i : Int) + 1) := by omega
  have e1 : ((i : Int) + 1).toNat = i + 1 := by omega
  have e2 : i + (m - i) = m := by omega
  have e4 : ¬ cap = m := by omega
  have e5 : (0 : Int) ≤ (i : Int) + 1 := by omega
  have e6 : (i : Int) + 1 ≤ (m : Int) + 1 := by omega
  go_enter Tryd.func67, Tryd.ntmps67
  go_wp2_with fail
  go_region_law (refine step_append_room rfl (.tmp 22) (.tmp 25) 82 rfl 65 i0 11 und_cloneCells hi0 hz1 g 0 i cap (by simp [Act.eval, Act.put]) A (m - i) (cap - (i + 1)) news (by simp [Act.eval, Act.put, *]) s1.out hsrc.out s2.out (by omega) s3.out ?_; rw [← hW.out])
  clear s1 s2 s3 hsrc hA hW e1 e5 e6 hne
  rename_i K hK
  refine hK _ _ ?_
  clear hK K
  simp only [Act.put, List.getElem_toArray, List.getElem_cons_succ, List.getElem_cons_zero, List.setIfInBounds_toArray, List.set_cons_zero, List.set_cons_succ]
  go_wp2_with fail
  go_ret
  exact ⟨rfl, X.out⟩
end Go.Proofs.YtfcogogpioeggaaDoor
