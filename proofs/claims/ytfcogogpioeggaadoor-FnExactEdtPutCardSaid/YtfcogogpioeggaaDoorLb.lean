import Derived.Test.YtfcogogpioeggaaDoorLa
import Derived.IntWalk
namespace Go.Proofs.YtfcogogpioeggaaDoor
open Go.RowKit
/- slices.Insert of one element. -/
theorem int_i64 : Tryd.prog.underlying 3 = some (.int .i64) := by kernel_rfl

theorem ins_und_Row : Tryd.prog.underlying 31 = some (.slice 84) := by kernel_rfl
theorem ins_size_Row : ∀ w, (Go.sizeOf 84).run Tryd.prog w = .ok 2 w := fun _ => by kernel_rfl
theorem ins_info_Row : (Tryd.prog.info? 84).map (fun i => (i.zero, i.size, i.bytes)) = some (some (.agg #[.slice none 0 0, .bool false]), 2, 32) := by kernel_rfl
set_option maxRecDepth 100000 in
set_option maxHeartbeats 4000000 in
theorem ins_end_Row (base : Nat) (v : Value) (n vb : Nat) (X news : List Value) (w : World) (h : w.ownsRow base 84 2 v n X) (hn : n ≤ 1048576) (hb : base ≤ w.heap.size) (hv : w.heap[vb]? = some (.cells news.toArray 84 (0, 0))) (hl : news.length = 2) (h1 : ∀ u ∈ news, u.oneCell' = true) :
    Calls Tryd.prog 69 #[v, .int .i64 n, .slice (some ⟨vb, 0, none⟩) 1 1] w fun e w' => ∃ v', e = .returned v' ∧ w'.ownsRow base 84 2 v' (n + 1) (X ++ news) ∧ w.grownBy w' v.ownBlock ∧ ∀ b, v'.ownBlock = some b → v.ownBlock = some b ∨ w.heap.size ≤ b := by
  obtain ⟨i0, hi0, hz0, hz1, hz2⟩ := info_parts ins_info_Row
  have hcell : Hid (∀ j u, news[j]? = some u → w.cell? ((⟨vb, 0, none⟩ : Addr).add j) = some u) := fun j u hj => by
    rw [Addr.add_lit, Nat.zero_add, cell_of_row w vb j _ _ _ hv]
    simpa using hj
  have H := hide h
  have HL := hide hl
  have H1 := hide h1
  obtain ⟨v9, w9, hrun, hown9, hgrow9, hloc9⟩ := run_append_at (P := Tryd.prog) w base 31 31 84 i0 _ 2 32 ins_und_Row hi0 hz0 hz1 hz2 rfl (by decide) v n X h ⟨vb, 0, none⟩ 1 1 news (by rw [hl]) hcell.out h1 (by unfold maxLen; omega) (by omega) hb
  have HRUN := hide hrun
  have HO := hide hown9
  have HG := hide hgrow9
  have HW := hide hloc9
  clear hrun hown9 hgrow9 hloc9
  obtain ⟨A, c, rfl⟩ := own_form0 h
  have hnc : n ≤ c := by
    rcases h.2 with ⟨e, h0⟩ | ⟨g', cap', cur, e, _, _, h1, _⟩
    · omega
    · injection e with _ _ e2; subst e2; exact h1
  have hc63 : c ≤ 9223372036854775807 := by
    rcases h.2 with ⟨e, h0⟩ | ⟨g', cap', cur, e, _, _, _, h2, _⟩
    · injection e with _ _ e2; omega
    · injection e with _ _ e2; subst e2; unfold maxLen at h2; omega
  have hA : (A = none ∧ n = 0 ∧ c = 0) ∨ ∃ g, A = some ⟨g, 0, none⟩ := by
    rcases h.2 with ⟨e, h0⟩ | ⟨g', cap', cur, e, _, _, _, h2, _⟩
    · injection e with e e1 e2; exact .inl ⟨e, e1, e2⟩
    · injection e with e _ _; exact .inr ⟨g', e⟩
  clear h hv hl h1
  rcases hA with ⟨rfl, rfl, rfl⟩ | ⟨g, rfl⟩
  · show Calls Tryd.prog 69 #[.slice none 0 0, .int .i64 0, .slice (some ⟨vb, 0, none⟩) 1 1] w _
    go_enter Tryd.func69, Tryd.ntmps69
    go_wp2_with (at_builtin; refine Lib.wpList_append_run _ rfl _ _ _ _ rfl (.slice none 0 0) (.slice (some ⟨vb, 0, none⟩) 1 1) rfl rfl v9 w9 HRUN.out ?_)
    go_wp2_with fail
    go_ret
    exact ⟨v9, rfl, HO.out, HG.out, HW.out⟩
  · by_cases hcn : c = n
    · have hcn := hcn.symm
      subst hcn
      go_enter Tryd.func69, Tryd.ntmps69
      go_wp2_with (at_builtin; refine Lib.wpList_append_run _ rfl _ _ _ _ rfl (.slice (some ⟨g, 0, none⟩) n n) (.slice (some ⟨vb, 0, none⟩) 1 1) rfl rfl v9 w9 HRUN.out ?_)
      go_wp2_with fail
      go_ret
      exact ⟨v9, rfl, HO.out, HG.out, HW.out⟩
    · go_enter Tryd.func69, Tryd.ntmps69
      go_wp2_with (at_builtin; refine Lib.wpList_append_run _ rfl _ _ _ _ rfl (.slice (some ⟨g, 0, none⟩) n c) (.slice (some ⟨vb, 0, none⟩) 1 1) rfl rfl v9 w9 HRUN.out ?_)
      go_wp2_with fail
      go_ret
      exact ⟨v9, rfl, HO.out, HG.out, HW.out⟩
set_option maxRecDepth 100000 in
set_option maxHeartbeats 4000000 in
theorem ins_shift_Row (base g n c i vb : Nat) (X news : List Value) (w : World) (h : w.ownsRow base 84 2 (.slice (some ⟨g, 0, none⟩) n c) n X) (hi : i < n) (hroom : n + 1 ≤ c) (hn : n ≤ 1048576) (hvb : vb ≠ g) (hv : w.heap[vb]? = some (.cells news.toArray 84 (0, 0))) (hl : news.length = 2) (hX1 : ∀ u ∈ X, u.oneCell' = true) (h1 : ∀ u ∈ news, u.oneCell' = true) :
    Calls Tryd.prog 69 #[.slice (some ⟨g, 0, none⟩) n c, .int .i64 i, .slice (some ⟨vb, 0, none⟩) 1 1] w fun e w' => ∃ v', e = .returned v' ∧ w'.ownsRow base 84 2 v' (n + 1) (X.take (i * 2) ++ news ++ X.drop (i * 2)) ∧ w.grownBy w' (some g) ∧ ∀ b, v'.ownBlock = some b → some g = some b ∨ w.heap.size ≤ b := by
  obtain ⟨i0, hi0, hz0, hz1, hz2⟩ := info_parts ins_info_Row
  have hsz : (Tryd.prog.info? 84).map (·.size) = some 2 := by rw [hi0]; simp [hz1]
  have hc63 : c ≤ 9223372036854775807 := by
    rcases h.2 with ⟨e, h0⟩ | ⟨g', cap', cur, e, _, _, _, h2, _⟩
    · cases e
    · injection e with _ _ e2; subst e2; unfold maxLen at h2; omega
  have hXl := h.1
  obtain ⟨Y, hYl, hmo⟩ := own_more h hroom
  obtain ⟨kB, hsb, hkB⟩ := own_shape h (by decide) (by omega)
  have hdl : (X.drop (i * 2)).length = (n - i) * 2 := by rw [List.length_drop, hXl, Nat.sub_mul]
  have hov : ∀ lb cb, (callFunc 100 #[.slice (some ⟨vb, 0, none⟩) 1 1, .slice (some ⟨g, (i + 1) * 2, none⟩) lb cb]).run Tryd.prog w = .ok (.value (.bool false)) w := fun lb cb => by
    rw [run_callFunc_extern Tryd.func100 (by kernel_rfl) (by kernel_rfl) (by kernel_rfl) (e := Extern.SlicesOverlaps.overlaps #[31, 31] #[4]) (by kernel_rfl),
      Lib.run_overlaps_apart w 31 4 84 ins_und_Row 2 ins_size_Row ⟨vb, 0, none⟩ ⟨g, (i + 1) * 2, none⟩ 1 1 lb cb hvb 84 84 news.length kB (by simp [World.shape?, hv]) hsb hkB (frozen_of_row w vb _ _ _ hv) (frozen_of_row w vb _ _ _ hv)]
    rfl
  have hcp1 : ∀ ty dc sc, (Builtin.copy_ #[31, 31] ty #[.slice (some ⟨g, (i + 1) * 2, none⟩) (n + 1 - (i + 1)) dc, .slice (some ⟨g, i * 2, none⟩) (n + 1 - i) sc]).run Tryd.prog w.drew = .ok (goInt ((n - i : Nat) : Int)) (w.drew.setCells g ((i + 1) * 2) (X.drop (i * 2))) := fun ty dc sc => by
    have := run_copy_k (P := Tryd.prog) w.drew 31 31 ty 84 2 g ((i + 1) * 2) (n + 1 - (i + 1)) dc ⟨g, i * 2, none⟩ (n + 1 - i) sc (X.drop (i * 2)) ins_und_Row hsz (by rw [hdl]; congr 1; simp only [Nat.min_def]; split <;> omega)
      (fun j u hj => by rw [Addr.add_lit]; rw [List.getElem?_drop] at hj; exact own_get h hj)
      (fun j hj => own_some hmo (by rw [hdl] at hj; omega)) (fun j _ => h.frozenAt _) (fun u hu => hX1 u (List.mem_of_mem_drop hu))
    rwa [show Nat.min (n + 1 - i) (n + 1 - (i + 1)) = n - i by simp only [Nat.min_def]; split <;> omega] at this
  obtain ⟨W1, hW1⟩ : ∃ W1, W1 = w.drew.setCells g ((i + 1) * 2) (X.drop (i * 2)) := ⟨_, rfl⟩
  have hm1 : W1.ownsRow base 84 2 (.slice (some ⟨g, 0, none⟩) (n + 1) c) (n + 1) (setL (X ++ Y) ((i + 1) * 2) (X.drop (i * 2))) := hW1 ▸ own_setCells _ _ _ _ (World.ownsRow.drew hmo)
  have hg1 : w.drew.grownBy W1 (some g) := hW1 ▸ grow_setCells _ _ _
  have hv1 : W1.heap[vb]? = some (.cells news.toArray 84 (0, 0)) := (hg1.block vb (Array.getElem?_eq_some_iff.1 hv).1 (fun e => hvb (by injection e))).trans hv
  have hcp2 : ∀ ty dc, (Builtin.copy_ #[31, 31] ty #[.slice (some ⟨g, i * 2, none⟩) (n + 1 - i) dc, .slice (some ⟨vb, 0, none⟩) 1 1]).run Tryd.prog W1 = .ok (goInt 1) (W1.setCells g (i * 2) news) := fun ty dc => by
    have := run_copy_k (P := Tryd.prog) W1 31 31 ty 84 2 g (i * 2) (n + 1 - i) dc ⟨vb, 0, none⟩ 1 1 news ins_und_Row hsz (by rw [hl]; simp only [Nat.min_def]; split <;> omega)
      (fun j u hj => by rw [Addr.add_lit, Nat.zero_add, cell_of_row W1 vb j _ _ _ hv1]; simpa using hj)
      (fun j hj => own_some hm1 (by omega)) (fun j _ => hm1.frozenAt _) h1
    rwa [show Nat.min 1 (n + 1 - i) = 1 by simp only [Nat.min_def]; split <;> omega] at this
  rw [← hW1] at hcp1
  have FIN : Hid ((W1.setCells g (i * 2) news).ownsRow base 84 2 (.slice (some ⟨g, 0, none⟩) (n + 1) c) (n + 1) (X.take (i * 2) ++ news ++ X.drop (i * 2)) ∧ w.grownBy (W1.setCells g (i * 2) news) (some g)) := by
    have := own_setCells news (i * 2) _ _ hm1
    rw [ins_shift hXl hYl hl (by omega)] at this
    exact ⟨this, grow_trans (grow_trans (grow_below (bdrew (brefl w))) hg1) (grow_setCells _ _ _)⟩
  have hz2' : ¬ ((i : Int) = (n : Int)) := by omega
  have hw1 : IntKind.i64.wrap ((i : Int) + 1) = (i : Int) + 1 := IntWalk.i64_in _ (by omega)
  have hb1 : (0 : Int) ≤ (i : Int) + 1 := by omega
  have hin : i ≤ n := by omega
  have hic : i ≤ c := by omega
  have hic2 : i + 1 ≤ c := by omega
  have htn : ((i : Int) + 1).toNat = i + 1 := by omega
  have hb2 : ¬ (c = i + 1) := by omega
  have hb3 : (i : Int) + 1 ≤ (n : Int) + 1 := by omega
  have hb3' : (i : Int) ≤ (n : Int) + 1 := by omega
  have hb4 : ¬ (c = i) := by omega
  clear h hv hl hX1 h1 hXl hYl hmo hsb hkB hdl hm1 hg1 hv1 hW1 hsz
  go_enter Tryd.func69, Tryd.ntmps69
  go_wp2_with (simp only [hov])
  go_region_law (refine step_copy_run rfl (.tmp 73) (.tmp 76) 31 31 rfl (.slice (some ⟨g, (i + 1) * 2, none⟩) (n + 1 - (i + 1)) (c - (i + 1))) (.slice (some ⟨g, i * 2, none⟩) (n + 1 - i) (c - i)) (by simp [Act.eval, Act.put]) (by simp [Act.eval, Act.put]) (hcp1 _ _ _) ?_)
  rename_i K hK
  refine hK _ _ ?_
  clear hK K
  try simp only [Act.put, List.getElem_toArray, List.getElem_cons_succ, List.getElem_cons_zero, List.setIfInBounds_toArray, List.set_cons_zero, List.set_cons_succ]
  go_wp2_with (at_builtin; refine wpList_copy_run _ rfl _ _ 31 31 rfl _ _ rfl rfl (hcp2 _ _) ?_)
  go_ret
  exact ⟨_, rfl, FIN.out.1, FIN.out.2, fun b hb => .inl hb⟩
set_option maxRecDepth 100000 in
set_option maxHeartbeats 4000000 in
theorem ins_grow_Row (base g n c i vb : Nat) (X news : List Value) (w : World) (h : w.ownsRow base 84 2 (.slice (some ⟨g, 0, none⟩) n c) n X) (hi : i < n) (hroom : c < n + 1) (hn : n ≤ 1048576) (hb : base ≤ w.heap.size) (hv : w.heap[vb]? = some (.cells news.toArray 84 (0, 0))) (hl : news.length = 2) (hX1 : ∀ u ∈ X, u.oneCell' = true) (h1 : ∀ u ∈ news, u.oneCell' = true) :
    Calls Tryd.prog 69 #[.slice (some ⟨g, 0, none⟩) n c, .int .i64 i, .slice (some ⟨vb, 0, none⟩) 1 1] w fun e w' => ∃ v', e = .returned v' ∧ w'.ownsRow base 84 2 v' (n + 1) (X.take (i * 2) ++ news ++ X.drop (i * 2)) ∧ w.grownBy w' (some g) ∧ ∀ b, v'.ownBlock = some b → some g = some b ∨ w.heap.size ≤ b := by
  obtain ⟨i0, hi0, hz0, hz1, hz2⟩ := info_parts ins_info_Row
  have hsz : (Tryd.prog.info? 84).map (·.size) = some 2 := by rw [hi0]; simp [hz1]
  have hc63 : n ≤ c := by
    rcases h.2 with ⟨e, h0⟩ | ⟨g', cap', cur, e, _, _, h1, h2, _⟩
    · cases e
    · injection e with _ _ e2; subst e2; exact h1
  have hXl := h.1
  have hdl : (X.drop (i * 2)).length = (n - i) * 2 := by rw [List.length_drop, hXl, Nat.sub_mul]
  have htl : (X.take (i * 2)).length = i * 2 := by rw [List.length_take, hXl]; omega
  have hgl := (own_lt h (b := g) rfl).2
  have hvl := (Array.getElem?_eq_some_iff.1 hv).1
  obtain ⟨z, hzd⟩ : ∃ z : Value, z = .agg #[.slice none 0 0, .bool false] := ⟨_, rfl⟩
  have hzs : z.cells.size = 2 := by rw [hzd]; rfl
  rw [← hzd] at hz0
  clear hzd
  have hold : (Builtin.firstCells i0.size i (.slice (some ⟨g, 0, none⟩) i c)).run Tryd.prog w.drew = .ok (X.take (i * 2)).toArray w.drew := by
    rw [hz1]
    exact run_firstCells_some w.drew 2 i ⟨g, 0, none⟩ i c (X.take (i * 2)) htl (fun j u hj => by
      rw [Addr.add_lit, Nat.zero_add]
      rw [List.getElem?_take] at hj
      split at hj
      · exact own_get h hj
      · cases hj)
  have hkk : (n : Int) + 1 - (i : Int) = ((n + 1 - i : Nat) : Int) := by omega
  have hik : i + (n + 1 - i) = n + 1 := by omega
  obtain ⟨G, hG⟩ : ∃ G, G = grownCap w (n + 1) c 84 := ⟨_, rfl⟩
  obtain ⟨ROW, hROW⟩ : ∃ ROW : Array Value, ROW = (X.take (i * 2)).toArray ++ Builtin.zeroCells z.cells (n + 1 - i) ++ Builtin.zeroCells z.cells (G - (n + 1)) := ⟨_, rfl⟩
  obtain ⟨W1, hW1⟩ : ∃ W1, W1 = w.drew.alloc (.cells ROW 84) := ⟨_, rfl⟩
  have hrz : ∀ ty, (Builtin.append_ #[31, 3] ty #[.slice (some ⟨g, 0, none⟩) i c, .int .i64 ((n : Int) + 1 - (i : Int))]).run Tryd.prog w = .ok (.slice (some ⟨w.heap.size, 0, none⟩) (n + 1) G) W1 := fun ty => by
    have h := Lib.run_append_grow_zeros w 31 3 ty 84 i0 z .i64 .i64 ins_und_Row int_i64 hi0 hz0 (some ⟨g, 0, none⟩) i c (X.take (i * 2)) hold (n + 1 - i) (by omega) (by omega) (by omega) (by omega) (by rw [hz2]; omega) (by rw [hz2, hik]; exact growslice_fits hroom (by omega))
    rw [hik, ← hG, ← hROW, ← hW1] at h
    rw [hkk]
    exact h
  have hGn : n + 1 ≤ G := by rw [hG]; exact grownCap_ge w _ _ _
  have hGm : G ≤ maxLen := by rw [hG]; exact grownCap_le_maxLen w (n + 1) c _ (by unfold maxLen; omega)
  have hzn : (Builtin.zeroCells z.cells (n + 1 - i)).size = (n + 1 - i) * 2 := by rw [size_zeroCells, hzs]
  have hRs : ROW.size = G * 2 := by
    rw [hROW]
    simp only [Array.size_append, List.size_toArray, htl, hzn, size_zeroCells, hzs]
    omega
  have hm1 : W1.ownsRow base 84 2 (.slice (some ⟨w.heap.size, 0, none⟩) (n + 1) G) (n + 1) (X.take (i * 2) ++ (Builtin.zeroCells z.cells (n + 1 - i)).toList) := by
    have hl9 : (X.take (i * 2) ++ (Builtin.zeroCells z.cells (n + 1 - i)).toList).length = (n + 1) * 2 := by rw [List.length_append, htl, Array.length_toList, hzn]; omega
    refine ⟨hl9, .inr ⟨w.heap.size, G, ROW, rfl, hb, by rw [hW1]; exact heap_alloc_new w.drew _, hGn, hGm, hRs, ?_⟩⟩
    have e : ROW.toList = (X.take (i * 2) ++ (Builtin.zeroCells z.cells (n + 1 - i)).toList) ++ (Builtin.zeroCells z.cells (G - (n + 1))).toList := by rw [hROW]; simp
    rw [e, List.take_append_of_le_length (by rw [hl9]; exact Nat.le_refl _), List.take_of_length_le (by rw [hl9]; exact Nat.le_refl _)]
  have hb1 : ∀ k, k < w.heap.size → W1.heap[k]? = w.heap[k]? := fun k hk => by rw [hW1]; exact heap_alloc_old w.drew _ hk
  have hv1 : W1.heap[vb]? = some (.cells news.toArray 84 (0, 0)) := (hb1 vb hvl).trans hv
  have hcpA : ∀ ty dc, (Builtin.copy_ #[31, 31] ty #[.slice (some ⟨w.heap.size, i * 2, none⟩) (n + 1 - i) dc, .slice (some ⟨vb, 0, none⟩) 1 1]).run Tryd.prog W1 = .ok (goInt 1) (W1.setCells w.heap.size (i * 2) news) := fun ty dc => by
    have := run_copy_k (P := Tryd.prog) W1 31 31 ty 84 2 w.heap.size (i * 2) (n + 1 - i) dc ⟨vb, 0, none⟩ 1 1 news ins_und_Row hsz (by rw [hl]; simp only [Nat.min_def]; split <;> omega)
      (fun j u hj => by rw [Addr.add_lit, Nat.zero_add, cell_of_row W1 vb j _ _ _ hv1]; simpa using hj)
      (fun j hj => own_some hm1 (by omega)) (fun j _ => hm1.frozenAt _) h1
    rwa [show Nat.min 1 (n + 1 - i) = 1 by simp only [Nat.min_def]; split <;> omega] at this
  obtain ⟨W2, hW2⟩ : ∃ W2, W2 = W1.setCells w.heap.size (i * 2) news := ⟨_, rfl⟩
  rw [← hW2] at hcpA
  have hm2 := own_setCells news (i * 2) _ _ hm1
  rw [← hW2] at hm2
  have hb2 : ∀ k, k < w.heap.size → W2.heap[k]? = w.heap[k]? := fun k hk => by
    rw [hW2]
    exact ((grow_setCells (g := w.heap.size) news (i * 2) W1).block k (by rw [hW1]; simp; omega) (fun e => by injection e with e; omega)).trans (hb1 k hk)
  have hcpB : ∀ ty dc sc, (Builtin.copy_ #[31, 31] ty #[.slice (some ⟨w.heap.size, (i + 1) * 2, none⟩) (n + 1 - (i + 1)) dc, .slice (some ⟨g, i * 2, none⟩) (n - i) sc]).run Tryd.prog W2.drew = .ok (goInt ((n - i : Nat) : Int)) (W2.drew.setCells w.heap.size ((i + 1) * 2) (X.drop (i * 2))) := fun ty dc sc => by
    have := run_copy_k (P := Tryd.prog) W2.drew 31 31 ty 84 2 w.heap.size ((i + 1) * 2) (n + 1 - (i + 1)) dc ⟨g, i * 2, none⟩ (n - i) sc (X.drop (i * 2)) ins_und_Row hsz (by rw [hdl]; congr 1; simp only [Nat.min_def]; split <;> omega)
      (fun j u hj => by rw [Addr.add_lit]; rw [List.getElem?_drop] at hj; exact (World.cell?_of_block (w := w) (w' := W2.drew) (hb2 g hgl)).trans (own_get h hj))
      (fun j hj => own_some (World.ownsRow.drew hm2) (by rw [hdl] at hj; omega)) (fun j _ => hm2.frozenAt _) (fun u hu => hX1 u (List.mem_of_mem_drop hu))
    rwa [show Nat.min (n - i) (n + 1 - (i + 1)) = n - i by simp only [Nat.min_def]; split <;> omega] at this
  have FIN : Hid ((W2.drew.setCells w.heap.size ((i + 1) * 2) (X.drop (i * 2))).ownsRow base 84 2 (.slice (some ⟨w.heap.size, 0, none⟩) (n + 1) G) (n + 1) (X.take (i * 2) ++ news ++ X.drop (i * 2)) ∧ w.grownBy (W2.drew.setCells w.heap.size ((i + 1) * 2) (X.drop (i * 2))) (some g)) := by
    have := own_setCells (X.drop (i * 2)) ((i + 1) * 2) _ _ (World.ownsRow.drew hm2)
    rw [ins_grow hXl (by rw [Array.length_toList, hzn]) hl (by omega)] at this
    have g1 := grow_setCells (g := w.heap.size) (X.drop (i * 2)) ((i + 1) * 2) W2.drew
    have g2 := grow_setCells (g := w.heap.size) news (i * 2) W1
    rw [← hW2] at g2
    have hs1 : w.heap.size < W1.heap.size := by rw [hW1]; simp
    have o1 : W1.os = w.os := by rw [hW1]; rfl
    have o2 : W1.tape = w.tape := by rw [hW1]; rfl
    have o3 : W1.output = w.output := by rw [hW1]; rfl
    refine ⟨this, ⟨g1.os.trans (g2.os.trans o1), g1.tape.trans (g2.tape.trans o2), g1.output.trans (g2.output.trans o3), Nat.le_trans (Nat.le_of_lt hs1) (Nat.le_trans g2.size g1.size), fun k hk _ => ?_⟩⟩
    exact (g1.block k (Nat.lt_of_lt_of_le (Nat.lt_trans hk hs1) g2.size) (fun e => by injection e with e; omega)).trans (hb2 k hk)
  have hz2' : ¬ ((i : Int) = (n : Int)) := by omega
  have hw1 : IntKind.i64.wrap ((i : Int) + 1) = (i : Int) + 1 := IntWalk.i64_in _ (by omega)
  have hbb1 : (0 : Int) ≤ (i : Int) + 1 := by omega
  have hin : i ≤ n := by omega
  have hic : i ≤ c := by omega
  have hiG : i ≤ G := by omega
  have hiG2 : i + 1 ≤ G := by omega
  have htn : ((i : Int) + 1).toNat = i + 1 := by omega
  have hG1 : ¬ (G = i + 1) := by omega
  have hG2 : ¬ (G = i) := by omega
  have hb3 : (i : Int) + 1 ≤ (n : Int) + 1 := by omega
  have hb3' : (i : Int) ≤ (n : Int) + 1 := by omega
  have hb4 : ¬ (c = i) := by omega
  have hGc : G ≤ 9223372036854775807 := by unfold maxLen at hGm; omega
  clear h hv hl hX1 h1 hXl hsz hdl htl hm1 hm2 hv1 hb1 hb2 hW1 hW2 hRs hzn hROW hG hold hzs hkk hik hGm hz0 hz1 hz2 hi0 hgl hvl
  go_enter Tryd.func69, Tryd.ntmps69
  go_wp2_with (first
    | (at_builtin; refine Lib.wpList_append_run _ rfl _ _ _ _ rfl _ _ rfl rfl _ _ (hrz _) ?_)
    | (with_reducible refine wpList_copy_run _ rfl (.tmp 43) (.tmp 44) 31 31 rfl (.slice (some ⟨w.heap.size, i * 2, none⟩) (n + 1 - i) (G - i)) (.slice (some ⟨vb, 0, none⟩) 1 1) rfl rfl (hcpA _ _) ?_))
  go_region_law (refine step_copy_run rfl (.tmp 50) (.tmp 53) 31 31 rfl (.slice (some ⟨w.heap.size, (i + 1) * 2, none⟩) (n + 1 - (i + 1)) (G - (i + 1))) (.slice (some ⟨g, i * 2, none⟩) (n - i) (c - i)) (by simp [Act.eval, Act.put]) (by simp [Act.eval, Act.put]) (hcpB _ _ _) ?_)
  rename_i K hK
  refine hK _ _ ?_
  clear hK K
  try simp only [Act.put, List.getElem_toArray, List.getElem_cons_succ, List.getElem_cons_zero, List.setIfInBounds_toArray, List.set_cons_zero, List.set_cons_succ]
  go_wp2_with fail
  go_ret
  exact ⟨_, rfl, FIN.out.1, FIN.out.2, fun b hb => .inr (by have e : w.heap.size = b := (by simpa [Value.ownBlock] using hb); omega)⟩
theorem insertL_Row (base : Nat) (v : Value) (n i vb : Nat) (X news : List Value) (w : World) (h : w.ownsRow base 84 2 v n X) (hi : i ≤ n) (hn : n ≤ 1048576) (hb : base ≤ w.heap.size) (hvb : v.ownBlock ≠ some vb) (hv : w.heap[vb]? = some (.cells news.toArray 84 (0, 0))) (hl : news.length = 2) (hX1 : ∀ u ∈ X, u.oneCell' = true) (h1 : ∀ u ∈ news, u.oneCell' = true) :
    Calls Tryd.prog 69 #[v, .int .i64 i, .slice (some ⟨vb, 0, none⟩) 1 1] w fun e w' => ∃ v', e = .returned v' ∧ w'.ownsRow base 84 2 v' (n + 1) (X.take (i * 2) ++ news ++ X.drop (i * 2)) ∧ w.grownBy w' v.ownBlock ∧ ∀ b, v'.ownBlock = some b → v.ownBlock = some b ∨ w.heap.size ≤ b := by
  rcases Nat.eq_or_lt_of_le hi with rfl | hlt
  · have := ins_end_Row base v i vb X news w h hn hb hv hl h1
    rw [List.take_of_length_le (by rw [h.1]; exact Nat.le_refl _), List.drop_of_length_le (by rw [h.1]; exact Nat.le_refl _), List.append_nil]
    exact this
  · rcases h.2 with ⟨rfl, h0⟩ | ⟨g, c, cur, rfl, _⟩
    · omega
    · by_cases hr : n + 1 ≤ c
      · exact ins_shift_Row base g n c i vb X news w h hlt hr hn (fun e => hvb (by rw [e]; rfl)) hv hl hX1 h1
      · exact ins_grow_Row base g n c i vb X news w h hlt (by omega) hn hb hv hl hX1 h1
theorem insert_Row (base : Nat) (v : Value) (n i vb : Nat) (X news : List Value) (w : World) (h : w.ownsRow base 84 2 v n X) (hi : i ≤ n) (hn : n ≤ 1048576) (hb : base ≤ w.heap.size) (hvb : v.ownBlock ≠ some vb) (hv : w.heap[vb]? = some (.cells news.toArray 84 (0, 0))) (hl : news.length = 2) (hX1 : ∀ u ∈ X, u.oneCell' = true) (h1 : ∀ u ∈ news, u.oneCell' = true) :
    Calls Tryd.prog 69 #[v, .int .i64 i, .slice (some ⟨vb, 0, none⟩) 1 1] w fun e w' => ∃ v', e = .returned v' ∧ w'.ownsRow base 84 2 v' (n + 1) (X.take (i * 2) ++ news ++ X.drop (i * 2)) ∧ w.grownBy w' v.ownBlock := by
  refine (insertL_Row base v n i vb X news w h hi hn hb hvb hv hl hX1 h1).mono ?_
  rintro e w' ⟨v', h1, h2, h3, _⟩
  exact ⟨v', h1, h2, h3⟩

theorem ins_und_Cell : Tryd.prog.underlying 82 = some (.slice 65) := by kernel_rfl
theorem ins_size_Cell : ∀ w, (Go.sizeOf 65).run Tryd.prog w = .ok 11 w := fun _ => by kernel_rfl
theorem ins_info_Cell : (Tryd.prog.info? 65).map (fun i => (i.zero, i.size, i.bytes)) = some (some (.agg #[.string ⟨#[]⟩, .int .i64 0, .int .i64 0, .int .i64 0, .int .i64 0, .int .i64 0, .int .i64 0, .int .i64 0, .int .i64 0, .int .i64 0, .int .i64 0]), 11, 96) := by kernel_rfl
set_option maxRecDepth 100000 in
set_option maxHeartbeats 4000000 in
theorem ins_end_Cell (base : Nat) (v : Value) (n vb : Nat) (X news : List Value) (w : World) (h : w.ownsRow base 65 11 v n X) (hn : n ≤ 1048576) (hb : base ≤ w.heap.size) (hv : w.heap[vb]? = some (.cells news.toArray 65 (0, 0))) (hl : news.length = 11) (h1 : ∀ u ∈ news, u.oneCell' = true) :
    Calls Tryd.prog 73 #[v, .int .i64 n, .slice (some ⟨vb, 0, none⟩) 1 1] w fun e w' => ∃ v', e = .returned v' ∧ w'.ownsRow base 65 11 v' (n + 1) (X ++ news) ∧ w.grownBy w' v.ownBlock ∧ ∀ b, v'.ownBlock = some b → v.ownBlock = some b ∨ w.heap.size ≤ b := by
  obtain ⟨i0, hi0, hz0, hz1, hz2⟩ := info_parts ins_info_Cell
  have hcell : Hid (∀ j u, news[j]? = some u → w.cell? ((⟨vb, 0, none⟩ : Addr).add j) = some u) := fun j u hj => by
    rw [Addr.add_lit, Nat.zero_add, cell_of_row w vb j _ _ _ hv]
    simpa using hj
  have H := hide h
  have HL := hide hl
  have H1 := hide h1
  obtain ⟨v9, w9, hrun, hown9, hgrow9, hloc9⟩ := run_append_at (P := Tryd.prog) w base 82 82 65 i0 _ 11 96 ins_und_Cell hi0 hz0 hz1 hz2 rfl (by decide) v n X h ⟨vb, 0, none⟩ 1 1 news (by rw [hl]) hcell.out h1 (by unfold maxLen; omega) (by omega) hb
  have HRUN := hide hrun
  have HO := hide hown9
  have HG := hide hgrow9
  have HW := hide hloc9
  clear hrun hown9 hgrow9 hloc9
  obtain ⟨A, c, rfl⟩ := own_form0 h
  have hnc : n ≤ c := by
    rcases h.2 with ⟨e, h0⟩ | ⟨g', cap', cur, e, _, _, h1, _⟩
    · omega
    · injection e with _ _ e2; subst e2; exact h1
  have hc63 : c ≤ 9223372036854775807 := by
    rcases h.2 with ⟨e, h0⟩ | ⟨g', cap', cur, e, _, _, _, h2, _⟩
    · injection e with _ _ e2; omega
    · injection e with _ _ e2; subst e2; unfold maxLen at h2; omega
  have hA : (A = none ∧ n = 0 ∧ c = 0) ∨ ∃ g, A = some ⟨g, 0, none⟩ := by
    rcases h.2 with ⟨e, h0⟩ | ⟨g', cap', cur, e, _, _, _, h2, _⟩
    · injection e with e e1 e2; exact .inl ⟨e, e1, e2⟩
    · injection e with e _ _; exact .inr ⟨g', e⟩
  clear h hv hl h1
  rcases hA with ⟨rfl, rfl, rfl⟩ | ⟨g, rfl⟩
  · show Calls Tryd.prog 73 #[.slice none 0 0, .int .i64 0, .slice (some ⟨vb, 0, none⟩) 1 1] w _
    go_enter Tryd.func73, Tryd.ntmps73
    go_wp2_with (at_builtin; refine Lib.wpList_append_run _ rfl _ _ _ _ rfl (.slice none 0 0) (.slice (some ⟨vb, 0, none⟩) 1 1) rfl rfl v9 w9 HRUN.out ?_)
    go_wp2_with fail
    go_ret
    exact ⟨v9, rfl, HO.out, HG.out, HW.out⟩
  · by_cases hcn : c = n
    · have hcn := hcn.symm
      subst hcn
      go_enter Tryd.func73, Tryd.ntmps73
      go_wp2_with (at_builtin; refine Lib.wpList_append_run _ rfl _ _ _ _ rfl (.slice (some ⟨g, 0, none⟩) n n) (.slice (some ⟨vb, 0, none⟩) 1 1) rfl rfl v9 w9 HRUN.out ?_)
      go_wp2_with fail
      go_ret
      exact ⟨v9, rfl, HO.out, HG.out, HW.out⟩
    · go_enter Tryd.func73, Tryd.ntmps73
      go_wp2_with (at_builtin; refine Lib.wpList_append_run _ rfl _ _ _ _ rfl (.slice (some ⟨g, 0, none⟩) n c) (.slice (some ⟨vb, 0, none⟩) 1 1) rfl rfl v9 w9 HRUN.out ?_)
      go_wp2_with fail
      go_ret
      exact ⟨v9, rfl, HO.out, HG.out, HW.out⟩
set_option maxRecDepth 100000 in
set_option maxHeartbeats 4000000 in
theorem ins_shift_Cell (base g n c i vb : Nat) (X news : List Value) (w : World) (h : w.ownsRow base 65 11 (.slice (some ⟨g, 0, none⟩) n c) n X) (hi : i < n) (hroom : n + 1 ≤ c) (hn : n ≤ 1048576) (hvb : vb ≠ g) (hv : w.heap[vb]? = some (.cells news.toArray 65 (0, 0))) (hl : news.length = 11) (hX1 : ∀ u ∈ X, u.oneCell' = true) (h1 : ∀ u ∈ news, u.oneCell' = true) :
    Calls Tryd.prog 73 #[.slice (some ⟨g, 0, none⟩) n c, .int .i64 i, .slice (some ⟨vb, 0, none⟩) 1 1] w fun e w' => ∃ v', e = .returned v' ∧ w'.ownsRow base 65 11 v' (n + 1) (X.take (i * 11) ++ news ++ X.drop (i * 11)) ∧ w.grownBy w' (some g) ∧ ∀ b, v'.ownBlock = some b → some g = some b ∨ w.heap.size ≤ b := by
  obtain ⟨i0, hi0, hz0, hz1, hz2⟩ := info_parts ins_info_Cell
  have hsz : (Tryd.prog.info? 65).map (·.size) = some 11 := by rw [hi0]; simp [hz1]
  have hc63 : c ≤ 9223372036854775807 := by
    rcases h.2 with ⟨e, h0⟩ | ⟨g', cap', cur, e, _, _, _, h2, _⟩
    · cases e
    · injection e with _ _ e2; subst e2; unfold maxLen at h2; omega
  have hXl := h.1
  obtain ⟨Y, hYl, hmo⟩ := own_more h hroom
  obtain ⟨kB, hsb, hkB⟩ := own_shape h (by decide) (by omega)
  have hdl : (X.drop (i * 11)).length = (n - i) * 11 := by rw [List.length_drop, hXl, Nat.sub_mul]
  have hov : ∀ lb cb, (callFunc 103 #[.slice (some ⟨vb, 0, none⟩) 1 1, .slice (some ⟨g, (i + 1) * 11, none⟩) lb cb]).run Tryd.prog w = .ok (.value (.bool false)) w := fun lb cb => by
    rw [run_callFunc_extern Tryd.func103 (by kernel_rfl) (by kernel_rfl) (by kernel_rfl) (e := Extern.SlicesOverlaps.overlaps #[82, 82] #[4]) (by kernel_rfl),
      Lib.run_overlaps_apart w 82 4 65 ins_und_Cell 11 ins_size_Cell ⟨vb, 0, none⟩ ⟨g, (i + 1) * 11, none⟩ 1 1 lb cb hvb 65 65 news.length kB (by simp [World.shape?, hv]) hsb hkB (frozen_of_row w vb _ _ _ hv) (frozen_of_row w vb _ _ _ hv)]
    rfl
  have hcp1 : ∀ ty dc sc, (Builtin.copy_ #[82, 82] ty #[.slice (some ⟨g, (i + 1) * 11, none⟩) (n + 1 - (i + 1)) dc, .slice (some ⟨g, i * 11, none⟩) (n + 1 - i) sc]).run Tryd.prog w.drew = .ok (goInt ((n - i : Nat) : Int)) (w.drew.setCells g ((i + 1) * 11) (X.drop (i * 11))) := fun ty dc sc => by
    have := run_copy_k (P := Tryd.prog) w.drew 82 82 ty 65 11 g ((i + 1) * 11) (n + 1 - (i + 1)) dc ⟨g, i * 11, none⟩ (n + 1 - i) sc (X.drop (i * 11)) ins_und_Cell hsz (by rw [hdl]; congr 1; simp only [Nat.min_def]; split <;> omega)
      (fun j u hj => by rw [Addr.add_lit]; rw [List.getElem?_drop] at hj; exact own_get h hj)
      (fun j hj => own_some hmo (by rw [hdl] at hj; omega)) (fun j _ => h.frozenAt _) (fun u hu => hX1 u (List.mem_of_mem_drop hu))
    rwa [show Nat.min (n + 1 - i) (n + 1 - (i + 1)) = n - i by simp only [Nat.min_def]; split <;> omega] at this
  obtain ⟨W1, hW1⟩ : ∃ W1, W1 = w.drew.setCells g ((i + 1) * 11) (X.drop (i * 11)) := ⟨_, rfl⟩
  have hm1 : W1.ownsRow base 65 11 (.slice (some ⟨g, 0, none⟩) (n + 1) c) (n + 1) (setL (X ++ Y) ((i + 1) * 11) (X.drop (i * 11))) := hW1 ▸ own_setCells _ _ _ _ (World.ownsRow.drew hmo)
  have hg1 : w.drew.grownBy W1 (some g) := hW1 ▸ grow_setCells _ _ _
  have hv1 : W1.heap[vb]? = some (.cells news.toArray 65 (0, 0)) := (hg1.block vb (Array.getElem?_eq_some_iff.1 hv).1 (fun e => hvb (by injection e))).trans hv
  have hcp2 : ∀ ty dc, (Builtin.copy_ #[82, 82] ty #[.slice (some ⟨g, i * 11, none⟩) (n + 1 - i) dc, .slice (some ⟨vb, 0, none⟩) 1 1]).run Tryd.prog W1 = .ok (goInt 1) (W1.setCells g (i * 11) news) := fun ty dc => by
    have := run_copy_k (P := Tryd.prog) W1 82 82 ty 65 11 g (i * 11) (n + 1 - i) dc ⟨vb, 0, none⟩ 1 1 news ins_und_Cell hsz (by rw [hl]; simp only [Nat.min_def]; split <;> omega)
      (fun j u hj => by rw [Addr.add_lit, Nat.zero_add, cell_of_row W1 vb j _ _ _ hv1]; simpa using hj)
      (fun j hj => own_some hm1 (by omega)) (fun j _ => hm1.frozenAt _) h1
    rwa [show Nat.min 1 (n + 1 - i) = 1 by simp only [Nat.min_def]; split <;> omega] at this
  rw [← hW1] at hcp1
  have FIN : Hid ((W1.setCells g (i * 11) news).ownsRow base 65 11 (.slice (some ⟨g, 0, none⟩) (n + 1) c) (n + 1) (X.take (i * 11) ++ news ++ X.drop (i * 11)) ∧ w.grownBy (W1.setCells g (i * 11) news) (some g)) := by
    have := own_setCells news (i * 11) _ _ hm1
    rw [ins_shift hXl hYl hl (by omega)] at this
    exact ⟨this, grow_trans (grow_trans (grow_below (bdrew (brefl w))) hg1) (grow_setCells _ _ _)⟩
  have hz2' : ¬ ((i : Int) = (n : Int)) := by omega
  have hw1 : IntKind.i64.wrap ((i : Int) + 1) = (i : Int) + 1 := IntWalk.i64_in _ (by omega)
  have hb1 : (0 : Int) ≤ (i : Int) + 1 := by omega
  have hin : i ≤ n := by omega
  have hic : i ≤ c := by omega
  have hic2 : i + 1 ≤ c := by omega
  have htn : ((i : Int) + 1).toNat = i + 1 := by omega
  have hb2 : ¬ (c = i + 1) := by omega
  have hb3 : (i : Int) + 1 ≤ (n : Int) + 1 := by omega
  have hb3' : (i : Int) ≤ (n : Int) + 1 := by omega
  have hb4 : ¬ (c = i) := by omega
  clear h hv hl hX1 h1 hXl hYl hmo hsb hkB hdl hm1 hg1 hv1 hW1 hsz
  go_enter Tryd.func73, Tryd.ntmps73
  go_wp2_with (simp only [hov])
  go_region_law (refine step_copy_run rfl (.tmp 73) (.tmp 76) 82 82 rfl (.slice (some ⟨g, (i + 1) * 11, none⟩) (n + 1 - (i + 1)) (c - (i + 1))) (.slice (some ⟨g, i * 11, none⟩) (n + 1 - i) (c - i)) (by simp [Act.eval, Act.put]) (by simp [Act.eval, Act.put]) (hcp1 _ _ _) ?_)
  rename_i K hK
  refine hK _ _ ?_
  clear hK K
  try simp only [Act.put, List.getElem_toArray, List.getElem_cons_succ, List.getElem_cons_zero, List.setIfInBounds_toArray, List.set_cons_zero, List.set_cons_succ]
  go_wp2_with (at_builtin; refine wpList_copy_run _ rfl _ _ 82 82 rfl _ _ rfl rfl (hcp2 _ _) ?_)
  go_ret
  exact ⟨_, rfl, FIN.out.1, FIN.out.2, fun b hb => .inl hb⟩
set_option maxRecDepth 100000 in
set_option maxHeartbeats 4000000 in
theorem ins_grow_Cell (base g n c i vb : Nat) (X news : List Value) (w : World) (h : w.ownsRow base 65 11 (.slice (some ⟨g, 0, none⟩) n c) n X) (hi : i < n) (hroom : c < n + 1) (hn : n ≤ 1048576) (hb : base ≤ w.heap.size) (hv : w.heap[vb]? = some (.cells news.toArray 65 (0, 0))) (hl : news.length = 11) (hX1 : ∀ u ∈ X, u.oneCell' = true) (h1 : ∀ u ∈ news, u.oneCell' = true) :
    Calls Tryd.prog 73 #[.slice (some ⟨g, 0, none⟩) n c, .int .i64 i, .slice (some ⟨vb, 0, none⟩) 1 1] w fun e w' => ∃ v', e = .returned v' ∧ w'.ownsRow base 65 11 v' (n + 1) (X.take (i * 11) ++ news ++ X.drop (i * 11)) ∧ w.grownBy w' (some g) ∧ ∀ b, v'.ownBlock = some b → some g = some b ∨ w.heap.size ≤ b := by
  obtain ⟨i0, hi0, hz0, hz1, hz2⟩ := info_parts ins_info_Cell
  have hsz : (Tryd.prog.info? 65).map (·.size) = some 11 := by rw [hi0]; simp [hz1]
  have hc63 : n ≤ c := by
    rcases h.2 with ⟨e, h0⟩ | ⟨g', cap', cur, e, _, _, h1, h2, _⟩
    · cases e
    · injection e with _ _ e2; subst e2; exact h1
  have hXl := h.1
  have hdl : (X.drop (i * 11)).length = (n - i) * 11 := by rw [List.length_drop, hXl, Nat.sub_mul]
  have htl : (X.take (i * 11)).length = i * 11 := by rw [List.length_take, hXl]; omega
  have hgl := (own_lt h (b := g) rfl).2
  have hvl := (Array.getElem?_eq_some_iff.1 hv).1
  obtain ⟨z, hzd⟩ : ∃ z : Value, z = .agg #[.string ⟨#[]⟩, .int .i64 0, .int .i64 0, .int .i64 0, .int .i64 0, .int .i64 0, .int .i64 0, .int .i64 0, .int .i64 0, .int .i64 0, .int .i64 0] := ⟨_, rfl⟩
  have hzs : z.cells.size = 11 := by rw [hzd]; rfl
  rw [← hzd] at hz0
  clear hzd
  have hold : (Builtin.firstCells i0.size i (.slice (some ⟨g, 0, none⟩) i c)).run Tryd.prog w.drew = .ok (X.take (i * 11)).toArray w.drew := by
    rw [hz1]
    exact run_firstCells_some w.drew 11 i ⟨g, 0, none⟩ i c (X.take (i * 11)) htl (fun j u hj => by
      rw [Addr.add_lit, Nat.zero_add]
      rw [List.getElem?_take] at hj
      split at hj
      · exact own_get h hj
      · cases hj)
  have hkk : (n : Int) + 1 - (i : Int) = ((n + 1 - i : Nat) : Int) := by omega
  have hik : i + (n + 1 - i) = n + 1 := by omega
  obtain ⟨G, hG⟩ : ∃ G, G = grownCap w (n + 1) c 65 := ⟨_, rfl⟩
  obtain ⟨ROW, hROW⟩ : ∃ ROW : Array Value, ROW = (X.take (i * 11)).toArray ++ Builtin.zeroCells z.cells (n + 1 - i) ++ Builtin.zeroCells z.cells (G - (n + 1)) := ⟨_, rfl⟩
  obtain ⟨W1, hW1⟩ : ∃ W1, W1 = w.drew.alloc (.cells ROW 65) := ⟨_, rfl⟩
  have hrz : ∀ ty, (Builtin.append_ #[82, 3] ty #[.slice (some ⟨g, 0, none⟩) i c, .int .i64 ((n : Int) + 1 - (i : Int))]).run Tryd.prog w = .ok (.slice (some ⟨w.heap.size, 0, none⟩) (n + 1) G) W1 := fun ty => by
    have h := Lib.run_append_grow_zeros w 82 3 ty 65 i0 z .i64 .i64 ins_und_Cell int_i64 hi0 hz0 (some ⟨g, 0, none⟩) i c (X.take (i * 11)) hold (n + 1 - i) (by omega) (by omega) (by omega) (by omega) (by rw [hz2]; omega) (by rw [hz2, hik]; exact growslice_fits hroom (by omega))
    rw [hik, ← hG, ← hROW, ← hW1] at h
    rw [hkk]
    exact h
  have hGn : n + 1 ≤ G := by rw [hG]; exact grownCap_ge w _ _ _
  have hGm : G ≤ maxLen := by rw [hG]; exact grownCap_le_maxLen w (n + 1) c _ (by unfold maxLen; omega)
  have hzn : (Builtin.zeroCells z.cells (n + 1 - i)).size = (n + 1 - i) * 11 := by rw [size_zeroCells, hzs]
  have hRs : ROW.size = G * 11 := by
    rw [hROW]
    simp only [Array.size_append, List.size_toArray, htl, hzn, size_zeroCells, hzs]
    omega
  have hm1 : W1.ownsRow base 65 11 (.slice (some ⟨w.heap.size, 0, none⟩) (n + 1) G) (n + 1) (X.take (i * 11) ++ (Builtin.zeroCells z.cells (n + 1 - i)).toList) := by
    have hl9 : (X.take (i * 11) ++ (Builtin.zeroCells z.cells (n + 1 - i)).toList).length = (n + 1) * 11 := by rw [List.length_append, htl, Array.length_toList, hzn]; omega
    refine ⟨hl9, .inr ⟨w.heap.size, G, ROW, rfl, hb, by rw [hW1]; exact heap_alloc_new w.drew _, hGn, hGm, hRs, ?_⟩⟩
    have e : ROW.toList = (X.take (i * 11) ++ (Builtin.zeroCells z.cells (n + 1 - i)).toList) ++ (Builtin.zeroCells z.cells (G - (n + 1))).toList := by rw [hROW]; simp
    rw [e, List.take_append_of_le_length (by rw [hl9]; exact Nat.le_refl _), List.take_of_length_le (by rw [hl9]; exact Nat.le_refl _)]
  have hb1 : ∀ k, k < w.heap.size → W1.heap[k]? = w.heap[k]? := fun k hk => by rw [hW1]; exact heap_alloc_old w.drew _ hk
  have hv1 : W1.heap[vb]? = some (.cells news.toArray 65 (0, 0)) := (hb1 vb hvl).trans hv
  have hcpA : ∀ ty dc, (Builtin.copy_ #[82, 82] ty #[.slice (some ⟨w.heap.size, i * 11, none⟩) (n + 1 - i) dc, .slice (some ⟨vb, 0, none⟩) 1 1]).run Tryd.prog W1 = .ok (goInt 1) (W1.setCells w.heap.size (i * 11) news) := fun ty dc => by
    have := run_copy_k (P := Tryd.prog) W1 82 82 ty 65 11 w.heap.size (i * 11) (n + 1 - i) dc ⟨vb, 0, none⟩ 1 1 news ins_und_Cell hsz (by rw [hl]; simp only [Nat.min_def]; split <;> omega)
      (fun j u hj => by rw [Addr.add_lit, Nat.zero_add, cell_of_row W1 vb j _ _ _ hv1]; simpa using hj)
      (fun j hj => own_some hm1 (by omega)) (fun j _ => hm1.frozenAt _) h1
    rwa [show Nat.min 1 (n + 1 - i) = 1 by simp only [Nat.min_def]; split <;> omega] at this
  obtain ⟨W2, hW2⟩ : ∃ W2, W2 = W1.setCells w.heap.size (i * 11) news := ⟨_, rfl⟩
  rw [← hW2] at hcpA
  have hm2 := own_setCells news (i * 11) _ _ hm1
  rw [← hW2] at hm2
  have hb2 : ∀ k, k < w.heap.size → W2.heap[k]? = w.heap[k]? := fun k hk => by
    rw [hW2]
    exact ((grow_setCells (g := w.heap.size) news (i * 11) W1).block k (by rw [hW1]; simp; omega) (fun e => by injection e with e; omega)).trans (hb1 k hk)
  have hcpB : ∀ ty dc sc, (Builtin.copy_ #[82, 82] ty #[.slice (some ⟨w.heap.size, (i + 1) * 11, none⟩) (n + 1 - (i + 1)) dc, .slice (some ⟨g, i * 11, none⟩) (n - i) sc]).run Tryd.prog W2.drew = .ok (goInt ((n - i : Nat) : Int)) (W2.drew.setCells w.heap.size ((i + 1) * 11) (X.drop (i * 11))) := fun ty dc sc => by
    have := run_copy_k (P := Tryd.prog) W2.drew 82 82 ty 65 11 w.heap.size ((i + 1) * 11) (n + 1 - (i + 1)) dc ⟨g, i * 11, none⟩ (n - i) sc (X.drop (i * 11)) ins_und_Cell hsz (by rw [hdl]; congr 1; simp only [Nat.min_def]; split <;> omega)
      (fun j u hj => by rw [Addr.add_lit]; rw [List.getElem?_drop] at hj; exact (World.cell?_of_block (w := w) (w' := W2.drew) (hb2 g hgl)).trans (own_get h hj))
      (fun j hj => own_some (World.ownsRow.drew hm2) (by rw [hdl] at hj; omega)) (fun j _ => hm2.frozenAt _) (fun u hu => hX1 u (List.mem_of_mem_drop hu))
    rwa [show Nat.min (n - i) (n + 1 - (i + 1)) = n - i by simp only [Nat.min_def]; split <;> omega] at this
  have FIN : Hid ((W2.drew.setCells w.heap.size ((i + 1) * 11) (X.drop (i * 11))).ownsRow base 65 11 (.slice (some ⟨w.heap.size, 0, none⟩) (n + 1) G) (n + 1) (X.take (i * 11) ++ news ++ X.drop (i * 11)) ∧ w.grownBy (W2.drew.setCells w.heap.size ((i + 1) * 11) (X.drop (i * 11))) (some g)) := by
    have := own_setCells (X.drop (i * 11)) ((i + 1) * 11) _ _ (World.ownsRow.drew hm2)
    rw [ins_grow hXl (by rw [Array.length_toList, hzn]) hl (by omega)] at this
    have g1 := grow_setCells (g := w.heap.size) (X.drop (i * 11)) ((i + 1) * 11) W2.drew
    have g2 := grow_setCells (g := w.heap.size) news (i * 11) W1
    rw [← hW2] at g2
    have hs1 : w.heap.size < W1.heap.size := by rw [hW1]; simp
    have o1 : W1.os = w.os := by rw [hW1]; rfl
    have o2 : W1.tape = w.tape := by rw [hW1]; rfl
    have o3 : W1.output = w.output := by rw [hW1]; rfl
    refine ⟨this, ⟨g1.os.trans (g2.os.trans o1), g1.tape.trans (g2.tape.trans o2), g1.output.trans (g2.output.trans o3), Nat.le_trans (Nat.le_of_lt hs1) (Nat.le_trans g2.size g1.size), fun k hk _ => ?_⟩⟩
    exact (g1.block k (Nat.lt_of_lt_of_le (Nat.lt_trans hk hs1) g2.size) (fun e => by injection e with e; omega)).trans (hb2 k hk)
  have hz2' : ¬ ((i : Int) = (n : Int)) := by omega
  have hw1 : IntKind.i64.wrap ((i : Int) + 1) = (i : Int) + 1 := IntWalk.i64_in _ (by omega)
  have hbb1 : (0 : Int) ≤ (i : Int) + 1 := by omega
  have hin : i ≤ n := by omega
  have hic : i ≤ c := by omega
  have hiG : i ≤ G := by omega
  have hiG2 : i + 1 ≤ G := by omega
  have htn : ((i : Int) + 1).toNat = i + 1 := by omega
  have hG1 : ¬ (G = i + 1) := by omega
  have hG2 : ¬ (G = i) := by omega
  have hb3 : (i : Int) + 1 ≤ (n : Int) + 1 := by omega
  have hb3' : (i : Int) ≤ (n : Int) + 1 := by omega
  have hb4 : ¬ (c = i) := by omega
  have hGc : G ≤ 9223372036854775807 := by unfold maxLen at hGm; omega
  clear h hv hl hX1 h1 hXl hsz hdl htl hm1 hm2 hv1 hb1 hb2 hW1 hW2 hRs hzn hROW hG hold hzs hkk hik hGm hz0 hz1 hz2 hi0 hgl hvl
  go_enter Tryd.func73, Tryd.ntmps73
  go_wp2_with (first
    | (at_builtin; refine Lib.wpList_append_run _ rfl _ _ _ _ rfl _ _ rfl rfl _ _ (hrz _) ?_)
    | (with_reducible refine wpList_copy_run _ rfl (.tmp 43) (.tmp 44) 82 82 rfl (.slice (some ⟨w.heap.size, i * 11, none⟩) (n + 1 - i) (G - i)) (.slice (some ⟨vb, 0, none⟩) 1 1) rfl rfl (hcpA _ _) ?_))
  go_region_law (refine step_copy_run rfl (.tmp 50) (.tmp 53) 82 82 rfl (.slice (some ⟨w.heap.size, (i + 1) * 11, none⟩) (n + 1 - (i + 1)) (G - (i + 1))) (.slice (some ⟨g, i * 11, none⟩) (n - i) (c - i)) (by simp [Act.eval, Act.put]) (by simp [Act.eval, Act.put]) (hcpB _ _ _) ?_)
  rename_i K hK
  refine hK _ _ ?_
  clear hK K
  try simp only [Act.put, List.getElem_toArray, List.getElem_cons_succ, List.getElem_cons_zero, List.setIfInBounds_toArray, List.set_cons_zero, List.set_cons_succ]
  go_wp2_with fail
  go_ret
  exact ⟨_, rfl, FIN.out.1, FIN.out.2, fun b hb => .inr (by have e : w.heap.size = b := (by simpa [Value.ownBlock] using hb); omega)⟩
theorem insertL_Cell (base : Nat) (v : Value) (n i vb : Nat) (X news : List Value) (w : World) (h : w.ownsRow base 65 11 v n X) (hi : i ≤ n) (hn : n ≤ 1048576) (hb : base ≤ w.heap.size) (hvb : v.ownBlock ≠ some vb) (hv : w.heap[vb]? = some (.cells news.toArray 65 (0, 0))) (hl : news.length = 11) (hX1 : ∀ u ∈ X, u.oneCell' = true) (h1 : ∀ u ∈ news, u.oneCell' = true) :
    Calls Tryd.prog 73 #[v, .int .i64 i, .slice (some ⟨vb, 0, none⟩) 1 1] w fun e w' => ∃ v', e = .returned v' ∧ w'.ownsRow base 65 11 v' (n + 1) (X.take (i * 11) ++ news ++ X.drop (i * 11)) ∧ w.grownBy w' v.ownBlock ∧ ∀ b, v'.ownBlock = some b → v.ownBlock = some b ∨ w.heap.size ≤ b := by
  rcases Nat.eq_or_lt_of_le hi with rfl | hlt
  · have := ins_end_Cell base v i vb X news w h hn hb hv hl h1
    rw [List.take_of_length_le (by rw [h.1]; exact Nat.le_refl _), List.drop_of_length_le (by rw [h.1]; exact Nat.le_refl _), List.append_nil]
    exact this
  · rcases h.2 with ⟨rfl, h0⟩ | ⟨g, c, cur, rfl, _⟩
    · omega
    · by_cases hr : n + 1 ≤ c
      · exact ins_shift_Cell base g n c i vb X news w h hlt hr hn (fun e => hvb (by rw [e]; rfl)) hv hl hX1 h1
      · exact ins_grow_Cell base g n c i vb X news w h hlt (by omega) hn hb hv hl hX1 h1
theorem insert_Cell (base : Nat) (v : Value) (n i vb : Nat) (X news : List Value) (w : World) (h : w.ownsRow base 65 11 v n X) (hi : i ≤ n) (hn : n ≤ 1048576) (hb : base ≤ w.heap.size) (hvb : v.ownBlock ≠ some vb) (hv : w.heap[vb]? = some (.cells news.toArray 65 (0, 0))) (hl : news.length = 11) (hX1 : ∀ u ∈ X, u.oneCell' = true) (h1 : ∀ u ∈ news, u.oneCell' = true) :
    Calls Tryd.prog 73 #[v, .int .i64 i, .slice (some ⟨vb, 0, none⟩) 1 1] w fun e w' => ∃ v', e = .returned v' ∧ w'.ownsRow base 65 11 v' (n + 1) (X.take (i * 11) ++ news ++ X.drop (i * 11)) ∧ w.grownBy w' v.ownBlock := by
  refine (insertL_Cell base v n i vb X news w h hi hn hb hvb hv hl hX1 h1).mono ?_
  rintro e w' ⟨v', h1, h2, h3, _⟩
  exact ⟨v', h1, h2, h3⟩
end Go.Proofs.YtfcogogpioeggaaDoor
