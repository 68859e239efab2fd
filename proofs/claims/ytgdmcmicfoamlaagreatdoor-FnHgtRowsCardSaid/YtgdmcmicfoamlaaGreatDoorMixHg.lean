import Derived.Test.YtgdmcmicfoamlaaGreatDoorMixHf
set_option linter.unusedVariables false
set_option linter.unusedSimpArgs false
set_option maxHeartbeats 40000000
set_option maxRecDepth 100000
namespace Go.Proofs.YtgdmcmicfoamlaaGreatDoor
open Go.RowKit
theorem Zmp (i a k : Int) (w : World) (hi : 0 ≤ i ∧ i ≤ 1000000) (ha : 0 ≤ a ∧ a ≤ 1000000) (hk : 0 ≤ k ∧ k ≤ 1000000) :
 Calls Tryz.prog 170 #[.int .i64 i, .int .i64 a, .int .i64 k] w fun e w' => e = .returned (.bool (decide (a ≤ i ∧ i < a + k))) ∧ w' = w := by
 by_cases h1 : i < a
 ·
  rw [show decide (a ≤ i ∧ i < a + k) = false from decide_eq_false (by omega)]
  go_enter Tryz.func170, Tryz.ntmps170
  go_wp2_with fail
  go_ret
  exact ⟨rfl, rfl⟩
 by_cases h2 : k ≤ 0
 ·
  rw [show decide (a ≤ i ∧ i < a + k) = false from decide_eq_false (by omega)]
  go_enter Tryz.func170, Tryz.ntmps170
  go_wp2_with fail
  go_ret
  exact ⟨rfl, rfl⟩
 have h3 : ¬ a < 0 := by omega
 have t1 := IntWalk.i64_in (i - a) (by omega)
 have e : decide (a ≤ i ∧ i < a + k) = decide (i - a < k) := by
  by_cases h : i - a < k
  · rw [decide_eq_true h, decide_eq_true (by omega)]
  rw [decide_eq_false h, decide_eq_false (by omega)]
 rw [e]
 clear e
 go_enter Tryz.func170, Tryz.ntmps170
 go_wp2_with fail
 go_ret
 exact ⟨rfl, rfl⟩
theorem Zpj (gap : Int) (X : List Int) (y : Int) : Zau gap (X ++ [y]) = Zau gap X + (if X.isEmpty then 0 else gap) + y := by
 unfold Zau
 rw [Zc1, Qy, Jz, List.length_append, List.length_singleton]
 cases X with
 | nil =>
  have h9 : max (-1 : Int) 0 = 0 := by decide
  simp [Jz, h9]
 | cons x X =>
  simp only [List.isEmpty_cons, List.length_cons]
  rw [show max (((X.length + 1 + 1 : Nat) : Int) - 1) 0 = (X.length : Int) + 1 by omega, show max (((X.length + 1 : Nat) : Int) - 1) 0 = (X.length : Int) by omega, Int.mul_add, Int.mul_one]
  simp; omega
theorem Zmq (A : Option Addr) (c : Nat) (xs : List Int) (gap : Int) (x : Zl) (w : World) (hr : Rd Za4 w A xs) (hb : ∀ y ∈ xs, 0 ≤ y ∧ y ≤ 300) (hn : xs.length ≤ 90) (hg : 0 ≤ gap ∧ gap ≤ 3) (ha : 0 ≤ x.col ∧ x.col ≤ 1000000) (hk : 0 ≤ x.cols ∧ x.cols ≤ 1000000) :
 Calls Tryz.prog 137 #[.slice A xs.length c, .int .i64 gap, .agg #[.int .i64 x.row, .int .i64 x.col, .int .i64 x.rows, .int .i64 x.cols, .int .i64 x.inn]] w fun e w' => e = .returned (.int .i64 (Zau gap (Jb xs x.col x.cols))) ∧ Below w.heap.size w w' := by
 have HR := Za hr
 have HB := Za hb
 clear hr hb
 have hwb : Hid (∀ j, 0 ≤ Zau gap (Jb (xs.take j) x.col x.cols) ∧ Zau gap (Jb (xs.take j) x.col x.cols) ≤ 1000000) := fun j => Zm2 (fun y hy => HB.out y (List.mem_of_mem_take hy)) (by rw [List.length_take]; omega) hg _ _
 go_enter Tryz.func137, Tryz.ntmps137
 go_wp2_with fail
 have HA := Za (fun i W hi => Zmp i x.col x.cols W hi ha hk)
 go_loopg [7, 8, 9] xs.length (fun gg s7 s8 s9 wr => ∃ j : Nat, j ≤ xs.length ∧ xs.length - j ≤ gg ∧ s9 = .int .i64 j ∧ s7 = .int .i64 (Zau gap (Jb (xs.take j) x.col x.cols)) ∧ s8 = .bool (!(Jb (xs.take j) x.col x.cols).isEmpty) ∧ wr = w.alloc (.cells #[.int .i64 x.row, .int .i64 x.col, .int .i64 x.rows, .int .i64 x.cols, .int .i64 x.inn] 43))
 case atStart => exact ⟨0, Nat.zero_le _, by omega, rfl, by rw [show Jb (xs.take 0) x.col x.cols = [] by simp [Jb], Zrd], by simp [Jb], rfl⟩
 obtain ⟨j, hj, hgg, rfl, rfl, rfl, rfl⟩ := hrel
 by_cases hlt : j < xs.length
 ·
  have hltz : (j : Int) < (xs.length : Int) := by omega
  obtain ⟨b, o, rfl, _, c1⟩ := Za3 HR.out (Zc (Zf w) (.cells #[.int .i64 x.row, .int .i64 x.col, .int .i64 x.rows, .int .i64 x.cols, .int .i64 x.inn] 43)) j hlt
  have hA := HA.out (j : Int) (w.alloc (.cells #[.int .i64 x.row, .int .i64 x.col, .int .i64 x.rows, .int .i64 x.cols, .int .i64 x.inn] 43)) (by omega)
  have hw0 := hwb.out j
  have hw1 := hwb.out (j + 1)
  obtain ⟨y, hy⟩ : ∃ y, xs.getD j 0 = y := ⟨_, rfl⟩
  have hyb : 0 ≤ y ∧ y ≤ 300 := by rw [← hy, List.getD_eq_getElem?_getD, List.getElem?_eq_getElem hlt]; exact HB.out _ (List.getElem_mem hlt)
  rw [hy] at c1
  by_cases h1 : x.col ≤ (j : Int) ∧ (j : Int) < x.col + x.cols
  ·
   have hd : decide (x.col ≤ (j : Int) ∧ (j : Int) < x.col + x.cols) = true := by simpa using h1
   have hs := Zq7 (xs := xs) hlt ha.1 h1
   rw [hy] at hs
   rw [hd] at hA
   obtain ⟨X, hX⟩ : ∃ X, Jb (xs.take j) x.col x.cols = X := ⟨_, rfl⟩
   rw [hX] at hs hw0 ⊢
   have hsn := Zpj gap X y
   rw [hs] at hsn
   rw [← hs] at hw1
   have hne : (Jb (xs.take (j + 1)) x.col x.cols).isEmpty = false := by rw [← hs]; simp
   cases hemp : X.isEmpty with
   | true =>
    rw [hemp] at hsn
    simp only [if_true, Int.add_zero] at hsn
    have t1 := IntWalk.i64_in (Zau gap X + y) (by omega)
    have HSN := Za hsn
    have HNE := Za hne
    clear hd hs hX hw0 hw1 hsn hne h1 hemp hy
    generalize Zau gap X = z at t1 HSN ⊢
    go_wp2_with (go_at_call 170; refine hA.mono ?_; rintro e9 w9 ⟨rfl, hw9⟩; obtain rfl := hw9.symm)
    go_roundg (xs.length - (j + 1))
    case measure => omega
    case rel => exact ⟨j + 1, by omega, by omega, by go_num, by rw [HSN.out], by rw [HNE.out]; rfl, rfl⟩
   | false =>
    rw [hemp] at hsn
    simp only [Bool.false_eq_true, if_false] at hsn
    have t1 := IntWalk.i64_in (Zau gap X + gap) (by omega)
    have t2 := IntWalk.i64_in (Zau gap X + gap + y) (by omega)
    have HSN := Za hsn
    have HNE := Za hne
    clear hd hs hX hw0 hw1 hsn hne h1 hemp hy
    generalize Zau gap X = z at t1 t2 HSN ⊢
    go_wp2_with (go_at_call 170; refine hA.mono ?_; rintro e9 w9 ⟨rfl, hw9⟩; obtain rfl := hw9.symm)
    go_roundg (xs.length - (j + 1))
    case measure => omega
    case rel => exact ⟨j + 1, by omega, by omega, by go_num, by rw [HSN.out], by rw [HNE.out]; rfl, rfl⟩
  have hd : decide (x.col ≤ (j : Int) ∧ (j : Int) < x.col + x.cols) = false := by simpa using h1
  have hs := Zos (xs := xs) hlt ha.1 hk.1 h1
  rw [hd] at hA
  have HS := Za hs
  clear hd hs h1 hw0 hw1
  go_wp2_with (go_at_call 170; refine hA.mono ?_; rintro e9 w9 ⟨rfl, hw9⟩; obtain rfl := hw9.symm)
  go_roundg (xs.length - (j + 1))
  case measure => omega
  case rel => exact ⟨j + 1, by omega, by omega, by go_num, by rw [HS.out], by rw [HS.out], rfl⟩
 have hltz : ¬ (j : Int) < (xs.length : Int) := by omega
 have HS := Za (show Jb (xs.take j) x.col x.cols = Jb xs x.col x.cols by rw [List.take_of_length_le (by omega)])
 go_wp2_with fail
 go_ret
 exact ⟨by rw [← HS.out]; rfl, Zc (Zf _) _⟩
theorem Zhk (t : Tbl) (A : Option Addr) (c : Nat) (A' : Option Addr) (c' : Nat) (gr : Int) (n : Nat) (GL : List Zl) (GA : Option Addr) (gc : Nat) (X : List Int) (XA : Option Addr) (xc : Nat) (w : World) (hr : Rd Zbp w A' t.rows) (hG : Rd gcR w GA GL) (hX : Rd Za4 w XA X)
 (hg : 0 ≤ t.gap ∧ t.gap ≤ 3) (hb : ∀ y ∈ X, 0 ≤ y ∧ y ≤ 300) (hxl : X.length ≤ 90) (hcell : ∀ x ∈ GL, Zaq t x ∧ Zng x) (hcl : GL.length ≤ 40) :
 Calls Tryz.prog 81 #[.agg #[.slice A t.cols.length c, .int .i64 t.head, .int .i64 t.foot, .slice A' t.rows.length c', .int .i64 t.gap], .agg #[.int .i64 gr, .int .i64 n, .slice GA GL.length gc], .slice XA X.length xc] w fun e w' => ∃ v, e = .returned v ∧ Ql (α := ByteArray) w' w.heap.size 44 9 1 Zci v (Zy t GL X) ∧ Below w.heap.size w w' := by
 have HR := Za hr
 have HG := Za hG
 have HX := Za hX
 have HBD0 := Za hb
 have HCA := Za hcell
 obtain ⟨V, hV⟩ : ∃ V, V = (w.alloc (.cells #[.slice A t.cols.length c, .int .i64 t.head, .int .i64 t.foot, .slice A' t.rows.length c', .int .i64 t.gap] 26)).alloc (.cells #[.int .i64 gr, .int .i64 n, .slice GA GL.length gc] 39) := ⟨_, rfl⟩
 have m1 := Zh.new w [.slice A t.cols.length c, .int .i64 t.head, .int .i64 t.foot, .slice A' t.rows.length c', .int .i64 t.gap] 26
 have m2 := Zh.new (w.alloc (.cells #[.slice A t.cols.length c, .int .i64 t.head, .int .i64 t.foot, .slice A' t.rows.length c', .int .i64 t.gap] 26)) [.int .i64 gr, .int .i64 n, .slice GA GL.length gc] 39
 have e1 : (w.alloc (.cells #[.slice A t.cols.length c, .int .i64 t.head, .int .i64 t.foot, .slice A' t.rows.length c', .int .i64 t.gap] 26)).heap.size = w.heap.size + 1 := by simp
 rw [e1] at m2
 have hKT : Zh V w.heap.size [.slice A t.cols.length c, .int .i64 t.head, .int .i64 t.foot, .slice A' t.rows.length c', .int .i64 t.gap] := by rw [hV]; exact m1.keep ((Zc (Zf _) _).block _ (by simp))
 have hKG : Zh V (w.heap.size + 1) [.int .i64 gr, .int .i64 n, .slice GA GL.length gc] := by rw [hV]; exact m2
 have hbV : Below w.heap.size w V := by rw [hV]; exact Zc (Zc (Zf _) _) _
 have hzV : V.heap.size = w.heap.size + 1 + 1 := by rw [hV]; simp
 have hh0 : Ql (α := ByteArray) (V.alloc (.cells #[] 44)) V.heap.size 44 9 1 Zci (.slice (some ⟨w.heap.size + 1 + 1, 0, none⟩) 0 0) [] := by
  have h2 := World.ownsRow_made (e := 44) (size := 1) V #[] 0 (Nat.le_refl _) (Nat.zero_le _) (by simp)
  rw [hzV] at h2 ⊢
  exact ⟨[], h2, Yh.nil⟩
 have HN0 := Za hh0
 have HKT := Za hKT
 have HKG := Za hKG
 have HBV := Za hbV
 have HZV := Za hzV
 have HV := Za hV
 clear hr hG hX hb hcell hh0 m1 m2 e1 hKT hKG hbV hzV hV
 go_enter Tryz.func81, Tryz.ntmps81
 go_wp2_with fail
 rw [← HV.out]
 clear HV
 go_loopg [7, 8] GL.length (fun gg s7 s8 wr => ∃ i : Nat, i ≤ GL.length ∧ GL.length - i ≤ gg ∧ s8 = .int .i64 i ∧ Aside (Ql (α := ByteArray) wr V.heap.size 44 9 1 Zci s7 (Zy t (GL.take i) X)) ∧ Aside (Below V.heap.size V wr))
 case atStart => exact ⟨0, Nat.zero_le _, by omega, rfl, HN0.out, Zc (Zf _) _⟩
 obtain ⟨i, hi, hgg, rfl, HN, HB⟩ := hrel
 clear HN0
 have y2 : wr.cell? ⟨w.heap.size + 1, 2, none⟩ = some (.slice GA GL.length gc) := Zg HB.out (HKG.out.1 2 _ rfl)
 by_cases hlt : i < GL.length
 ·
  have hltz : (i : Int) < (GL.length : Int) := by omega
  obtain ⟨bG, oG, c0', c1', c2', c3', c4', rfl, hbg, hKx, k0, k1, k2, k3, k4⟩ := HG.out.at5 rfl (step HBV.out HB.out) i hlt
  have ex : [c0', c1', c2', c3', c4'] = gcE GL[i] := hKx.1
  obtain ⟨xg, hxg⟩ : ∃ x, GL[i] = x := ⟨_, rfl⟩
  rw [hxg] at ex
  simp only [gcE, List.cons.injEq, and_true] at ex
  obtain ⟨rfl, rfl, rfl, rfl, rfl⟩ := ex
  obtain ⟨hCA, hPC⟩ := HCA.out xg (by rw [← hxg]; exact List.getElem_mem hlt)
  have HLT : Hid (Zy t (GL.take (i + 1)) X = Zy t (GL.take i) X ++ [Zch (Qb t xg) (Zau t.gap (Jb X xg.col xg.cols))]) := by
   show _ = _
   unfold Zy
   rw [List.take_succ_eq_append_getElem hlt, List.map_append, hxg]; rfl
  clear hKx hxg
  go_upto_region 5 with fail
  have ed := Zt (Zf wr)
  have HBD := Za (Zt HB.out)
  have HXD := Za (step HBV.out (Zt HB.out))
  have HND := Za (HN.out.below ed)
  obtain ⟨v7, hv7⟩ : ∃ v, u7 = v := ⟨_, rfl⟩
  rw [hv7] at HND ⊢
  have z0 : wr.drew.cell? ⟨w.heap.size, 0, none⟩ = some (.slice A t.cols.length c) := Zg HBD.out (HKT.out.1 0 _ rfl)
  have z1 : wr.drew.cell? ⟨w.heap.size, 1, none⟩ = some (.int .i64 t.head) := Zg HBD.out (HKT.out.1 1 _ rfl)
  have z2 : wr.drew.cell? ⟨w.heap.size, 2, none⟩ = some (.int .i64 t.foot) := Zg HBD.out (HKT.out.1 2 _ rfl)
  have z3 : wr.drew.cell? ⟨w.heap.size, 3, none⟩ = some (.slice A' t.rows.length c') := Zg HBD.out (HKT.out.1 3 _ rfl)
  have z4 : wr.drew.cell? ⟨w.heap.size, 4, none⟩ = some (.int .i64 t.gap) := Zg HBD.out (HKT.out.1 4 _ rfl)
  have yy2 := Zg ed y2
  have x0 := Zg ed k0
  have x1 := Zg ed k1
  have x2 := Zg ed k2
  have x3 := Zg ed k3
  have x4 := Zg ed k4
  obtain ⟨wc, hwc⟩ : ∃ wc, Zau t.gap (Jb X xg.col xg.cols) = wc := ⟨_, rfl⟩
  have hwb := Zm2 HBD0.out hxl hg xg.col xg.cols
  rw [hwc] at hwb
  have HWC : Hid (∀ W, Below wr.drew.heap.size wr.drew W → Calls Tryz.prog 137 #[.slice XA X.length xc, .int .i64 t.gap, .agg #[.int .i64 xg.row, .int .i64 xg.col, .int .i64 xg.rows, .int .i64 xg.cols, .int .i64 xg.inn]] W fun e w' => e = .returned (.int .i64 wc) ∧ Below W.heap.size W w') := fun W h => by
   rw [← hwc]
   exact Zmq XA xc X t.gap xg W (HX.out.below (step HXD.out h)) HBD0.out hxl hg hPC.2.1 hPC.2.2.2
  have htx : (Qb t xg).size ≤ 1048576 := by
   obtain ⟨_, _, _, _, _, _, _, _, _, _, _, _, _, _, _, h9⟩ := Zhz HR.out hCA
   exact h9
  obtain ⟨tx, htxe⟩ : ∃ tx, Qb t xg = tx := ⟨_, rfl⟩
  have HTX : Hid (∀ W, Below wr.drew.heap.size wr.drew W → Calls Tryz.prog 136 #[.agg #[.slice A t.cols.length c, .int .i64 t.head, .int .i64 t.foot, .slice A' t.rows.length c', .int .i64 t.gap], .agg #[.int .i64 xg.row, .int .i64 xg.col, .int .i64 xg.rows, .int .i64 xg.cols, .int .i64 xg.inn]] W fun e w' => e = .returned (.string tx) ∧ Below W.heap.size W w') := fun W h => by
   rw [← htxe]
   exact Zi1 t A c A' c' xg W (HR.out.below (step HXD.out h)) hCA
  have HLT2 := HLT.out
  rw [htxe, hwc] at HLT2
  rw [htxe] at htx
  obtain ⟨LS, hLS⟩ : ∃ LS, Zch tx wc = LS := ⟨_, rfl⟩
  have HTL : Hid (∀ W, Below wr.drew.heap.size wr.drew W → Calls Tryz.prog 135 #[.string tx, .int .i64 wc] W fun e w' => ∃ v, e = .returned v ∧ Yx w' W.heap.size v LS ∧ Below W.heap.size W w') := fun W h => by
   rw [← hLS]
   exact Zk4 tx wc W htx hwb
  rw [hLS] at HLT2
  have HLT3 := Za HLT2
  obtain ⟨LNi, hLNi⟩ : ∃ L, Zy t (GL.take i) X = L := ⟨_, rfl⟩
  rw [hLNi] at HND HLT3
  have hnl : LNi.length ≤ 1000000 := by rw [← hLNi]; unfold Zy; rw [List.length_map, List.length_take]; omega
  have HNL := Za hnl
  have HZS : Hid (V.heap.size ≤ wr.drew.heap.size) := HBD.out.size
  clear k0 k1 k2 k3 k4 ed HLT HLT2 hLS htxe hwc hwb htx hnl hLNi hCA hPC y2 hv7
  obtain ⟨KF, hKF⟩ : ∃ f : Nat → Value → World → Prop, f = (fun j v W => match j with | 0 => v = v7 | 1 => v = .agg #[.slice A t.cols.length c, .int .i64 t.head, .int .i64 t.foot, .slice A' t.rows.length c', .int .i64 t.gap] | 2 => v = .pointer (some ⟨w.heap.size + 1, 2, none⟩) | 3 => v = .slice (some ⟨bG, oG, none⟩) GL.length gc | 4 => v = .int .i64 ↑i | 5 => v = .pointer (some ⟨bG, oG + i * 5, none⟩) | 6 => v = .agg #[.int .i64 xg.row, .int .i64 xg.col, .int .i64 xg.rows, .int .i64 xg.cols, .int .i64 xg.inn] | 7 => v = .string tx | 8 => v = .slice XA X.length xc | 9 => v = .pointer (some ⟨w.heap.size, 4, none⟩) | 10 => v = .int .i64 t.gap | 11 => v = .pointer (some ⟨w.heap.size + 1, 2, none⟩) | 12 => v = .slice (some ⟨bG, oG, none⟩) GL.length gc | 13 => v = .int .i64 ↑i | 14 => v = .pointer (some ⟨bG, oG + i * 5, none⟩) | 15 => v = .agg #[.int .i64 xg.row, .int .i64 xg.col, .int .i64 xg.rows, .int .i64 xg.cols, .int .i64 xg.inn] | 16 => v = .int .i64 wc | 17 => ∃ As ds, v = .slice As LS.length ds ∧ Yx W wr.drew.heap.size (.slice As LS.length ds) LS | 18 => ∃ Ab db B21, v = .slice (some ⟨B21, 0, none⟩) 1 1 ∧ W.cell? ⟨B21, 0, none⟩ = some (.slice Ab LS.length db) ∧ Yx W wr.drew.heap.size (.slice Ab LS.length db) LS | _ => True) := ⟨_, rfl⟩
  have KK := Za (kf hKF)
  have HST : Yw KF := by
   rw [hKF]
   intro j v W W9 h hb
   by_cases hjn : j < 21
   ·
    obtain rfl|rfl|rfl|rfl|rfl|rfl|rfl|rfl|rfl|rfl|rfl|rfl|rfl|rfl|rfl|rfl|rfl|rfl|rfl|rfl|rfl : j = 0 ∨ j = 1 ∨ j = 2 ∨ j = 3 ∨ j = 4 ∨ j = 5 ∨ j = 6 ∨ j = 7 ∨ j = 8 ∨ j = 9 ∨ j = 10 ∨ j = 11 ∨ j = 12 ∨ j = 13 ∨ j = 14 ∨ j = 15 ∨ j = 16 ∨ j = 17 ∨ j = 18 ∨ j = 19 ∨ j = 20 := by omega
    · exact h
    · exact h
    · exact h
    · exact h
    · exact h
    · exact h
    · exact h
    · exact h
    · exact h
    · exact h
    · exact h
    · exact h
    · exact h
    · exact h
    · exact h
    · exact h
    · exact h
    · obtain ⟨As, ds, hv, h⟩ := h
      exact ⟨As, ds, hv, h.below hb⟩
    · obtain ⟨Ab, db, B21, hv, h⟩ := h
      exact ⟨Ab, db, B21, hv, ⟨Zg hb h.1, h.2.below hb⟩⟩
    · exact trivial
    exact trivial
   obtain ⟨k, rfl⟩ : ∃ k, j = k + 21 := ⟨j - 21, by omega⟩
   exact h
  clear hKF
  obtain ⟨dep, hdep⟩ : ∃ f : Nat → List Nat, f = (fun j => match j with | 3 => [2] | 5 => [3, 4] | 6 => [5] | 7 => [1, 6] | 10 => [9] | 12 => [11] | 14 => [12, 13] | 15 => [14] | 16 => [8, 10, 15, 7] | 17 => [7, 16] | 18 => [17] | 19 => [0, 18, 17] | 20 => [19] | _ => []) := ⟨_, rfl⟩
  have DD := Za hdep
  clear hdep
  have HLD : Yt 21 19 dep := Zbo DD.out (by decide)
  obtain ⟨st, hst⟩ : ∃ f : Nat → Value, f = (fun j => match j with | 0 => u17 | 1 => u18 | 2 => u19 | 3 => u20 | 4 => u21 | 5 => u22 | 6 => u23 | 7 => u24 | 8 => u25 | 9 => u26 | 10 => u27 | 11 => u28 | 12 => u29 | 13 => u30 | 14 => u31 | 15 => u32 | 16 => u33 | 17 => u34 | 18 => u35 | 19 => u36 | 20 => v7 | _ => undef) := ⟨_, rfl⟩
  have ST := Za hst
  clear hst
  refine Qe (fun l a W => ∃ vs : Nat → Value, a = ⟨List.toArray ((Ya A t c A' c') :: .agg #[.int .i64 gr, .int .i64 ↑n, .slice (some ⟨bG, oG, none⟩) GL.length gc] :: .slice XA X.length xc :: .pointer (some ⟨w.heap.size, 0, none⟩) :: .pointer (some ⟨w.heap.size + 1, 0, none⟩) :: Zb :: .slice none 0 0 :: vs 20 :: .int .i64 ↑i :: .slice (some ⟨w.heap.size + 1 + 1, 0, none⟩) 0 0 :: .int .i64 ↑i :: .pointer (some ⟨w.heap.size + 1, 2, none⟩) :: .slice (some ⟨bG, oG, none⟩) GL.length gc :: .int .i64 ↑GL.length :: .bool true :: u15 :: u16 :: vs 0 :: vs 1 :: vs 2 :: vs 3 :: vs 4 :: vs 5 :: vs 6 :: vs 7 :: vs 8 :: vs 9 :: vs 10 :: vs 11 :: vs 12 :: vs 13 :: vs 14 :: vs 15 :: vs 16 :: vs 17 :: vs 18 :: vs 19 :: Zb :: []), []⟩ ∧ Yp KF 21 19 dep (wr.drew) (fun W v W2 => Ql (α := ByteArray) W2 V.heap.size 44 9 1 Zci v (LNi ++ [LS]) ∧ W.grownBy W2 v7.ownBlock) st l vs W) (by kernel_rfl) ?top ?start ?step ?fin
  case top => exact Zae (by kernel_rfl)
  case start => exact ⟨st, by rw [ST.out]; first | done | rfl, Yp.start⟩
  case step =>
   rintro l a W i o ho hl hpre hsz ⟨vs, rfl, hM0⟩ K hK
   have hi : i < 21 := (Array.getElem?_eq_some_iff.1 ho).1
   obtain rfl|rfl|rfl|rfl|rfl|rfl|rfl|rfl|rfl|rfl|rfl|rfl|rfl|rfl|rfl|rfl|rfl|rfl|rfl|rfl|rfl := Zv5 hi
   all_goals
    simp only [List.getElem?_toArray, List.getElem?_cons_zero, List.getElem?_cons_succ, Option.some.injEq] at ho
    subst ho
    have hPR := Zce hpre
   ·
    have hMB := hM0.below HLD hi (by decide) hl
    have hMG := hM0.get HLD hi (by decide) hl
    have v20 : vs 20 = v7 := (hM0.getStale HLD hi (by decide) hl 20 (by decide)).trans (congrFun ST.out 20)
    have hdp := dpa DD hpre 0 rfl
    rw [v20]
    go_simp
    exact hK.out _ _ ⟨Zd vs 0 (v7), (by simp [Zd, v20]), hM0.still HLD HST 0 (by decide) (by decide) hl _ hdp ((KK.out 0 _ _).2 rfl)⟩
   ·
    have hMB := hM0.below HLD hi (by decide) hl
    have hMG := hM0.get HLD hi (by decide) hl
    have hdp := dpa DD hpre 1 rfl
    have x0 := Zg hMB z0
    have x1 := Zg hMB z1
    have x2 := Zg hMB z2
    have x3 := Zg hMB z3
    have x4 := Zg hMB z4
    go_simp
    exact hK.out _ _ ⟨Zd vs 1 (.agg #[.slice A t.cols.length c, .int .i64 t.head, .int .i64 t.foot, .slice A' t.rows.length c', .int .i64 t.gap]), rfl, hM0.still HLD HST 1 (by decide) (by decide) hl _ hdp ((KK.out 1 _ _).2 rfl)⟩
   · have hMB := hM0.below HLD hi (by decide) hl
     have hMG := hM0.get HLD hi (by decide) hl
     have hdp := dpa DD hpre 2 rfl
     go_simp
     exact hK.out _ _ ⟨Zd vs 2 (.pointer (some ⟨w.heap.size + 1, 2, none⟩)), rfl, hM0.still HLD HST 2 (by decide) (by decide) hl _ hdp ((KK.out 2 _ _).2 rfl)⟩
   ·
    have hMB := hM0.below HLD hi (by decide) hl
    have hMG := hM0.get HLD hi (by decide) hl
    have v2 : vs 2 = .pointer (some ⟨w.heap.size + 1, 2, none⟩) := (KK.out 2 _ _).1 (hMG 2 (by decide) (hPR 2 rfl))
    have hdp := dpa DD hpre 3 rfl
    have x0 := Zg hMB yy2
    rw [v2]
    go_simp
    exact hK.out _ _ ⟨Zd vs 3 (.slice (some ⟨bG, oG, none⟩) GL.length gc), (by simp [Zd, v2]), hM0.still HLD HST 3 (by decide) (by decide) hl _ hdp ((KK.out 3 _ _).2 rfl)⟩
   · have hMB := hM0.below HLD hi (by decide) hl
     have hMG := hM0.get HLD hi (by decide) hl
     have hdp := dpa DD hpre 4 rfl
     go_simp
     exact hK.out _ _ ⟨Zd vs 4 (.int .i64 ↑i), rfl, hM0.still HLD HST 4 (by decide) (by decide) hl _ hdp ((KK.out 4 _ _).2 rfl)⟩
   ·
    have hMB := hM0.below HLD hi (by decide) hl
    have hMG := hM0.get HLD hi (by decide) hl
    have v3 : vs 3 = .slice (some ⟨bG, oG, none⟩) GL.length gc := (KK.out 3 _ _).1 (hMG 3 (by decide) (hPR 3 rfl))
    have v4 : vs 4 = .int .i64 ↑i := (KK.out 4 _ _).1 (hMG 4 (by decide) (hPR 4 rfl))
    have hdp := dpa DD hpre 5 rfl
    rw [v3, v4]
    go_simp
    exact hK.out _ _ ⟨Zd vs 5 (.pointer (some ⟨bG, oG + i * 5, none⟩)), (by simp [Zd, v3, v4]), hM0.still HLD HST 5 (by decide) (by decide) hl _ hdp ((KK.out 5 _ _).2 rfl)⟩
   ·
    have hMB := hM0.below HLD hi (by decide) hl
    have hMG := hM0.get HLD hi (by decide) hl
    have v5 : vs 5 = .pointer (some ⟨bG, oG + i * 5, none⟩) := (KK.out 5 _ _).1 (hMG 5 (by decide) (hPR 5 rfl))
    have hdp := dpa DD hpre 6 rfl
    have x0 := Zg hMB x0
    have x1 := Zg hMB x1
    have x2 := Zg hMB x2
    have x3 := Zg hMB x3
    have x4 := Zg hMB x4
    rw [v5]
    go_simp
    exact hK.out _ _ ⟨Zd vs 6 (.agg #[.int .i64 xg.row, .int .i64 xg.col, .int .i64 xg.rows, .int .i64 xg.cols, .int .i64 xg.inn]), (by simp [Zd, v5]), hM0.still HLD HST 6 (by decide) (by decide) hl _ hdp ((KK.out 6 _ _).2 rfl)⟩
   ·
    have hMB := hM0.below HLD hi (by decide) hl
    have hMG := hM0.get HLD hi (by decide) hl
    have v1 : vs 1 = .agg #[.slice A t.cols.length c, .int .i64 t.head, .int .i64 t.foot, .slice A' t.rows.length c', .int .i64 t.gap] := (KK.out 1 _ _).1 (hMG 1 (by decide) (hPR 1 rfl))
    have v6 : vs 6 = .agg #[.int .i64 xg.row, .int .i64 xg.col, .int .i64 xg.rows, .int .i64 xg.cols, .int .i64 xg.inn] := (KK.out 6 _ _).1 (hMG 6 (by decide) (hPR 6 rfl))
    have hdp := dpa DD hpre 7 rfl
    rw [v1, v6]
    go_simp
    refine (HTX.out W hMB).mono ?_
    rintro e5 W5 ⟨rfl, hb5⟩
    exact hK.out _ _ ⟨Zd vs 7 (.string tx), (by simp [Zd, v1, v6]), hM0.next HLD HST 7 (by decide) (by decide) hl _ hdp hb5 ((KK.out 7 _ _).2 rfl)⟩
   · have hMB := hM0.below HLD hi (by decide) hl
     have hMG := hM0.get HLD hi (by decide) hl
     have hdp := dpa DD hpre 8 rfl
     go_simp
     exact hK.out _ _ ⟨Zd vs 8 (.slice XA X.length xc), rfl, hM0.still HLD HST 8 (by decide) (by decide) hl _ hdp ((KK.out 8 _ _).2 rfl)⟩
   · have hMB := hM0.below HLD hi (by decide) hl
     have hMG := hM0.get HLD hi (by decide) hl
     have hdp := dpa DD hpre 9 rfl
     go_simp
     exact hK.out _ _ ⟨Zd vs 9 (.pointer (some ⟨w.heap.size, 4, none⟩)), rfl, hM0.still HLD HST 9 (by decide) (by decide) hl _ hdp ((KK.out 9 _ _).2 rfl)⟩
   ·
    have hMB := hM0.below HLD hi (by decide) hl
    have hMG := hM0.get HLD hi (by decide) hl
    have v9 : vs 9 = .pointer (some ⟨w.heap.size, 4, none⟩) := (KK.out 9 _ _).1 (hMG 9 (by decide) (hPR 9 rfl))
    have hdp := dpa DD hpre 10 rfl
    have x0 := Zg hMB z4
    rw [v9]
    go_simp
    exact hK.out _ _ ⟨Zd vs 10 (.int .i64 t.gap), (by simp [Zd, v9]), hM0.still HLD HST 10 (by decide) (by decide) hl _ hdp ((KK.out 10 _ _).2 rfl)⟩
   · have hMB := hM0.below HLD hi (by decide) hl
     have hMG := hM0.get HLD hi (by decide) hl
     have hdp := dpa DD hpre 11 rfl
     go_simp
     exact hK.out _ _ ⟨Zd vs 11 (.pointer (some ⟨w.heap.size + 1, 2, none⟩)), rfl, hM0.still HLD HST 11 (by decide) (by decide) hl _ hdp ((KK.out 11 _ _).2 rfl)⟩
   ·
    have hMB := hM0.below HLD hi (by decide) hl
    have hMG := hM0.get HLD hi (by decide) hl
    have v11 : vs 11 = .pointer (some ⟨w.heap.size + 1, 2, none⟩) := (KK.out 11 _ _).1 (hMG 11 (by decide) (hPR 11 rfl))
    have hdp := dpa DD hpre 12 rfl
    have x0 := Zg hMB yy2
    rw [v11]
    go_simp
    exact hK.out _ _ ⟨Zd vs 12 (.slice (some ⟨bG, oG, none⟩) GL.length gc), (by simp [Zd, v11]), hM0.still HLD HST 12 (by decide) (by decide) hl _ hdp ((KK.out 12 _ _).2 rfl)⟩
   · have hMB := hM0.below HLD hi (by decide) hl
     have hMG := hM0.get HLD hi (by decide) hl
     have hdp := dpa DD hpre 13 rfl
     go_simp
     exact hK.out _ _ ⟨Zd vs 13 (.int .i64 ↑i), rfl, hM0.still HLD HST 13 (by decide) (by decide) hl _ hdp ((KK.out 13 _ _).2 rfl)⟩
   ·
    have hMB := hM0.below HLD hi (by decide) hl
    have hMG := hM0.get HLD hi (by decide) hl
    have v12 : vs 12 = .slice (some ⟨bG, oG, none⟩) GL.length gc := (KK.out 12 _ _).1 (hMG 12 (by decide) (hPR 12 rfl))
    have v13 : vs 13 = .int .i64 ↑i := (KK.out 13 _ _).1 (hMG 13 (by decide) (hPR 13 rfl))
    have hdp := dpa DD hpre 14 rfl
    rw [v12, v13]
    go_simp
    exact hK.out _ _ ⟨Zd vs 14 (.pointer (some ⟨bG, oG + i * 5, none⟩)), (by simp [Zd, v12, v13]), hM0.still HLD HST 14 (by decide) (by decide) hl _ hdp ((KK.out 14 _ _).2 rfl)⟩
   ·
    have hMB := hM0.below HLD hi (by decide) hl
    have hMG := hM0.get HLD hi (by decide) hl
    have v14 : vs 14 = .pointer (some ⟨bG, oG + i * 5, none⟩) := (KK.out 14 _ _).1 (hMG 14 (by decide) (hPR 14 rfl))
    have hdp := dpa DD hpre 15 rfl
    have x0 := Zg hMB x0
    have x1 := Zg hMB x1
    have x2 := Zg hMB x2
    have x3 := Zg hMB x3
    have x4 := Zg hMB x4
    rw [v14]
    go_simp
    exact hK.out _ _ ⟨Zd vs 15 (.agg #[.int .i64 xg.row, .int .i64 xg.col, .int .i64 xg.rows, .int .i64 xg.cols, .int .i64 xg.inn]), (by simp [Zd, v14]), hM0.still HLD HST 15 (by decide) (by decide) hl _ hdp ((KK.out 15 _ _).2 rfl)⟩
   ·
    have hMB := hM0.below HLD hi (by decide) hl
    have hMG := hM0.get HLD hi (by decide) hl
    have v8 : vs 8 = .slice XA X.length xc := (KK.out 8 _ _).1 (hMG 8 (by decide) (hPR 8 rfl))
    have v10 : vs 10 = .int .i64 t.gap := (KK.out 10 _ _).1 (hMG 10 (by decide) (hPR 10 rfl))
    have v15 : vs 15 = .agg #[.int .i64 xg.row, .int .i64 xg.col, .int .i64 xg.rows, .int .i64 xg.cols, .int .i64 xg.inn] := (KK.out 15 _ _).1 (hMG 15 (by decide) (hPR 15 rfl))
    have v7 : vs 7 = .string tx := (KK.out 7 _ _).1 (hMG 7 (by decide) (hPR 7 rfl))
    have hdp := dpa DD hpre 16 rfl
    rw [v8, v10, v15, v7]
    go_simp
    refine (HWC.out W hMB).mono ?_
    rintro e5 W5 ⟨rfl, hb5⟩
    exact hK.out _ _ ⟨Zd vs 16 (.int .i64 wc), (by simp [Zd, v8, v10, v15, v7]), hM0.next HLD HST 16 (by decide) (by decide) hl _ hdp hb5 ((KK.out 16 _ _).2 rfl)⟩
   ·
    have hMB := hM0.below HLD hi (by decide) hl
    have hMG := hM0.get HLD hi (by decide) hl
    have v7 : vs 7 = .string tx := (KK.out 7 _ _).1 (hMG 7 (by decide) (hPR 7 rfl))
    have v16 : vs 16 = .int .i64 wc := (KK.out 16 _ _).1 (hMG 16 (by decide) (hPR 16 rfl))
    have hdp := dpa DD hpre 17 rfl
    rw [v7, v16]
    go_simp
    refine (HTL.out W hMB).mono ?_
    rintro e5 W5 ⟨v5, rfl, hS5, hb5⟩
    obtain ⟨As, ds, rfl⟩ := hS5.form
    exact hK.out _ _ ⟨Zd vs 17 (.slice As LS.length ds), (by simp [Zd, v7, v16]), hM0.next HLD HST 17 (by decide) (by decide) hl _ hdp hb5 ((KK.out 17 _ _).2 ⟨As, ds, rfl, (hS5.base hMB.size)⟩)⟩
   ·
    have hMB := hM0.below HLD hi (by decide) hl
    have hMG := hM0.get HLD hi (by decide) hl
    obtain ⟨As, ds, v17, q17⟩ := (KK.out 17 _ _).1 (hMG 17 (by decide) (hPR 17 rfl))
    have hdp := dpa DD hpre 18 rfl
    rw [v17]
    go_simp
    exact hK.out _ _ ⟨Zd vs 18 (.slice (some ⟨W.heap.size, 0, none⟩) 1 1), (by simp [Zd, v17]), hM0.next HLD HST 18 (by decide) (by decide) hl _ hdp (Zc (Zf _) _) ((KK.out 18 _ _).2 ⟨As, ds, _, rfl, ⟨Zj _ _ _ _ 0 _ rfl, q17.below (Zc (Zf _) _)⟩⟩)⟩
   ·
    have hMB := hM0.below HLD hi (by decide) hl
    have hMG := hM0.get HLD hi (by decide) hl
    have v0 : vs 0 = v7 := (KK.out 0 _ _).1 (hMG 0 (by decide) (hPR 0 rfl))
    obtain ⟨Ab, db, B21, v18, q18⟩ := (KK.out 18 _ _).1 (hMG 18 (by decide) (hPR 18 rfl))
    obtain ⟨As, ds, v17, q17⟩ := (KK.out 17 _ _).1 (hMG 17 (by decide) (hPR 17 rfl))
    have hdp := dpa DD hpre 19 rfl
    have hno : ∀ j, 19 < j → l.getD j false = true → 19 ∈ dep j := by
     intro j hj hj2
     have hjn : j < 21 := by have := Zap hj2; rw [hM0.size] at this; exact this
     obtain rfl : j = 20 := by omega
     rw [DD.out]; simp
    rw [v0, v18, v17]
    rw [if_pos (by simp [Region.wanted])]
    have hY9 := HND.out.below hMB
    refine Zfp (α := ByteArray) (.tmp 17) (.tmp 35) 31 44 9 (.slice none 0 0) 1 Zci (by decide) Zqk Zni rfl rfl V.heap.size v7 (.slice Ab LS.length db) LNi LS (by simp [Act.eval, v0]) hY9 (Jw q18.2 HZS.out) (fun vs9 o1 o2 => ?_) rfl ⟨B21, 0, none⟩ 1 (by simp [Act.eval, v18]) q18.1 HNL.out (Nat.le_trans HZS.out hMB.size) ?_
    · obtain ⟨vs8, o3, o4⟩ := HND.out
      have e9 : vs9 = vs8 := Zob (Qx o3 hMB) o1
      rw [e9]
      exact o4.apart (Nat.le_refl _) (fun b hb => (Qo q18.2 hb).1)
    intro v9 W9 h2 h3
    exact hK.out _ _ ⟨Zd vs 19 v9, by simp [Zd, Act.put, v0, v17, v18], hM0.last HLD (by decide) hl hno _ hdp ⟨h2, h3⟩⟩
   have hdp := dpa DD hpre 20 rfl
   go_simp
   exact hK.out _ _ ⟨Zd vs 20 (vs 19), by simp [Zd], hM0.post 20 (by decide) (by decide) (hPR 19 rfl) hdp⟩
  rintro l a W5 hall ⟨vs5, rfl, hM0⟩
  obtain ⟨W51, hMB, hMG, hMR, hMA⟩ := hM0.fin (by decide) hall
  have HBW := Za hMB
  have v20 := hMA 20 (by decide) (by decide)
  rw [v20]
  have hN9 := hMR.1
  rw [← HLT3.out] at hN9
  have HN9 := Za hN9
  have HB9 : Hid (Below V.heap.size V W5) := (step HBD.out HBW.out).trans (Qg hMR.2 (Nat.le_trans HZS.out HBW.out.size) (fun b hb => ((HND.out.below HBW.out).lt hb).1))
  clear KK DD ST HLD HST hMG v20 hN9 hMR hMB hMA hall hM0 st x0 x1 x2 x3 x4 z0 z1 z2 z3 z4 yy2 HBW
  go_wp2_with fail
  go_roundg (GL.length - (i + 1))
  case measure => omega
  case rel => exact ⟨i + 1, by omega, by omega, by go_num, HN9.out, HB9.out⟩
 have hltz : ¬ (i : Int) < (GL.length : Int) := by omega
 have hie : i = GL.length := by omega
 have HN9 : Hid (Ql (α := ByteArray) wr V.heap.size 44 9 1 Zci u7 (Zy t GL X)) := by
  have := HN.out
  rw [hie, List.take_length] at this
  exact this
 clear hie
 go_wp2_with fail
 go_ret
 exact ⟨_, rfl, HN9.out.rebase (by have := HZV.out; omega), step HBV.out HB.out⟩
theorem Zou (nr : Nat) (n : Nat) (GL : List Zl) (GA : Option Addr) (gc : Nat) (LN : List (List ByteArray)) (LA : Option Addr) (lc : Nat) (w : World) (hG : Rd gcR w GA GL) (hL : Rd (Zit Zic) w LA LN)
 (hln : LN.length = GL.length) (hl31 : ∀ l ∈ LN, l.length ≤ 31) (hrw : nr ≤ 8) (hcell : ∀ x ∈ GL, Zng x ∧ (1 ≤ x.rows ∧ x.row + x.rows ≤ nr)) (hcl : GL.length ≤ 40) :
 Calls Tryz.prog 80 #[.agg #[.int .i64 nr, .int .i64 n, .slice GA GL.length gc], .slice LA GL.length lc] w fun e w' => ∃ v, e = .returned v ∧ Zn w' w.heap.size v (Qr (Qf GL LN) nr (List.replicate nr 0)) ∧ Below w.heap.size w w' := by
 have HG := Za hG
 have HL := Za hL
 have HLN := Za hln
 have HL31 := Za hl31
 have HCA := Za hcell
 have hCE : ∀ p ∈ Qf GL LN, 0 ≤ p.2 ∧ p.2 ≤ 31 := fun p hp => by
  have h2 : p.2 ∈ LN.map fun l => (l.length : Int) := (List.of_mem_zip (show (p.1, p.2) ∈ _ from hp)).2
  obtain ⟨l, hl, e2⟩ := List.mem_map.1 h2
  have := hl31 l hl
  omega
 have HCE := Za hCE
 obtain ⟨V, hV⟩ : ∃ V, V = w.alloc (.cells #[.int .i64 nr, .int .i64 n, .slice GA GL.length gc] 39) := ⟨_, rfl⟩
 have hKG : Zh V w.heap.size [.int .i64 nr, .int .i64 n, .slice GA GL.length gc] := by rw [hV]; exact Zh.new w _ _
 have hbV : Below w.heap.size w V := by rw [hV]; exact Zc (Zf _) _
 have hzV : V.heap.size = w.heap.size + 1 := by rw [hV]; simp
 have hmk := Zde (P := Tryz.prog) (z := .int .i64 0) (k := 1) (bytes := 8) Yl Yu nr (by omega) (by omega)
 have hmi := Zb5 V V.heap.size nr (Nat.le_refl _) (by omega)
 rw [hzV, Nat.mul_one] at hmi
 have HMI : Hid (Zn (V.alloc (.cells (madeCells #[.int .i64 0] nr) 3)) (w.heap.size + 1) (.slice (some ⟨w.heap.size + 1, 0, none⟩) nr nr) (List.replicate nr 0)) := hmi
 have HKG := Za hKG
 have HBV := Za hbV
 have HZV := Za hzV
 have HV := Za hV
 clear hG hL hln hl31 hcell hCE hKG hbV hzV hV hmi
 go_enter Tryz.func80, Tryz.ntmps80
 go_wp2_with fail
 rw [← HV.out]
 clear HV hmk
 go_loopg [6, 7, 8] nr (fun gg s6 s7 s8 wr => ∃ r : Nat, r ≤ nr ∧ nr - r ≤ gg ∧ s6 = .int .i64 r ∧ Aside (Zn wr (w.heap.size + 1) (.slice (some ⟨w.heap.size + 1, 0, none⟩) nr nr) (Qr (Qf GL LN) r (List.replicate nr 0))) ∧ Aside (Below V.heap.size V wr))
 case atStart => exact ⟨0, Nat.zero_le _, by omega, rfl, HMI.out, Zc (Zf _) _⟩
 obtain ⟨r, hr, hgr, rfl, HYR, HB8⟩ := hrel
 clear HMI
 have y0 : wr.cell? ⟨w.heap.size, 0, none⟩ = some (.int .i64 nr) := Zg HB8.out (HKG.out.1 0 _ rfl)
 by_cases hlt8 : r < nr
 ·
  have hltz8 : (r : Int) < (nr : Int) := by omega
  obtain ⟨Zr, hZr⟩ : ∃ Z, Qr (Qf GL LN) r (List.replicate nr 0) = Z := ⟨_, rfl⟩
  have hZb : Zld Zr := by rw [← hZr]; exact Ze6 _ HCE.out _ _
  have hZl : Zr.length = nr := by rw [← hZr]; exact Zbi _ _ _
  have HZN : Hid (Qr (Qf GL LN) (r + 1) (List.replicate nr 0) = (Qf GL LN).foldl (Jg r) Zr) := by rw [← hZr]; exact rfl
  rw [hZr] at HYR
  have HZB := Za hZb
  have HZL := Za hZl
  clear hZr hZb hZl
  go_wp2_with fail
  clear y0
  go_loopg [7, 8] GL.length (fun gg s7 s8 wr => ∃ i : Nat, i ≤ GL.length ∧ GL.length - i ≤ gg ∧ s7 = .int .i64 i ∧ Aside (Zn wr (w.heap.size + 1) (.slice (some ⟨w.heap.size + 1, 0, none⟩) nr nr) (((Qf GL LN).take i).foldl (Jg r) Zr)) ∧ Aside (Below V.heap.size V wr))
  case atStart => exact ⟨0, Nat.zero_le _, by omega, rfl, HYR.out, HB8.out⟩
  obtain ⟨i, hi, hgi, rfl, HYI, HB9⟩ := hrel
  clear HYR HB8
  have y2 : wr.cell? ⟨w.heap.size, 2, none⟩ = some (.slice GA GL.length gc) := Zg HB9.out (HKG.out.1 2 _ rfl)
  by_cases hlt9 : i < GL.length
  ·
   have hltz9 : (i : Int) < (GL.length : Int) := by omega
   obtain ⟨bG, oG, c0', c1', c2', c3', c4', rfl, hbg, hKx, k0, k1, k2, k3, k4⟩ := HG.out.at5 rfl (step HBV.out HB9.out) i hlt9
   have ex : [c0', c1', c2', c3', c4'] = gcE GL[i] := hKx.1
   obtain ⟨xg, hxg⟩ : ∃ x, GL[i] = x := ⟨_, rfl⟩
   rw [hxg] at ex
   simp only [gcE, List.cons.injEq, and_true] at ex
   obtain ⟨rfl, rfl, rfl, rfl, rfl⟩ := ex
   obtain ⟨hPC, hR1, hR2⟩ := HCA.out xg (by rw [← hxg]; exact List.getElem_mem hlt9)
   obtain ⟨q, hq⟩ := Int.eq_ofNat_of_zero_le hPC.1.1
   have hlnl : i < LN.length := by have := HLN.out; omega
   obtain ⟨ls, hls⟩ : ∃ l, LN[i] = l := ⟨_, rfl⟩
   have hls31 : ls.length ≤ 31 := by rw [← hls]; exact HL31.out _ (List.getElem_mem hlnl)
   have hstep : ((Qf GL LN).take (i + 1)).foldl (Jg r) Zr = Jg r (((Qf GL LN).take i).foldl (Jg r) Zr) (xg, (ls.length : Int)) := by
    have hcl2 : i < (Qf GL LN).length := by unfold Qf; rw [List.length_zip, List.length_map]; omega
    have e9 : (Qf GL LN)[i] = (xg, (ls.length : Int)) := by
     simp only [Qf, List.getElem_zip, List.getElem_map]
     rw [hxg, hls]
    rw [List.take_succ_eq_append_getElem hcl2, List.foldl_append, e9]; rfl
   obtain ⟨Zi, hZi⟩ : ∃ Z, ((Qf GL LN).take i).foldl (Jg r) Zr = Z := ⟨_, rfl⟩
   have hZb : Zld Zi := by rw [← hZi]; exact Zhm _ _ HZB.out (fun p hp => HCE.out p (List.mem_of_mem_take hp))
   have hZl : Zi.length = nr := by rw [← hZi, Zdi]; exact HZL.out
   rw [hZi] at hstep HYI
   rw [Zj0, hq, Int.toNat_natCast] at hstep
   rw [hq] at k0 hR2
   have hp2 := hPC.2.2.1
   have t1 := IntWalk.i64_in ((q : Int) + xg.rows) (by omega)
   have t2 := IntWalk.i64_in ((q : Int) + xg.rows - 1) (by omega)
   have HLS := Za hls
   have HZB2 := Za hZb
   have HZL2 := Za hZl
   have HYI2 := Za HYI.out
   clear hKx hxg hPC hZi hZb hZl HYI hls hp2
   by_cases heq : (q : Int) + xg.rows - 1 = (r : Int)
   ·
    rw [if_pos heq] at hstep
    have HST := Za hstep
    have heb : ((q : Int) + xg.rows - 1 == (r : Int)) = true := by rw [heq]; simp
    have hqr : q ≤ r := by omega
    clear hstep heq hR1 hR2
    go_upto_region 10 with fail
    obtain ⟨V7, hV7⟩ : ∃ W, W = wr.alloc (.cells #[.int .i64 q, .int .i64 xg.col, .int .i64 xg.rows, .int .i64 xg.cols, .int .i64 xg.inn] 43) := ⟨_, rfl⟩
    rw [← hV7]
    have hK8 : Zh V7 wr.heap.size [.int .i64 q, .int .i64 xg.col, .int .i64 xg.rows, .int .i64 xg.cols, .int .i64 xg.inn] := by rw [hV7]; exact Zh.new wr _ _
    have ed : Below wr.heap.size wr V7.drew := Zt (by rw [hV7]; exact Zc (Zf _) _)
    have HBD7 := Za (step HB9.out ed)
    have HYD := Za (HYI2.out.below ed)
    have x0 := Zg (Zt (Zf V7)) (hK8.1 0 _ rfl)
    obtain ⟨bl, ol, A2, c2, hAl, _, hli, _⟩ := Zf2 HL.out (step HBV.out HBD7.out) i hlnl
    rw [HLS.out] at hli
    have hzr := HYD.out.cell r (by have := HZL2.out; omega)
    have hzf := HYD.out.frozen r
    obtain ⟨zr, hzre⟩ : ∃ z, Zi.getD r 0 = z := ⟨_, rfl⟩
    obtain ⟨sw, hsw⟩ : ∃ z, Yk Zi q (r - q) = z := ⟨_, rfl⟩
    have hzb := HZB2.out
    have hwl : ((Zi.drop q).take (r - q)).length = r - q := by rw [List.length_take, List.length_drop, HZL2.out]; omega
    have hwb : ∀ x ∈ (Zi.drop q).take (r - q), 0 ≤ x ∧ x ≤ 31 := fun x hx => hzb x (List.mem_of_mem_drop (List.mem_of_mem_take hx))
    have hsw31 : 0 ≤ sw ∧ sw ≤ 31 * 8 := by
     rw [← hsw]
     have := Zey 31 _ hwb
     rw [hwl] at this
     unfold Yk
     omega
    have HSUM : Hid (∀ W, Below V7.drew.heap.size V7.drew W → Calls Tryz.prog 96 #[.slice (some ⟨w.heap.size + 1, q, none⟩) (r - q) (nr - q)] W fun e w' => e = .returned (.int .i64 sw) ∧ w' = W) := fun W hb => by
     have h1 := Zkj (Qq (HYD.out.below hb)) rfl q (r - q)
     rw [Nat.zero_add] at h1
     have h2 := Zay (some ⟨w.heap.size + 1, q, none⟩) (nr - q) ((Zi.drop q).take (r - q)) W h1 (fun x hx => by have := hwb x hx; omega) (by rw [hwl]; omega)
     rw [hwl, show Zq ((Zi.drop q).take (r - q)) = sw from hsw] at h2
     exact h2
    have hstep := HST.out
    clear HST
    rw [hzre] at hzr
    rw [hzre, hsw] at hstep
    have t3 := IntWalk.i64_in ((ls.length : Int) - sw) (by omega)
    have hs2 : (q : Int) ≤ (r : Int) := by omega
    have hs3 : (r : Int) ≤ (nr : Int) := by omega
    have hs4 : r ≤ nr := by omega
    have hs5 : ¬ nr = q := by omega
    have HSP2 := Za hstep
    have HGL : Hid (w.heap.size + 1 < V7.drew.heap.size) := (HYD.out.lt rfl).2
    have HMX := Za (fun (W : World) => Zjm zr ((ls.length : Int) - sw) W)
    have HAL := Za hAl
    clear hV7 hK8 ed hAl hzre hsw hzb hwl hwb hsw31 hstep k0 k1 k2 k3 k4 HYI2 HZB2 hls31 t1 t2 heb HZL2
    obtain ⟨KF, hKF⟩ : ∃ f : Nat → Value → World → Prop, f = (fun j v W => match j with | 0 => v = .slice (some ⟨w.heap.size + 1, 0, none⟩) nr nr | 1 => v = .int .i64 ↑r | 2 => v = .slice (some ⟨w.heap.size + 1, 0, none⟩) nr nr | 3 => v = .int .i64 ↑r | 4 => v = .pointer (some ⟨w.heap.size + 1, r, none⟩) | 5 => v = .int .i64 zr | 6 => v = .slice LA GL.length lc | 7 => v = .int .i64 ↑i | 8 => v = .pointer (some ⟨bl, ol + i, none⟩) | 9 => v = .slice A2 ls.length c2 | 10 => v = .int .i64 (ls.length : Int) | 11 => v = .slice (some ⟨w.heap.size + 1, 0, none⟩) nr nr | 12 => v = .pointer (some ⟨wr.heap.size, 0, none⟩) | 13 => v = .int .i64 q | 14 => v = .int .i64 ↑r | 15 => v = .slice (some ⟨w.heap.size + 1, q, none⟩) (r - q) (nr - q) | 16 => v = .int .i64 sw | 17 => v = .int .i64 (↑ls.length - sw) | 18 => v = .int .i64 (max zr (↑ls.length - sw)) | 19 => v = .pointer (some ⟨w.heap.size + 1, r, none⟩) | _ => True) := ⟨_, rfl⟩
    have KK := Za (kf hKF)
    have HST : Yw KF := by
     rw [hKF]
     intro j v W W9 h hb
     by_cases hjn : j < 21
     ·
      obtain rfl|rfl|rfl|rfl|rfl|rfl|rfl|rfl|rfl|rfl|rfl|rfl|rfl|rfl|rfl|rfl|rfl|rfl|rfl|rfl|rfl : j = 0 ∨ j = 1 ∨ j = 2 ∨ j = 3 ∨ j = 4 ∨ j = 5 ∨ j = 6 ∨ j = 7 ∨ j = 8 ∨ j = 9 ∨ j = 10 ∨ j = 11 ∨ j = 12 ∨ j = 13 ∨ j = 14 ∨ j = 15 ∨ j = 16 ∨ j = 17 ∨ j = 18 ∨ j = 19 ∨ j = 20 := by omega
      · exact h
      · exact h
      · exact h
      · exact h
      · exact h
      · exact h
      · exact h
      · exact h
      · exact h
      · exact h
      · exact h
      · exact h
      · exact h
      · exact h
      · exact h
      · exact h
      · exact h
      · exact h
      · exact h
      · exact h
      exact trivial
     obtain ⟨k, rfl⟩ : ∃ k, j = k + 21 := ⟨j - 21, by omega⟩
     exact h
    clear hKF
    obtain ⟨dep, hdep⟩ : ∃ f : Nat → List Nat, f = (fun j => match j with | 4 => [2, 3] | 5 => [4] | 8 => [6, 7] | 9 => [8] | 10 => [9] | 13 => [12] | 15 => [11, 13, 14] | 16 => [15] | 17 => [10, 16] | 18 => [5, 17, 16] | 19 => [0, 1] | 20 => [19, 18] | _ => []) := ⟨_, rfl⟩
    have DD := Za hdep
    clear hdep
    have HLD : Yt 21 20 dep := Zbo DD.out (by decide)
    obtain ⟨st, hst⟩ : ∃ f : Nat → Value, f = (fun j => match j with | 0 => u38 | 1 => u39 | 2 => u40 | 3 => u41 | 4 => u42 | 5 => u43 | 6 => u44 | 7 => u45 | 8 => u46 | 9 => u47 | 10 => u48 | 11 => u49 | 12 => u50 | 13 => u51 | 14 => u52 | 15 => u53 | 16 => u54 | 17 => u55 | 18 => u56 | 19 => u57 | _ => undef) := ⟨_, rfl⟩
    have ST := Za hst
    clear hst
    refine Qe (fun l a W => ∃ vs : Nat → Value, a = ⟨List.toArray (.agg #[.int .i64 ↑nr, .int .i64 ↑n, .slice (some ⟨bG, oG, none⟩) GL.length gc] :: .slice LA GL.length lc :: .pointer (some ⟨w.heap.size, 0, none⟩) :: Zb :: .slice none 0 0 :: .slice (some ⟨w.heap.size + 1, 0, none⟩) nr nr :: .int .i64 ↑r :: .int .i64 ↑i :: .pointer (some ⟨wr.heap.size, 0, none⟩) :: .pointer (some ⟨w.heap.size, 0, none⟩) :: .int .i64 ↑nr :: .slice (some ⟨w.heap.size + 1, 0, none⟩) nr nr :: .int .i64 ↑r :: .pointer (some ⟨w.heap.size, 0, none⟩) :: .int .i64 ↑nr :: .bool true :: u16 :: u17 :: .int .i64 ↑i :: .pointer (some ⟨w.heap.size, 2, none⟩) :: .slice (some ⟨bG, oG, none⟩) GL.length gc :: .int .i64 ↑GL.length :: .bool true :: u23 :: u24 :: .pointer (some ⟨w.heap.size, 2, none⟩) :: .slice (some ⟨bG, oG, none⟩) GL.length gc :: .int .i64 ↑i :: .pointer (some ⟨bG, oG + i * 5, none⟩) :: .agg #[.int .i64 ↑q, .int .i64 xg.col, .int .i64 xg.rows, .int .i64 xg.cols, .int .i64 xg.inn] :: .pointer (some ⟨wr.heap.size, 0, none⟩) :: .int .i64 ↑q :: .pointer (some ⟨wr.heap.size, 2, none⟩) :: .int .i64 xg.rows :: .int .i64 (↑q + xg.rows) :: .int .i64 (↑q + xg.rows - 1) :: .int .i64 ↑r :: .bool true :: vs 0 :: vs 1 :: vs 2 :: vs 3 :: vs 4 :: vs 5 :: vs 6 :: vs 7 :: vs 8 :: vs 9 :: vs 10 :: vs 11 :: vs 12 :: vs 13 :: vs 14 :: vs 15 :: vs 16 :: vs 17 :: vs 18 :: vs 19 :: Zb :: []), []⟩ ∧ Yp KF 21 20 dep (V7.drew) (fun W v W2 => W2 = W.setCell ⟨w.heap.size + 1, r, none⟩ (.int .i64 (max zr (↑ls.length - sw)))) st l vs W) (by kernel_rfl) ?top ?start ?step ?fin
    case top => exact Zae (by kernel_rfl)
    case start => exact ⟨st, by rw [ST.out]; first | done | rfl, Yp.start⟩
    case step =>
     rintro l a W i o ho hl hpre hsz ⟨vs, rfl, hM0⟩ K hK
     have hi : i < 21 := (Array.getElem?_eq_some_iff.1 ho).1
     obtain rfl|rfl|rfl|rfl|rfl|rfl|rfl|rfl|rfl|rfl|rfl|rfl|rfl|rfl|rfl|rfl|rfl|rfl|rfl|rfl|rfl := Zv5 hi
     all_goals
      simp only [List.getElem?_toArray, List.getElem?_cons_zero, List.getElem?_cons_succ, Option.some.injEq] at ho
      subst ho
      have hMB := hM0.below HLD hi (by decide) hl
      have hMG := hM0.get HLD hi (by decide) hl
      have hV := Zsd KK hMG hpre
      try have stl := hM0.sti HLD HST KK DD hpre hi (by decide) hl
     · go_simp
       exact hK.out _ _ ⟨Zd vs 0 _, rfl, stl _ rfl rfl⟩
     · go_simp
       exact hK.out _ _ ⟨Zd vs 1 _, rfl, stl _ rfl rfl⟩
     · go_simp
       exact hK.out _ _ ⟨Zd vs 2 _, rfl, stl _ rfl rfl⟩
     · go_simp
       exact hK.out _ _ ⟨Zd vs 3 _, rfl, stl _ rfl rfl⟩
     · have v2 : vs 2 = .slice (some ⟨w.heap.size + 1, 0, none⟩) nr nr := hV 2 rfl
       have v3 : vs 3 = .int .i64 ↑r := hV 3 rfl
       rw [v2, v3]
       go_simp
       exact hK.out _ _ ⟨Zd vs 4 _, (by simp [Zd, v2, v3]), stl _ rfl rfl⟩
     · have v4 : vs 4 = .pointer (some ⟨w.heap.size + 1, r, none⟩) := hV 4 rfl
       have x0 := Zg hMB hzr
       rw [v4]
       go_simp
       exact hK.out _ _ ⟨Zd vs 5 _, (by simp [Zd, v4]), stl _ rfl rfl⟩
     · go_simp
       exact hK.out _ _ ⟨Zd vs 6 _, rfl, stl _ rfl rfl⟩
     · go_simp
       exact hK.out _ _ ⟨Zd vs 7 _, rfl, stl _ rfl rfl⟩
     · have v6 : vs 6 = .slice LA GL.length lc := hV 6 rfl
       have v7 : vs 7 = .int .i64 ↑i := hV 7 rfl
       rw [HAL.out] at v6
       rw [v6, v7]
       go_simp
       exact hK.out _ _ ⟨Zd vs 8 _, (by simp [Zd, v6, v7]), stl _ rfl rfl⟩
     · have v8 : vs 8 = .pointer (some ⟨bl, ol + i, none⟩) := hV 8 rfl
       have x0 := Zg hMB hli
       rw [v8]
       go_simp
       exact hK.out _ _ ⟨Zd vs 9 _, (by simp [Zd, v8]), stl _ rfl rfl⟩
     · have v9 : vs 9 = .slice A2 ls.length c2 := hV 9 rfl
       rw [v9]
       go_simp
       exact hK.out _ _ ⟨Zd vs 10 _, (by simp [Zd, v9]), stl _ rfl rfl⟩
     · go_simp
       exact hK.out _ _ ⟨Zd vs 11 _, rfl, stl _ rfl rfl⟩
     · go_simp
       exact hK.out _ _ ⟨Zd vs 12 _, rfl, stl _ rfl rfl⟩
     · have v12 : vs 12 = .pointer (some ⟨wr.heap.size, 0, none⟩) := hV 12 rfl
       have x0 := Zg hMB x0
       rw [v12]
       go_simp
       exact hK.out _ _ ⟨Zd vs 13 _, (by simp [Zd, v12]), stl _ rfl rfl⟩
     · go_simp
       exact hK.out _ _ ⟨Zd vs 14 _, rfl, stl _ rfl rfl⟩
     · have v11 : vs 11 = .slice (some ⟨w.heap.size + 1, 0, none⟩) nr nr := hV 11 rfl
       have v13 : vs 13 = .int .i64 q := hV 13 rfl
       have v14 : vs 14 = .int .i64 ↑r := hV 14 rfl
       rw [v11, v13, v14]
       go_simp
       exact hK.out _ _ ⟨Zd vs 15 _, (by simp [Zd, v11, v13, v14]), stl _ rfl rfl⟩
     · have v15 : vs 15 = .slice (some ⟨w.heap.size + 1, q, none⟩) (r - q) (nr - q) := hV 15 rfl
       have hdp := dpa DD hpre 16 rfl
       rw [v15]
       go_simp
       refine (HSUM.out W hMB).mono ?_
       rintro e5 W5 ⟨rfl, hq5⟩
       exact hK.out _ _ ⟨Zd vs 16 (.int .i64 sw), (by simp [Zd, v15]), hM0.next HLD HST 16 (by decide) (by decide) hl _ hdp (by rw [hq5]; exact Zf _) ((KK.out 16 _ _).2 rfl)⟩
     · have v10 : vs 10 = .int .i64 (ls.length : Int) := hV 10 rfl
       have v16 : vs 16 = .int .i64 sw := hV 16 rfl
       rw [v10, v16]
       go_simp
       exact hK.out _ _ ⟨Zd vs 17 _, (by simp [Zd, v10, v16]), stl _ rfl rfl⟩
     ·
      have v5 : vs 5 = .int .i64 zr := hV 5 rfl
      have v17 : vs 17 = .int .i64 (↑ls.length - sw) := hV 17 rfl
      have v16 : vs 16 = .int .i64 sw := hV 16 rfl
      have hdp := dpa DD hpre 18 rfl
      rw [v5, v17, v16]
      go_simp
      refine (HMX.out W).mono ?_
      rintro e5 W5 ⟨rfl, hq5⟩
      exact hK.out _ _ ⟨Zd vs 18 (.int .i64 (max zr (↑ls.length - sw))), (by simp [Zd, v5, v17, v16]), hM0.next HLD HST 18 (by decide) (by decide) hl _ hdp (by rw [hq5]; exact Zf _) ((KK.out 18 _ _).2 rfl)⟩
     · have v0 : vs 0 = .slice (some ⟨w.heap.size + 1, 0, none⟩) nr nr := hV 0 rfl
       have v1 : vs 1 = .int .i64 ↑r := hV 1 rfl
       rw [v0, v1]
       go_simp
       exact hK.out _ _ ⟨Zd vs 19 _, (by simp [Zd, v0, v1]), stl _ rfl rfl⟩
     have v19 : vs 19 = .pointer (some ⟨w.heap.size + 1, r, none⟩) := hV 19 rfl
     have v18 : vs 18 = .int .i64 (max zr (↑ls.length - sw)) := hV 18 rfl
     have hdp := dpa DD hpre 20 rfl
     have hno : ∀ j, 20 < j → l.getD j false = true → 20 ∈ dep j := by
      intro j hj hj2
      have hjn : j < 21 := by have := Zap hj2; rw [hM0.size] at this; exact this
      omega
     rw [v19, v18]
     have s9 := Zg hMB hzr
     have fz := (hMB.frozen (p := ⟨w.heap.size + 1, r, none⟩) HGL.out).trans hzf
     go_simp
     exact hK.out _ _ ⟨Zd vs 20 undef, by simp [Zd, v19, v18], hM0.last HLD (by decide) hl hno _ hdp rfl⟩
    rintro l a W15 hall ⟨vs15, rfl, hM0⟩
    obtain ⟨W151, hMB, hMG, hMR, hMA⟩ := hM0.fin (by decide) hall
    have HBW := Za hMB
    have hYN := (HYD.out.below HBW.out).store r (max zr (↑ls.length - sw))
    rw [← hMR, ← HSP2.out] at hYN
    have HYN := Za hYN
    have HBN : Hid (Below V.heap.size V W15) := by
     rw [hMR]
     exact Yi (step HBD7.out HBW.out) (show V.heap.size ≤ w.heap.size + 1 by have := HZV.out; omega) _
    clear KK DD ST HLD HST hMG hYN hMR hMB hMA hall hM0 st x0 hli hzr hzf t3 hs2 hs3 hs4 hs5 HBW
    go_wp2_with fail
    go_roundg (GL.length - (i + 1))
    case measure => omega
    case rel => exact ⟨i + 1, by omega, by omega, by go_num, HYN.out, HBN.out⟩
   rw [if_neg heq] at hstep
   have HST := Za hstep
   have heb : ((q : Int) + xg.rows - 1 == (r : Int)) = false := by simpa using heq
   clear hstep hR1 hR2
   go_wp2_with fail
   go_roundg (GL.length - (i + 1))
   case measure => omega
   case rel => exact ⟨i + 1, by omega, by omega, by go_num, (show Aside _ from by rw [HST.out]; exact HYI2.out.below (Zc (Zf _) _)), Zc HB9.out _⟩
  have hltz9 : ¬ (i : Int) < (GL.length : Int) := by omega
  have HYN : Hid (Zn wr (w.heap.size + 1) (.slice (some ⟨w.heap.size + 1, 0, none⟩) nr nr) (Qr (Qf GL LN) (r + 1) (List.replicate nr 0))) := by
   have h9 := HYI.out
   rw [List.take_of_length_le (by unfold Qf; rw [List.length_zip]; omega), ← HZN.out] at h9
   exact h9
  go_wp2_with fail
  go_roundg (nr - (r + 1))
  case measure => omega
  case rel => exact ⟨r + 1, by omega, by omega, by go_num, HYN.out, HB9.out⟩
 have hltz8 : ¬ (r : Int) < (nr : Int) := by omega
 have hre : r = nr := by omega
 rw [hre] at HYR
 clear hre
 go_wp2_with fail
 go_ret
 exact ⟨_, rfl, HYR.out.base (Nat.le_succ _), step HBV.out HB8.out⟩
end Go.Proofs.YtgdmcmicfoamlaaGreatDoor
