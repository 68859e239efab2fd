import Derived.Test.YtgdmcmicfoamlaaGreatDoorMixTx
set_option linter.unusedVariables false
set_option linter.unusedSimpArgs false
set_option maxHeartbeats 8000000
set_option maxRecDepth 100000
namespace Go.Proofs.YtgdmcmicfoamlaaGreatDoor
open Go.RowKit
def Zw (t : Tbl) (k : Nat) : Int := (Yc t k).k
def Zbd (t : Tbl) (k : Nat) : Int := (Yc t k).n
theorem Zhg (base base2 g c n g2 c2 : Nat) (X Y : List Int) (w : World) (hX : Zn w base (.slice (some ⟨g, 0, none⟩) n c) X) (hY : Zn w base2 (.slice (some ⟨g2, 0, none⟩) n c2) Y) (hl : X.length = n) (hl2 : Y.length = n) (hne : g ≠ g2) (hn : n ≤ 1000) (hb : base ≤ g)
 (hx : ∀ x ∈ X, 0 ≤ x ∧ x ≤ 1000000) (hy : ∀ x ∈ Y, 0 ≤ x ∧ x ≤ 1000000) :
 Calls Tryz.prog 163 #[.slice (some ⟨g, 0, none⟩) n c, .slice (some ⟨g2, 0, none⟩) n c2] w fun e w' => e = .returned (.tuple #[]) ∧ Zn w' base (.slice (some ⟨g, 0, none⟩) n c) (Qk X 0 Y) ∧ w.grownBy w' (some g) := by
 have HX := Za hX
 have HY := Za hY
 have HL := Za hl
 have HL2 := Za hl2
 have HBX := Za hx
 have HBY := Za hy
 clear hX hY hl hl2 hx hy
 go_enter Tryz.func163, Tryz.ntmps163
 go_wp2_with fail
 go_loopg [4, 5, 8] n (fun gg s4 s5 s8 wr => ∃ j : Nat, j ≤ n ∧ n - j ≤ gg ∧ s8 = .int .i64 j ∧ Aside (Zn wr base (.slice (some ⟨g, 0, none⟩) n c) (Qk X 0 (Y.take j))) ∧ Aside (Zn wr base2 (.slice (some ⟨g2, 0, none⟩) n c2) Y) ∧ Aside (w.grownBy wr (some g)))
 case atStart => exact ⟨0, Nat.zero_le _, by omega, rfl, (show Aside _ from by show Zn _ _ _ _; rw [List.take_zero]; exact HX.out), HY.out, Jk _ _⟩
 obtain ⟨j, hj, hgg, rfl, HM, HZ, HG⟩ := hrel
 by_cases hlt : j < n
 ·
  have hltz : (j : Int) < (n : Int) := by omega
  have c0 := HZ.out.cell (j := j) (by rw [HL2.out]; exact hlt)
  have hxl : (Qk X 0 (Y.take j)).length = n := by rw [Jj]; exact HL.out
  have c1 := HM.out.cell (j := j) (by rw [hxl]; exact hlt)
  have f1 := HM.out.frozen j
  have hget := Zb1 (Y.take j) X 0 j (by rw [HL.out]; simp; omega)
  rw [if_neg (by simp; omega), Int.add_zero] at hget
  have hxb := Yn HBX.out j (by rw [HL.out]; exact hlt)
  have hyb := Yn HBY.out j (by rw [HL2.out]; exact hlt)
  have hsn := Zgl (Y.take j) (Y.getD j 0) X 0
  rw [Zb4 (by rw [HL2.out]; exact hlt), List.length_take, HL2.out, Nat.min_eq_left (by omega), Nat.zero_add] at hsn
  rw [← hget] at hxb
  have hso := fun v => HZ.out.other (a := ⟨g, j, none⟩) hne v
  generalize Y.getD j 0 = y at c0 hyb hsn
  generalize (Qk X 0 (Y.take j)).getD j 0 = x at c1 hxb hsn
  have t1 := IntWalk.i64_in (x + y) (by omega)
  have HSN := Za hsn
  have HSO := Za hso
  clear hxl hget hxb hyb hsn hso
  go_wp2_with fail
  go_roundg (n - (j + 1))
  case measure => omega
  case rel => exact ⟨j + 1, by omega, by omega, by go_num, (show Aside _ from by rw [HSN.out]; exact HM.out.store j (x + y)), HSO.out _, Zk HG.out (Qt _ rfl _)⟩
 have hltz : ¬ (j : Int) < (n : Int) := by omega
 have hO := HM.out
 rw [List.take_of_length_le (by rw [HL2.out]; omega)] at hO
 have HO := Za hO
 clear hO
 go_wp2_with fail
 go_end0
 exact ⟨rfl, HO.out, HG.out⟩
theorem Zop (f : Nat → Int) (q : Int) (n : Nat) : (List.replicate n (0 : Int)).mapIdx (fun j x => if f j = q then 1 else x) = Zu f q n := by
 unfold Zu
 apply List.ext_getElem (by simp)
 intro i h1 h2
 simp
theorem Zu3 (f : Nat → Int) (q : Int) (n : Nat) : ((List.range n).any fun j => decide (f j = q)) = decide (0 < Zq (Zu f q n)) := by
 rw [Bool.eq_iff_iff, List.any_eq_true, decide_eq_true_iff]
 constructor
 · rintro ⟨j, hj, hq⟩
   exact Zg3 (List.mem_range.1 hj) (of_decide_eq_true hq)
 intro h
 refine Classical.byContradiction fun hno => ?_
 have hz : ∀ x ∈ Zu f q n, x = 0 := by
  intro x hx
  unfold Zu at hx
  obtain ⟨k, hk, rfl⟩ := List.mem_map.1 hx
  rw [if_neg]
  intro hq
  exact hno ⟨k, hk, decide_eq_true hq⟩
 have : Zq (Zu f q n) ≤ 0 * (Zu f q n).length := Zd4 fun x hx => by rw [hz x hx]; decide
 omega
theorem Zjw (t : Tbl) (A : Option Addr) (c : Nat) (A' : Option Addr) (c' : Nat) (n : Nat) (q : Int) (w : World) (hc : Rd Zbz w A t.cols) (hn : 1 ≤ n ∧ n ≤ 1000) :
 Calls Tryz.prog 165 #[.agg #[.slice A t.cols.length c, .int .i64 t.head, .int .i64 t.foot, .slice A' t.rows.length c', .int .i64 t.gap], .int .i64 n, .int .i64 q] w fun e w' => ∃ v, e = .returned (.tuple #[v, .bool (decide (0 < Zq (Zu (Zw t) q n)))]) ∧ Zn w' w.heap.size v (Zu (Zw t) q n) ∧ Below w.heap.size w w' := by
 have hmk := Zde (P := Tryz.prog) (z := .int .i64 0) (k := 1) (bytes := 8) Yl Yu n (by omega) (by omega)
 have m := Zb5 (w.alloc (.cells #[.slice A t.cols.length c, .int .i64 t.head, .int .i64 t.foot, .slice A' t.rows.length c', .int .i64 t.gap] 26)) w.heap.size n (by simp) (by omega)
 rw [Nat.mul_one] at m
 have hz2 : ((w.alloc (.cells #[.slice A t.cols.length c, .int .i64 t.head, .int .i64 t.foot, .slice A' t.rows.length c', .int .i64 t.gap] 26)).alloc (.cells (madeCells #[Value.int .i64 0] n) 3)).heap.size = w.heap.size + 2 := by simp
 obtain ⟨V, hV⟩ : ∃ V, V = (w.alloc (.cells #[.slice A t.cols.length c, .int .i64 t.head, .int .i64 t.foot, .slice A' t.rows.length c', .int .i64 t.gap] 26)).alloc (.cells (madeCells #[Value.int .i64 0] n) 3) := ⟨_, rfl⟩
 have M : Hid (Zn V w.heap.size (.slice (some ⟨w.heap.size + 1, 0, none⟩) n n) (List.replicate n 0)) := by
  have e1 : (w.alloc (.cells #[.slice A t.cols.length c, .int .i64 t.head, .int .i64 t.foot, .slice A' t.rows.length c', .int .i64 t.gap] 26)).heap.size = w.heap.size + 1 := by simp
  rw [e1] at m
  rw [hV]; exact m
 have hS := fun (W : World) (h : Below w.heap.size w W) (k : Nat) (hk : k ≤ 1000000) => Zh9 t A c A' c' k W (hc.below h) (by omega) (by omega)
 have hB : Below w.heap.size w V := by rw [hV]; exact Zc (Zc (Zf _) _) _
 have hK : Zh V w.heap.size [.slice A t.cols.length c, .int .i64 t.head, .int .i64 t.foot, .slice A' t.rows.length c', .int .i64 t.gap] := by
  rw [hV]; exact (Zh.new w [.slice A t.cols.length c, .int .i64 t.head, .int .i64 t.foot, .slice A' t.rows.length c', .int .i64 t.gap] 26).keep ((Zc (Zf _) _).block w.heap.size (by simp))
 have hzV : V.heap.size = w.heap.size + 2 := by rw [hV]; exact hz2
 have HB := Za hB
 have HK := Za hK
 have HV := Za hV
 clear m hc hz2 hB hK hV
 have hfc := Zmv
 go_enter Tryz.func165, Tryz.ntmps165
 go_wp2_with fail
 rw [← HV.out]
 go_loopg [9, 10, 15] n (fun gg s9 s10 s15 wr => ∃ j : Nat, j ≤ n ∧ n - j ≤ gg ∧ s15 = .int .i64 j ∧ s9 = .bool ((List.range j).any fun k => decide (Zw t k = q)) ∧ Aside (Zn wr w.heap.size (.slice (some ⟨w.heap.size + 1, 0, none⟩) n n) (Jm (fun k x => if Zw t k = q then 1 else x) j (List.replicate n 0))) ∧ Aside (Below w.heap.size w wr) ∧ Aside (Zh wr w.heap.size [.slice A t.cols.length c, .int .i64 t.head, .int .i64 t.foot, .slice A' t.rows.length c', .int .i64 t.gap]))
 case atStart => exact ⟨0, Nat.zero_le _, by omega, rfl, rfl, (show Aside _ from by rw [Zcr]; exact M.out), HB.out, HK.out⟩
 obtain ⟨j, hj, hgg, rfl, rfl, HM, HBW, HKW⟩ := hrel
 by_cases hlt : j < n
 ·
  have hltz : (j : Int) < (n : Int) := by omega
  have y0 := HKW.out.1 0 _ rfl
  have y1 := HKW.out.1 1 _ rfl
  have y2 := HKW.out.1 2 _ rfl
  have y3 := HKW.out.1 3 _ rfl
  have y4 := HKW.out.1 4 _ rfl
  have hSj := hS wr HBW.out j (by omega)
  have hr1 : (List.range (j + 1)).any (fun k => decide (Zw t k = q)) = ((List.range j).any (fun k => decide (Zw t k = q)) || decide (Zw t j = q)) := by rw [List.range_succ, List.any_append]; simp
  have HR1 := Za hr1
  have hml : j < (Jm (fun k x => if Zw t k = q then 1 else x) j (List.replicate n (0 : Int))).length := by rw [Zal]; simp; omega
  obtain ⟨k0, hk0⟩ : ∃ k0, (Yc t j).k = k0 := ⟨_, rfl⟩
  have hk1 : Zw t j = k0 := hk0
  rw [hk0] at hSj
  have HK1 := Za hk1
  clear hk0 hk1 hr1
  go_wp2_with fail
  refine hSj.mono ?_
  rintro e w5 ⟨rfl, hb5⟩
  have hwl : w.heap.size + 1 < wr.heap.size := by
   obtain ⟨g', c2, e, _, h2, _⟩ := HM.out.at (by omega)
   injection e with e; injection e with e; injection e with e; omega
  have HB5 := Za (step HBW.out hb5)
  have HM5 := Za (HM.out.below hb5)
  have HK5 := Za (HKW.out.keep (hb5.block w.heap.size (by omega)))
  clear y0 y1 y2 y3 y4 hSj hb5
  by_cases h1 : k0 = q
  ·
   have h1z : (k0 == q) = true := by simp [h1]
   have cm := HM5.out.cell (j := j) hml
   have fm := HM5.out.frozen j
   have hst := HM5.out.store j (1 : Int)
   have hfs := Zdj (fun k x => if Zw t k = q then (1 : Int) else x) j (List.replicate n 0) (by simp; omega)
   simp only [HK1.out, if_pos h1] at hfs
   rw [hfs] at hst
   have HST := Za hst
   have hkb := HK5.out.keep (Zak w5 ⟨w.heap.size + 1, j, none⟩ (.int .i64 1) w.heap.size (by show w.heap.size ≠ w.heap.size + 1; omega))
   have HKB := Za hkb
   rw [Zer] at cm
   clear hst hfs hml hkb
   go_wp2_with fail
   go_roundg (n - (j + 1))
   case measure => omega
   case rel => exact ⟨j + 1, by omega, by omega, by go_num, by rw [HR1.out, HK1.out]; simp [h1], HST.out, (show Aside _ from Yi HB5.out (by show w.heap.size ≤ w.heap.size + 1; omega) _), HKB.out⟩
  have h1z : (k0 == q) = false := by simp [h1]
  have HSK := Za (Ze1 (fun k x => if Zw t k = q then (1 : Int) else x) j (List.replicate n 0) (by simp only [HK1.out, if_neg h1]))
  clear hml
  go_wp2_with fail
  go_roundg (n - (j + 1))
  case measure => omega
  case rel => exact ⟨j + 1, by omega, by omega, by go_num, by rw [HR1.out, HK1.out]; simp [h1], (show Aside _ from by rw [HSK.out]; exact HM5.out), HB5.out, HK5.out⟩
 have hltz : ¬ (j : Int) < (n : Int) := by omega
 have hjn : j = n := by omega
 have hO := HM.out
 rw [show Jm (fun k x => if Zw t k = q then (1 : Int) else x) j (List.replicate n 0) = Zu (Zw t) q n by
  rw [← Zop, ← Zdp, List.length_replicate, hjn]] at hO
 have hA := Zu3 (Zw t) q n
 have HA := Za hA
 rw [hjn, HA.out]
 have HO := Za hO
 clear hO hA hjn
 go_wp2_with fail
 exact bodyPost_ret (v := .tuple #[.slice (some ⟨w.heap.size + 1, 0, none⟩) n n, .bool (decide (0 < Zq (Zu (Zw t) q n)))]) (by simp [results, Tryz.results165, go_sem, *]) rfl ⟨_, rfl, HO.out, HBW.out⟩
theorem Zht (total : Int) (base : Nat) (A : Option Addr) (c : Nat) (ws : List Int) (w : World) (hI : Zn w base (.slice A ws.length c) ws) (h : Zoi total ws) (hn : 0 < ws.length) :
 Calls Tryz.prog 161 #[.int .i64 total, .slice A ws.length c] w fun e w' => ∃ v, e = .returned (.tuple #[v, .int .i64 (Jr total ws).2]) ∧ Zn w' w.heap.size v (Jr total ws).1 ∧ Below w.heap.size w w' := by
 have hOK := Zj7 total A c ws w (Qq hI) h
 have hSUM := fun (W : World) (hb : Below w.heap.size w W) => Zbm A c ws W ((Qq hI).below hb) (fun x hx => by have := h.2.1 x hx; omega) (by have := h.2.2; omega)
 have hSH := fun (W : World) (hb : Below w.heap.size w W) => Zcw total A c ws W ((Qq hI).below hb) h hn
 have hCL := fun (W : World) (hb : Below w.heap.size w W) => Zrh (.slice A ws.length c) ws W (Zkz.below (Zkz.of hI) hb) (by have := h.2.2; omega)
 have ht := h.1
 obtain ⟨s1, s2⟩ := Zey 100000 ws h.2.1
 have hl := h.2.2
 obtain ⟨s, hs⟩ : ∃ s, Zq ws = s := ⟨_, rfl⟩
 rw [hs] at hSUM s1 s2
 have t1 := IntWalk.i64_in (total - s) (by omega)
 by_cases hle : s ≤ total
 ·
  have hup : Jr total ws = (ws, total - s) := by unfold Jr; rw [hs, if_pos hle]
  rw [hup]
  have hz : (total - s) ≥ 0 := by omega
  have hz2 : 0 ≤ total - s := by omega
  clear hI h hs hup hSH
  go_enter Tryz.func161, Tryz.ntmps161
  go_wp2_with fail
  refine hOK.mono ?_
  rintro e w1 ⟨rfl, hb1⟩
  have hS1 := hSUM w1 hb1
  have HC1 := Za (hCL w1 hb1)
  have HB1 := Za hb1
  clear hOK hSUM hCL hb1
  go_wp2_with fail
  refine hS1.mono ?_
  rintro e w2 ⟨rfl, hw2⟩
  obtain rfl := hw2.symm
  clear hS1
  have hC1 := HC1.out
  go_wp2_with fail
  refine hC1.mono ?_
  rintro e w3 ⟨v, rfl, hO, hb3⟩
  have HO := Za hO
  have HB3 := Za (step HB1.out hb3)
  have hs2 := HB1.out.size
  clear hC1 hO hb3
  go_wp2_with fail
  exact bodyPost_ret (v := .tuple #[v, .int .i64 (total - s)]) (by simp [results, Tryz.results161, go_sem, *]) rfl ⟨_, rfl, HO.out.base hs2, HB3.out⟩
 have hup : Jr total ws = (Ye total ws, 0) := by unfold Jr; rw [hs, if_neg hle]
 rw [hup]
 have hz : ¬ (total - s) ≥ 0 := by omega
 have hz2 : ¬ 0 ≤ total - s := by omega
 clear hI h hs hup hCL
 go_enter Tryz.func161, Tryz.ntmps161
 go_wp2_with fail
 refine hOK.mono ?_
 rintro e w1 ⟨rfl, hb1⟩
 have hS1 := hSUM w1 hb1
 have HC1 := Za (hSH w1 hb1)
 have HB1 := Za hb1
 clear hOK hSUM hSH hb1
 go_wp2_with fail
 refine hS1.mono ?_
 rintro e w2 ⟨rfl, hw2⟩
 obtain rfl := hw2.symm
 clear hS1
 have hC1 := HC1.out
 go_wp2_with fail
 refine hC1.mono ?_
 rintro e w3 ⟨v, rfl, hO, hb3⟩
 have HO := Za hO
 have HB3 := Za (step HB1.out hb3)
 have hs2 := HB1.out.size
 clear hC1 hO hb3
 go_wp2_with fail
 exact bodyPost_ret (v := .tuple #[v, .int .i64 0]) (by simp [results, Tryz.results161, go_sem, *]) rfl ⟨_, rfl, HO.out.base hs2, HB3.out⟩
theorem Zhn {t : Tbl} (h : Qn t = true) (i : Int) : 0 ≤ (Yc t i).n ∧ (Yc t i).n ≤ 100 := by
 unfold Yc
 split
 ·
  rename_i hi
  have hlt : i.toNat < t.cols.length := by omega
  rw [List.getD_eq_getElem?_getD, List.getElem?_eq_getElem hlt]
  have hc := (Zx h).2.2.2.2.2.1 _ (List.getElem_mem hlt)
  simp only [Option.getD_some]
  unfold Zck at hc
  split at hc
  · have : t.cols[i.toNat].n = 0 := by simpa using hc
    omega
  split at hc
  · simp [inB] at hc; omega
  split at hc
  · simp [inB] at hc; omega
  cases hc
 exact ⟨Int.le_refl _, by decide⟩
def Jy (t : Tbl) (q : Int) (f : Nat → Int) (X : List Int) : List Int := X.mapIdx fun k has => if Zw t k = q then max (f k - has) 0 else 0
theorem Zpf (t : Tbl) (q : Int) (f : Nat → Int) (X : List Int) (n : Nat) (h : X.length = n) : (List.replicate n (0 : Int)).mapIdx (fun k x => if Zw t k = q then max (f k - X.getD k 0) 0 else x) = Jy t q f X := by
 unfold Jy
 apply List.ext_getElem (by simp [h])
 intro i h1 h2
 have hi : i < X.length := by simpa using h2
 simp [List.getD_eq_getElem?_getD, hi]
theorem Zkp (t : Tbl) (A : Option Addr) (c : Nat) (A' : Option Addr) (c' : Nat) (q : Int) (F : Nat) (caps : Array Value) (f : Nat → Int) (Bc Bt g cc n base : Nat) (X : List Int) (w : World) (hc : Rd Zbz w A t.cols)
 (hB : w.cell? ⟨Bc, 0, none⟩ = some (.slice (some ⟨g, 0, none⟩) n cc)) (hT : Zh w Bt [.slice A t.cols.length c, .int .i64 t.head, .int .i64 t.foot, .slice A' t.rows.length c', .int .i64 t.gap]) (hX : Zn w base (.slice (some ⟨g, 0, none⟩) n cc) X) (hl : X.length = n) (hn : 1 ≤ n ∧ n ≤ 1000) (hx : ∀ x ∈ X, 0 ≤ x ∧ x ≤ 1000000)
 (heg : ∀ args w, (callFunc F args).run Tryz.prog w = .ok (.enter F args) w)
 (hF : ∀ (W : World) (k : Nat), Below w.heap.size w W → k < n → Calls Tryz.prog F (#[.int .i64 k] ++ caps) W fun e w' => e = .returned (.int .i64 (f k)) ∧ Below W.heap.size W w') (hf : ∀ k, k < n → 0 ≤ f k ∧ f k ≤ 1000000) :
 Calls Tryz.prog 159 #[.int .i64 q, .func (.func F) #[] caps, .pointer (some ⟨Bc, 0, none⟩), .pointer (some ⟨Bt, 0, none⟩)] w fun e w' => ∃ v, e = .returned v ∧ Zn w' w.heap.size v (Jy t q f X) ∧ Below w.heap.size w w' := by
 have hmk := Zde (P := Tryz.prog) (z := .int .i64 0) (k := 1) (bytes := 8) Yl Yu n (by omega) (by omega)
 have m := Zb5 w w.heap.size n (Nat.le_refl _) (by omega)
 rw [Nat.mul_one] at m
 obtain ⟨V, hV⟩ : ∃ V, V = w.alloc (.cells (madeCells #[Value.int .i64 0] n) 3) := ⟨_, rfl⟩
 have M : Hid (Zn V w.heap.size (.slice (some ⟨w.heap.size, 0, none⟩) n n) (List.replicate n 0)) := by rw [hV]; exact m
 have hb1 : Below w.heap.size w V := by rw [hV]; exact Zc (Zf _) _
 have hS := fun (W : World) (h : Below w.heap.size w W) (k : Nat) (hk : k ≤ 1000000) => Zh9 t A c A' c' k W (hc.below h) (by omega) (by omega)
 have hcl : Bc < w.heap.size := World.block_lt_of_cell? w _ hB
 have htl : Bt < w.heap.size := World.block_lt_of_cell? w _ (hT.1 0 _ rfl)
 have hB1 : V.cell? ⟨Bc, 0, none⟩ = some (.slice (some ⟨g, 0, none⟩) n cc) := Zg hb1 hB
 have hgl : g < w.heap.size := by
  obtain ⟨g', c2, e, _, h2, _⟩ := hX.at (by rw [hl]; omega)
  injection e with e; injection e with e; injection e with e; omega
 have HT := Za hT
 have HX := Za hX
 have HL := Za hl
 have HBX := Za hx
 have HF := Za hF
 have HFB := Za hf
 have HV := Za hV
 have HB1 := Za hb1
 clear hc hT hX hl hx hF hf m hV hb1
 have hfc := Zmv
 have hmax := Zdc
 go_enter Tryz.func159, Tryz.ntmps159
 go_wp2_with fail
 rw [← HV.out]
 go_wp2_with fail
 go_loopg [8, 9, 15] n (fun gg s8 s9 s15 wr => ∃ j : Nat, j ≤ n ∧ n - j ≤ gg ∧ s15 = .int .i64 j ∧ Aside (Zn wr w.heap.size (.slice (some ⟨w.heap.size, 0, none⟩) n n) (Jm (fun k x => if Zw t k = q then max (f k - X.getD k 0) 0 else x) j (List.replicate n 0))) ∧ Aside (Below w.heap.size w wr))
 case atStart => exact ⟨0, Nat.zero_le _, by omega, rfl, (show Aside _ from by rw [Zcr]; exact M.out), HB1.out⟩
 obtain ⟨j, hj, hgg, rfl, HM, HBW⟩ := hrel
 by_cases hlt : j < n
 ·
  have hltz : (j : Int) < (n : Int) := by omega
  have hKW := HT.out.keep (HBW.out.block Bt htl)
  have y0 := hKW.1 0 _ rfl
  have y1 := hKW.1 1 _ rfl
  have y2 := hKW.1 2 _ rfl
  have y3 := hKW.1 3 _ rfl
  have y4 := hKW.1 4 _ rfl
  have cx := Zg HBW.out (HX.out.cell (j := j) (by rw [HL.out]; exact hlt))
  have hxb := Yn HBX.out j (by rw [HL.out]; exact hlt)
  have hfb := HFB.out j hlt
  have hSj := hS wr HBW.out j (by omega)
  have hml : j < (Jm (fun k x => if Zw t k = q then max (f k - X.getD k 0) 0 else x) j (List.replicate n (0 : Int))).length := by rw [Zal]; simp; omega
  obtain ⟨k0, hk0⟩ : ∃ k0, (Yc t j).k = k0 := ⟨_, rfl⟩
  have hk1 : Zw t j = k0 := hk0
  rw [hk0] at hSj
  have HK1 := Za hk1
  have hfs := Zdj (fun k x => if Zw t k = q then max (f k - X.getD k 0) (0 : Int) else x) j (List.replicate n 0) (by simp; omega)
  have hfk := Ze1 (fun k x => if Zw t k = q then max (f k - X.getD k 0) (0 : Int) else x) j (List.replicate n 0)
  simp only [hk1] at hfs hfk
  obtain ⟨x, hxd⟩ : ∃ x, X.getD j 0 = x := ⟨_, rfl⟩
  rw [hxd] at cx hxb hfs
  have HFS := Za hfs
  have HFK := Za hfk
  clear hk0 hk1 hKW hxd hfs hfk
  go_wp2_with fail
  refine hSj.mono ?_
  rintro e w5 ⟨rfl, hb5⟩
  have hwl : w.heap.size < wr.heap.size := by
   obtain ⟨g', c2, e, _, h2, _⟩ := HM.out.at (by omega)
   injection e with e; injection e with e; injection e with e; omega
  have HB5 := Za (step HBW.out hb5)
  have HM5 := Za (HM.out.below hb5)
  clear y0 y1 y2 y3 y4 hSj hb5 cx
  by_cases h1 : k0 = q
  ·
   have h1z : (k0 == q) = true := by simp [h1]
   have hcall := HF.out w5 j HB5.out hlt
   obtain ⟨y, hy⟩ : ∃ y, f j = y := ⟨_, rfl⟩
   rw [hy] at hcall hfb
   have HYY := Za hy
   clear hy
   go_wp2_with fail
   refine hcall.mono ?_
   rintro e w6 ⟨rfl, hb6⟩
   have HM6 := Za (HM5.out.below hb6)
   have HB6 := Za (step HB5.out hb6)
   have cm := HM6.out.cell (j := j) hml
   have fm := HM6.out.frozen j
   have hst := HM6.out.store j (max (y - x) 0)
   have hfs := HFS.out
   rw [if_pos h1, HYY.out] at hfs
   rw [hfs] at hst
   have HST := Za hst
   rw [Zer] at cm
   have t1 := IntWalk.i64_in (y - x) (by omega)
   clear hst hfs hml hcall hb6
   go_wp2_with fail
   go_roundg (n - (j + 1))
   case measure => omega
   case rel => exact ⟨j + 1, by omega, by omega, by go_num, HST.out, (show Aside _ from Yi HB6.out (by show w.heap.size ≤ w.heap.size; omega) _)⟩
  have h1z : (k0 == q) = false := by simp [h1]
  have HSK := Za (HFK.out (by rw [if_neg h1]))
  clear hml
  go_wp2_with fail
  go_roundg (n - (j + 1))
  case measure => omega
  case rel => exact ⟨j + 1, by omega, by omega, by go_num, (show Aside _ from by rw [HSK.out]; exact HM5.out), HB5.out⟩
 have hltz : ¬ (j : Int) < (n : Int) := by omega
 have hjn : j = n := by omega
 have hO := HM.out
 rw [show Jm (fun k x => if Zw t k = q then max (f k - X.getD k 0) (0 : Int) else x) j (List.replicate n 0) = Jy t q f X by
  rw [← Zpf t q f X n HL.out, ← Zdp, List.length_replicate, hjn]] at hO
 have HO := Za hO
 clear hO hjn
 go_wp2_with fail
 go_ret
 exact ⟨_, rfl, HO.out, HBW.out⟩
theorem Zrk (t : Tbl) (A : Option Addr) (c : Nat) (A' : Option Addr) (c' : Nat) (k Bw Bt : Nat) (width : Int) (w : World) (hok : Qn t = true) (hc : Rd Zbz w A t.cols) (hW : w.cell? ⟨Bw, 0, none⟩ = some (.int .i64 width)) (hT : Zh w Bt [.slice A t.cols.length c, .int .i64 t.head, .int .i64 t.foot, .slice A' t.rows.length c', .int .i64 t.gap]) (hk : k ≤ 1000) (hw : 0 ≤ width ∧ width ≤ 300) :
 Calls Tryz.prog 162 #[.int .i64 k, .pointer (some ⟨Bw, 0, none⟩), .pointer (some ⟨Bt, 0, none⟩)] w fun e w' => e = .returned (.int .i64 (width * Zbd t k / 100)) ∧ Below w.heap.size w w' := by
 have hS := fun (W : World) (h : Below w.heap.size w W) => Zh9 t A c A' c' k W (hc.below h) (by omega) (by omega)
 have hnm := Zhn hok (k : Int)
 unfold Zbd
 have htl : Bt < w.heap.size := World.block_lt_of_cell? w _ (hT.1 0 _ rfl)
 have hwl : Bw < w.heap.size := World.block_lt_of_cell? w _ hW
 have y0 := hT.1 0 _ rfl
 have y1 := hT.1 1 _ rfl
 have y2 := hT.1 2 _ rfl
 have y3 := hT.1 3 _ rfl
 have y4 := hT.1 4 _ rfl
 obtain ⟨sd, hsd⟩ : ∃ sd, Yc t (k : Int) = sd := ⟨_, rfl⟩
 rw [hsd] at hS hnm ⊢
 obtain ⟨P, hP⟩ : ∃ P, width * sd.n = P := ⟨_, rfl⟩
 have hP0 : 0 ≤ P ∧ P ≤ 30000 := by
  rw [← hP]
  refine ⟨Int.mul_nonneg hw.1 hnm.1, ?_⟩
  have h1 : width * sd.n ≤ 300 * sd.n := Int.mul_le_mul_of_nonneg_right hw.2 hnm.1
  omega
 have t1 : IntKind.i64.wrap (width * sd.n) = P := by rw [hP, IntKind.wrap_i64]; omega
 have t2 : IntKind.i64.wrap (P.tdiv 100) = P / 100 := by rw [Int.tdiv_eq_ediv_of_nonneg hP0.1, IntKind.wrap_i64]; omega
 rw [hP]
 clear hc hT hsd hP hnm hok
 have hfc := Zqm
 go_enter Tryz.func162, Tryz.ntmps162
 go_upto_region 1 with fail
 go_region_with (go_at_call 160; refine (hS _ ?_).mono ?_; (first | exact Zf _ | exact Zt (Zf _)); rintro e w2 ⟨rfl, hb2⟩; have x1 : w2.cell? ⟨Bw, 0, none⟩ = some (.int .i64 width) := Zg hb2 (by simp [*]))
 all_goals
  go_wp2_with fail
  go_ret
  refine ⟨rfl, ?_⟩
  (repeat' (with_reducible first | exact Zf _ | refine Zt ?_ | refine step ?_ (by with_reducible assumption)))
theorem Zr4 (k Bw g3 c3 n base : Nat) (Y : List Int) (w : World) (hW : w.cell? ⟨Bw, 0, none⟩ = some (.slice (some ⟨g3, 0, none⟩) n c3)) (hY : Zn w base (.slice (some ⟨g3, 0, none⟩) n c3) Y) (hl : Y.length = n) (hk : k < n) (hn : n ≤ 1000) :
 Calls Tryz.prog 164 #[.int .i64 k, .pointer (some ⟨Bw, 0, none⟩)] w fun e w' => e = .returned (.int .i64 (Y.getD k 0)) ∧ Below w.heap.size w w' := by
 have cy := hY.cell (j := k) (by rw [hl]; exact hk)
 generalize Y.getD k 0 = y at cy ⊢
 have hkz : (k : Int) < (n : Int) := by omega
 have h0 : (0 : Int) ≤ (k : Int) := by omega
 clear hY hl
 go_enter Tryz.func164, Tryz.ntmps164
 go_wp2_with fail
 go_ret
 exact ⟨rfl, Zf _⟩
end Go.Proofs.YtgdmcmicfoamlaaGreatDoor
