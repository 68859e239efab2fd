import Derived.Test.YtpfagdmmhgcmnaaGreatDoorMixTx
import Derived.Test.YtpfagdmmhgcmnaaGreatDoorMixTq
import Derived.Deep.RegionHeld3
import Derived.Deep.DeepCutAuto
import Derived.Outline
set_option linter.unusedVariables false
set_option linter.unusedSimpArgs false
namespace Go.Proofs.YtpfagdmmhgcmnaaGreatDoor
open Go.RowKit
theorem said_num {t : Tbl} (h : tblOk t = true) (i : Int) : 0 ≤ (saidOf t i).n ∧ (saidOf t i).n ≤ 100 := by
 unfold saidOf
 split
 ·
  rename_i hi
  have hlt : i.toNat < t.cols.length := by omega
  rw [List.getD_eq_getElem?_getD, List.getElem?_eq_getElem hlt]
  have hc := (tblOk_parts h).2.2.2.2.2.1 _ (List.getElem_mem hlt)
  simp only [Option.getD_some]
  unfold colOk at hc
  split at hc
  ·
   have : t.cols[i.toNat].n = 0 := by simpa using hc
   omega
  ·
   split at hc
   ·
    simp [inB] at hc; omega
   ·
    split at hc
    ·
     simp [inB] at hc; omega
    ·
     cases hc
 ·
  exact ⟨Int.le_refl _, by decide⟩
def wantsF (t : Tbl) (q : Int) (f : Nat → Int) (X : List Int) : List Int := X.mapIdx fun k has => if kindT t k = q then max (f k - has) 0 else 0
theorem wants_fill (t : Tbl) (q : Int) (f : Nat → Int) (X : List Int) (n : Nat) (h : X.length = n) : (List.replicate n (0 : Int)).mapIdx (fun k x => if kindT t k = q then max (f k - X.getD k 0) 0 else x) = wantsF t q f X := by
 unfold wantsF
 apply List.ext_getElem (by simp [h])
 intro i h1 h2
 have hi : i < X.length := by simpa using h2
 simp [List.getD_eq_getElem?_getD, hi]
set_option linter.unusedSimpArgs false in
set_option maxRecDepth 100000 in
set_option maxHeartbeats 8000000 in
theorem cols_wants (t : Tbl) (A : Option Addr) (c : Nat) (A' : Option Addr) (c' : Nat) (q : Int) (F : Nat) (caps : Array Value) (f : Nat → Int) (Bc Bt g cc n base : Nat) (X : List Int) (w : World) (hc : Rd colR w A t.cols)
  (hB : w.cell? ⟨Bc, 0, none⟩ = some (.slice (some ⟨g, 0, none⟩) n cc)) (hT : BlockAt w Bt [.slice A t.cols.length c, .int .i64 t.head, .int .i64 t.foot, .slice A' t.rows.length c', .int .i64 t.gap]) (hX : IOwn w base (.slice (some ⟨g, 0, none⟩) n cc) X) (hl : X.length = n) (hn : 1 ≤ n ∧ n ≤ 1000) (hx : ∀ x ∈ X, 0 ≤ x ∧ x ≤ 1000000)
  (heg : ∀ args w, (callFunc F args).run Tryz.prog w = .ok (.enter F args) w)
  (hF : ∀ (W : World) (k : Nat), Below w.heap.size w W → k < n → Calls Tryz.prog F (#[.int .i64 k] ++ caps) W fun e w' => e = .returned (.int .i64 (f k)) ∧ Below W.heap.size W w') (hf : ∀ k, k < n → 0 ≤ f k ∧ f k ≤ 1000000) :
  Calls Tryz.prog 123 #[.int .i64 q, .func (.func F) #[] caps, .pointer (some ⟨Bc, 0, none⟩), .pointer (some ⟨Bt, 0, none⟩)] w fun e w' => ∃ v, e = .returned v ∧ IOwn w' w.heap.size v (wantsF t q f X) ∧ Below w.heap.size w w' := by
 have hmk := make_eq (P := Tryz.prog) (z := .int .i64 0) (k := 1) (bytes := 8) und_ints info_ints n (by omega) (by omega)
 have m := made_ints w w.heap.size n (Nat.le_refl _) (by omega)
 rw [Nat.mul_one] at m
 obtain ⟨V, hV⟩ : ∃ V, V = w.alloc (.cells (madeCells #[Value.int .i64 0] n) 3) := ⟨_, rfl⟩
 have M : Hid (IOwn V w.heap.size (.slice (some ⟨w.heap.size, 0, none⟩) n n) (List.replicate n 0)) := by rw [hV]; exact m
 have hb1 : Below w.heap.size w V := by rw [hV]; exact balloc (brefl _) _
 have hS := fun (W : World) (h : Below w.heap.size w W) (k : Nat) (hk : k ≤ 1000000) => impl_said t A c A' c' k W (hc.below h) (by omega) (by omega)
 have hcl : Bc < w.heap.size := World.block_lt_of_cell? w _ hB
 have htl : Bt < w.heap.size := World.block_lt_of_cell? w _ (hT.1 0 _ rfl)
 have hB1 : V.cell? ⟨Bc, 0, none⟩ = some (.slice (some ⟨g, 0, none⟩) n cc) := keepW hb1 hB
 have hgl : g < w.heap.size := by
  obtain ⟨g', c2, e, _, h2, _⟩ := hX.at (by rw [hl]; omega)
  injection e with e; injection e with e; injection e with e; omega
 have HT := hide hT
 have HX := hide hX
 have HL := hide hl
 have HBX := hide hx
 have HF := hide hF
 have HFB := hide hf
 have HV := hide hV
 have HB1 := hide hb1
 clear hc hT hX hl hx hF hf m hV hb1
 have hfc := fieldC
 have hmax := max_int
 go_enter Tryz.func123, Tryz.ntmps123
 go_wp2_with fail
 rw [← HV.out]
 go_wp2_with fail
 go_loopg [8, 9, 15] n (fun gg s8 s9 s15 wr => ∃ j : Nat, j ≤ n ∧ n - j ≤ gg ∧ s15 = .int .i64 j ∧ Aside (IOwn wr w.heap.size (.slice (some ⟨w.heap.size, 0, none⟩) n n) (fillM (fun k x => if kindT t k = q then max (f k - X.getD k 0) 0 else x) j (List.replicate n 0))) ∧ Aside (Below w.heap.size w wr))
 case atStart => exact ⟨0, Nat.zero_le _, by omega, rfl, (show Aside _ from by rw [fillM_zero]; exact M.out), HB1.out⟩
 case round =>
  obtain ⟨j, hj, hgg, rfl, HM, HBW⟩ := hrel
  by_cases hlt : j < n
  ·
   have hltz : (j : Int) < (n : Int) := by omega
   have hKW := HT.out.keep (HBW.out.block Bt htl)
   have y0 := hKW.1 0 _ rfl
   have y1 := hKW.1 1 _ rfl
   have y2 := hKW.1 2 _ rfl
   have y3 := hKW.1 3 _ rfl
   have y4 := hKW.1 4 _ rfl
   have cx := keepW HBW.out (HX.out.cell (j := j) (by rw [HL.out]; exact hlt))
   have hxb := int_at HBX.out j (by rw [HL.out]; exact hlt)
   have hfb := HFB.out j hlt
   have hSj := hS wr HBW.out j (by omega)
   have hml : j < (fillM (fun k x => if kindT t k = q then max (f k - X.getD k 0) 0 else x) j (List.replicate n (0 : Int))).length := by rw [fillM_length]; simp; omega
   obtain ⟨k0, hk0⟩ : ∃ k0, (saidOf t j).k = k0 := ⟨_, rfl⟩
   have hk1 : kindT t j = k0 := hk0
   rw [hk0] at hSj
   have HK1 := hide hk1
   have hfs := fillM_set (fun k x => if kindT t k = q then max (f k - X.getD k 0) (0 : Int) else x) j (List.replicate n 0) (by simp; omega)
   have hfk := fillM_skip (fun k x => if kindT t k = q then max (f k - X.getD k 0) (0 : Int) else x) j (List.replicate n 0)
   simp only [hk1] at hfs hfk
   obtain ⟨x, hxd⟩ : ∃ x, X.getD j 0 = x := ⟨_, rfl⟩
   rw [hxd] at cx hxb hfs
   have HFS := hide hfs
   have HFK := hide hfk
   clear hk0 hk1 hKW hxd hfs hfk
   go_wp2_with fail
   refine hSj.mono ?_
   rintro e w5 ⟨rfl, hb5⟩
   have hwl : w.heap.size < wr.heap.size := by
    obtain ⟨g', c2, e, _, h2, _⟩ := HM.out.at (by omega)
    injection e with e; injection e with e; injection e with e; omega
   have HB5 := hide (step HBW.out hb5)
   have HM5 := hide (HM.out.below hb5)
   clear y0 y1 y2 y3 y4 hSj hb5 cx
   by_cases h1 : k0 = q
   ·
    have h1z : (k0 == q) = true := by simp [h1]
    have hcall := HF.out w5 j HB5.out hlt
    obtain ⟨y, hy⟩ : ∃ y, f j = y := ⟨_, rfl⟩
    rw [hy] at hcall hfb
    have HYY := hide hy
    clear hy
    go_wp2_with fail
    refine hcall.mono ?_
    rintro e w6 ⟨rfl, hb6⟩
    have HM6 := hide (HM5.out.below hb6)
    have HB6 := hide (step HB5.out hb6)
    have cm := HM6.out.cell (j := j) hml
    have fm := HM6.out.frozen j
    have hst := HM6.out.store j (max (y - x) 0)
    have hfs := HFS.out
    rw [if_pos h1, HYY.out] at hfs
    rw [hfs] at hst
    have HST := hide hst
    rw [fillM_at] at cm
    have t1 : IntKind.i64.wrap (y - x) = y - x := by rw [IntKind.wrap_i64]; omega
    clear hst hfs hml hcall hb6
    go_wp2_with fail
    go_roundg (n - (j + 1))
    case measure => omega
    case rel => exact ⟨j + 1, by omega, by omega, by go_num, HST.out, (show Aside _ from bset HB6.out (by show w.heap.size ≤ w.heap.size; omega) _)⟩
   ·
    have h1z : (k0 == q) = false := by simp [h1]
    have HSK := hide (HFK.out (by rw [if_neg h1]))
    clear hml
    go_wp2_with fail
    go_roundg (n - (j + 1))
    case measure => omega
    case rel => exact ⟨j + 1, by omega, by omega, by go_num, (show Aside _ from by rw [HSK.out]; exact HM5.out), HB5.out⟩
  ·
   have hltz : ¬ (j : Int) < (n : Int) := by omega
   have hjn : j = n := by omega
   have hO := HM.out
   rw [show fillM (fun k x => if kindT t k = q then max (f k - X.getD k 0) (0 : Int) else x) j (List.replicate n 0) = wantsF t q f X by
    rw [← wants_fill t q f X n HL.out, ← fillM_full, List.length_replicate, hjn]] at hO
   have HO := hide hO
   clear hO hjn
   go_wp2_with fail
   go_ret
   exact ⟨_, rfl, HO.out, HBW.out⟩
set_option maxRecDepth 100000 in
set_option maxHeartbeats 4000000 in
theorem cols_part (t : Tbl) (A : Option Addr) (c : Nat) (A' : Option Addr) (c' : Nat) (k Bw Bt : Nat) (width : Int) (w : World) (hok : tblOk t = true) (hc : Rd colR w A t.cols) (hW : w.cell? ⟨Bw, 0, none⟩ = some (.int .i64 width)) (hT : BlockAt w Bt [.slice A t.cols.length c, .int .i64 t.head, .int .i64 t.foot, .slice A' t.rows.length c', .int .i64 t.gap]) (hk : k ≤ 1000) (hw : 0 ≤ width ∧ width ≤ 300) :
  Calls Tryz.prog 125 #[.int .i64 k, .pointer (some ⟨Bw, 0, none⟩), .pointer (some ⟨Bt, 0, none⟩)] w fun e w' => e = .returned (.int .i64 (width * numT t k / 100)) ∧ Below w.heap.size w w' := by
 have hS := fun (W : World) (h : Below w.heap.size w W) => impl_said t A c A' c' k W (hc.below h) (by omega) (by omega)
 have hnm := said_num hok (k : Int)
 unfold numT
 have htl : Bt < w.heap.size := World.block_lt_of_cell? w _ (hT.1 0 _ rfl)
 have hwl : Bw < w.heap.size := World.block_lt_of_cell? w _ hW
 have y0 := hT.1 0 _ rfl
 have y1 := hT.1 1 _ rfl
 have y2 := hT.1 2 _ rfl
 have y3 := hT.1 3 _ rfl
 have y4 := hT.1 4 _ rfl
 obtain ⟨sd, hsd⟩ : ∃ sd, saidOf t (k : Int) = sd := ⟨_, rfl⟩
 rw [hsd] at hS hnm ⊢
 obtain ⟨P, hP⟩ : ∃ P, width * sd.n = P := ⟨_, rfl⟩
 have hP0 : 0 ≤ P ∧ P ≤ 30000 := by
  rw [← hP]
  refine ⟨Int.mul_nonneg hw.1 hnm.1, ?_⟩
  have h1 : width * sd.n ≤ 300 * sd.n := Int.mul_le_mul_of_nonneg_right hw.2 hnm.1
  omega
 have t1 : IntKind.i64.wrap (width * sd.n) = P := by rw [hP, IntKind.wrap_i64]; omega
 have t2 : IntKind.i64.wrap (P.tdiv 100) = P / 100 := by rw [Int.tdiv_eq_ediv_of_nonneg hP0.1, IntKind.wrap_i64]; omega
 rw [hP]
 clear hc hT hsd hP hnm hok
 have hfc := fieldC1
 go_enter Tryz.func125, Tryz.ntmps125
 go_upto_region 1 with fail
 go_region_with (go_at_call 68; refine (hS _ ?_).mono ?_; (first | exact brefl _ | exact bdrew (brefl _)); rintro e w2 ⟨rfl, hb2⟩; have x1 : w2.cell? ⟨Bw, 0, none⟩ = some (.int .i64 width) := keepW hb2 (by simp [*]))
 all_goals
  go_wp2_with fail
  go_ret
  refine ⟨rfl, ?_⟩
  (repeat' (with_reducible first | exact brefl _ | refine bdrew ?_ | refine step ?_ (by with_reducible assumption)))
set_option maxHeartbeats 2000000 in
theorem cols_wish (k Bw g3 c3 n base : Nat) (Y : List Int) (w : World) (hW : w.cell? ⟨Bw, 0, none⟩ = some (.slice (some ⟨g3, 0, none⟩) n c3)) (hY : IOwn w base (.slice (some ⟨g3, 0, none⟩) n c3) Y) (hl : Y.length = n) (hk : k < n) (hn : n ≤ 1000) :
  Calls Tryz.prog 127 #[.int .i64 k, .pointer (some ⟨Bw, 0, none⟩)] w fun e w' => e = .returned (.int .i64 (Y.getD k 0)) ∧ Below w.heap.size w w' := by
 have cy := hY.cell (j := k) (by rw [hl]; exact hk)
 generalize Y.getD k 0 = y at cy ⊢
 have hkz : (k : Int) < (n : Int) := by omega
 have h0 : (0 : Int) ≤ (k : Int) := by omega
 clear hY hl
 go_enter Tryz.func127, Tryz.ntmps127
 go_wp2_with fail
 go_ret
 exact ⟨rfl, brefl _⟩
end Go.Proofs.YtpfagdmmhgcmnaaGreatDoor

namespace Go.Proofs.YtpfagdmmhgcmnaaGreatDoor
open Go.RowKit
def GoodRows (t : Tbl) (k : Nat) : Prop := ∀ (j : Nat) (hj : j < t.rows.length), t.rows[j].cs.length ≤ (if j = k then 5 else 4) ∧ ∀ x ∈ t.rows[j].cs, x.r ≠ 4
theorem anyBd.good {t : Tbl} (h : anyBd t) : ∃ k, GoodRows t k := by
 obtain ⟨k, hk⟩ := h.cells
 exact ⟨k, fun j hj => ⟨(hk j hj).1, fun x hx => ((hk j hj).2 x hx).2.2.2.2.2.1⟩⟩
def someL (xs : List Int) (a k : Int) : List Int := (xs.drop a.toNat).take k.toNat
theorem someL_length {xs : List Int} {n : Nat} {a k : Int} (h : xs.length = n) (ha : 0 ≤ a) (hk : 0 ≤ k) (hn : a + k ≤ n) : (someL xs a k).length = k.toNat := by
 unfold someL
 simp
 omega
theorem wide_some {xs : List Int} {n : Nat} {a k gap : Int} (h : xs.length = n) (ha : 0 ≤ a) (hk : 1 ≤ k) (hn : a + k ≤ n) : wideG gap (someL xs a k) = winS xs a.toNat k.toNat + gap * (k - 1) := by
 unfold wideG
 rw [someL_length h ha (by omega) hn]
 have : max ((k.toNat : Int) - 1) 0 = k - 1 := by omega
 rw [this]
 rfl
theorem said_fixed {t : Tbl} (h : tblOk t = true) (i : Int) (hk : (saidOf t i).k = 1) : 0 ≤ (saidOf t i).n ∧ (saidOf t i).n ≤ 60 := by
 unfold saidOf at hk ⊢
 split at hk
 ·
  rename_i hi
  rw [if_pos hi]
  have hlt : i.toNat < t.cols.length := by omega
  rw [List.getD_eq_getElem?_getD, List.getElem?_eq_getElem hlt] at hk ⊢
  have hc := (tblOk_parts h).2.2.2.2.2.1 _ (List.getElem_mem hlt)
  simp only [Option.getD_some] at hk ⊢
  unfold colOk at hc
  rw [if_neg (by omega), if_pos hk] at hc
  simpa [inB] using hc
 ·
  exact absurd hk (by decide)
theorem mapIdx_getD (f : Nat → Int → Int) (xs : List Int) (j : Nat) (h : j < xs.length) : (xs.mapIdx f).getD j 0 = f j (xs.getD j 0) := by
 simp [List.getD_eq_getElem?_getD, h]
theorem saidN_in {t : Tbl} (h : tblOk t = true) (j : Nat) (x : Int) (hx : 0 ≤ x ∧ x ≤ 30) : x ≤ saidN t j x ∧ saidN t j x ≤ 60 ∧ ((saidOf t j).k = 1 → (saidOf t j).n ≤ saidN t j x) := by
 unfold saidN
 split
 ·
  rename_i hk
  have := said_fixed h j hk
  exact ⟨Int.le_max_left .., Int.max_le.2 ⟨by omega, this.2⟩, fun _ => Int.le_max_right ..⟩
 ·
  rename_i hk
  exact ⟨Int.le_refl _, by omega, fun h' => absurd h' hk⟩
theorem colLeast_ok {t : Tbl} (h : tblOk t = true) {k : Nat} (hy : GoodRows t k) : ∃ n : Nat, (gridL 400 t).2 = n ∧ (1 ≤ n ∧ n ≤ 90) ∧ (colLeastL 400 t).length = n ∧ (∀ x ∈ colLeastL 400 t, 0 ≤ x ∧ x ≤ 60) ∧
  (∀ c ∈ (gridL 400 t).1, CellAt t c ∧ (0 ≤ c.col ∧ 1 ≤ c.cols ∧ c.cols ≤ 4 ∧ c.col + c.cols ≤ n) ∧ leastT (textOf t c) ≤ wideG t.gap (someL (colLeastL 400 t) c.col c.cols)) ∧
  ∀ j < n, (saidOf t j).k = 1 → (saidOf t j).n ≤ (colLeastL 400 t).getD j 0 := by
 obtain ⟨n, hn, hn1, hcell, hcl⟩ := grid_need h hy 400 leastT_in
 have hg := (tblOk_parts h).2.2.1
 obtain ⟨⟨m1, m2⟩, m3⟩ := made_spec hg.1 (fun x hx => (hcell x hx).1)
 have hL : colLeastL 400 t = (made t.gap (fun c => leastT (textOf t c)) (gridL 400 t).1 n).mapIdx (saidN t) := by
  unfold colLeastL; rw [if_pos h, hn]; rfl
 generalize made t.gap (fun c => leastT (textOf t c)) (gridL 400 t).1 n = X at m1 m2 m3 hL
 have hlen : (colLeastL 400 t).length = n := by rw [hL, List.length_mapIdx, m1]
 have hat : ∀ j < n, X.getD j 0 ∈ X := fun j hj => by
  rw [List.getD_eq_getElem?_getD, List.getElem?_eq_getElem (by omega)]; exact List.getElem_mem _
 refine ⟨n, hn, hn1, hlen, fun x hx => ?_, fun c hc => ?_, fun j hj hk => ?_⟩
 ·
  obtain ⟨j, hj, rfl⟩ := List.getElem_of_mem hx
  have hjn : j < n := by omega
  have e : (colLeastL 400 t)[j] = saidN t j (X.getD j 0) := by
   rw [← mapIdx_getD (saidN t) X j (by omega), ← hL, List.getD_eq_getElem?_getD, List.getElem?_eq_getElem hj]; rfl
  rw [e]
  have h1 := m2 _ (hat j hjn)
  have h2 := saidN_in h j _ h1
  omega
 ·
  obtain ⟨⟨c1, c2, c3, c4, _⟩, hca, _⟩ := hcell c hc
  refine ⟨hca, ⟨c1, c2, c3, c4⟩, ?_⟩
  rw [wide_some hlen c1 c2 c4]
  have h1 := m3 c hc
  have h2 : winS X c.col.toNat c.cols.toNat ≤ winS (colLeastL 400 t) c.col.toNat c.cols.toNat := by
   refine winS_le (m1.trans hlen.symm) (fun j => ?_) _ _ (by omega)
   by_cases hj : j < n
   ·
    rw [hL, mapIdx_getD _ _ _ (by omega)]
    exact (saidN_in h j _ (m2 _ (hat j hj))).1
   ·
    simp [List.getD_eq_getElem?_getD, show X[j]? = none from by simp; omega, show (colLeastL 400 t)[j]? = none from by simp; omega]
  omega
 ·
  rw [hL, mapIdx_getD _ _ _ (by omega)]
  exact (saidN_in h j _ (m2 _ (hat j hj))).2.2 hk
end Go.Proofs.YtpfagdmmhgcmnaaGreatDoor

namespace Go.Proofs.YtpfagdmmhgcmnaaGreatDoor
open Go.RowKit
theorem withSeen2 {W w1 : World} {G : Prop} (B : Nat) (hb : Below W.heap.size W w1) (hB : B < W.heap.size) (k : (∀ o, w1.cell? ⟨B, o, none⟩ = W.cell? ⟨B, o, none⟩) → (∀ o, w1.frozen? ⟨B, o, none⟩ = W.frozen? ⟨B, o, none⟩) → B < w1.heap.size → G) : G :=
 k (seenBk B hB hb).1 (seenBk B hB hb).2.1 (seenBk B hB hb).2.2
structure ColsVar (w : World) (base n : Nat) (X Y : List Int) (B1 B2 g cc g3 c3 : Nat) (U : World) : Prop where
 v1 : U.cell? ⟨B1, 0, none⟩ = some (.slice (some ⟨g, 0, none⟩) n cc)
 v2 : U.cell? ⟨B2, 0, none⟩ = some (.slice (some ⟨g3, 0, none⟩) n c3)
 o1 : IOwn U base (.slice (some ⟨g, 0, none⟩) n cc) X
 o2 : IOwn U base (.slice (some ⟨g3, 0, none⟩) n c3) Y
 lo : base ≤ B1 ∧ base ≤ B2 ∧ base ≤ g ∧ base ≤ g3
 ne : B1 ≠ g ∧ B2 ≠ g ∧ g ≠ g3
theorem ColsVar.below {w : World} {base n : Nat} {X Y : List Int} {B1 B2 g cc g3 c3 : Nat} {U U' : World} (h : ColsVar w base n X Y B1 B2 g cc g3 c3 U) (hb : Below U.heap.size U U') : ColsVar w base n X Y B1 B2 g cc g3 c3 U' :=
 ⟨keepW hb h.v1, keepW hb h.v2, h.o1.below hb, h.o2.below hb, h.lo, h.ne⟩
theorem ColsVar.grown {w : World} {base n : Nat} {X X' Y : List Int} {B1 B2 g cc g3 c3 : Nat} {U U' : World} (h : ColsVar w base n X Y B1 B2 g cc g3 c3 U) (hg : U.grownBy U' (some g)) (ho : IOwn U' base (.slice (some ⟨g, 0, none⟩) n cc) X') (hn : 0 < n) (hl : Y.length = n) : ColsVar w base n X' Y B1 B2 g cc g3 c3 U' := by
 have k1 := World.block_lt_of_cell? U _ h.v1
 have k2 := World.block_lt_of_cell? U _ h.v2
 refine ⟨(World.cell?_of_block (hg.block B1 k1 (fun e => by injection e with e; exact h.ne.1 e))).trans h.v1, (World.cell?_of_block (hg.block B2 k2 (fun e => by injection e with e; exact h.ne.2.1 e))).trans h.v2, ho, ?_, h.lo, h.ne⟩
 obtain ⟨g', c2, e, _, h2, _⟩ := h.o2.at (by rw [hl]; exact hn)
 injection e with e; injection e with e; injection e with e
 exact h.o2.keep hg (fun b hb e9 => by
  have hb2 : g3 = b := by simpa [Value.ownBlock] using hb
  injection e9 with e9
  exact h.ne.2.2 (by omega))
theorem leastL_in {t : Tbl} (h : tblOk t = true) {cells : List GCell} {n : Nat} (hg : 0 ≤ t.gap) (hcell : ∀ x ∈ cells, CellIn n (fun c => leastT (textOf t c)) x) : (leastL t cells n).length = n ∧ ∀ x ∈ leastL t cells n, 0 ≤ x ∧ x ≤ 60 := by
 obtain ⟨⟨m1, m2⟩, _⟩ := made_spec hg hcell
 unfold leastL
 refine ⟨by rw [List.length_mapIdx]; exact m1, fun x hx => ?_⟩
 obtain ⟨j, hj, rfl⟩ := List.getElem_of_mem hx
 rw [List.getElem_mapIdx]
 have h1 := m2 _ (List.getElem_mem (show j < (made t.gap (fun c => leastT (textOf t c)) cells n).length by simpa using hj))
 have h2 := saidN_in h j _ h1
 omega
theorem wishL_in {t : Tbl} (h : tblOk t = true) {cells : List GCell} {n : Nat} (hg : 0 ≤ t.gap) (hcell : ∀ x ∈ cells, CellIn n (fun c => leastT (textOf t c)) x) (hcell2 : ∀ x ∈ cells, CellIn n (fun c => wishT (textOf t c)) x) : (wishL t cells n).length = n ∧ ∀ x ∈ wishL t cells n, 0 ≤ x ∧ x ≤ 60 := by
 obtain ⟨⟨m1, m2⟩, _⟩ := made_spec hg hcell2
 obtain ⟨l1, l2⟩ := leastL_in h hg hcell
 unfold wishL
 refine ⟨by rw [List.length_mapIdx]; exact m1, fun x hx => ?_⟩
 obtain ⟨j, hj, rfl⟩ := List.getElem_of_mem hx
 rw [List.getElem_mapIdx]
 have hjm : j < (made t.gap (fun c => wishT (textOf t c)) cells n).length := by simpa using hj
 have h1 := m2 _ (List.getElem_mem hjm)
 have h2 := int_at l2 j (by omega)
 unfold overL
 omega
theorem ofKind_in (f : Nat → Int) (q : Int) (n : Nat) : (ofKind f q n).length = n ∧ ∀ x ∈ ofKind f q n, 0 ≤ x ∧ x ≤ 1 := by
 unfold ofKind
 refine ⟨by simp, fun x hx => ?_⟩
 obtain ⟨k, _, rfl⟩ := List.mem_map.1 hx
 show 0 ≤ (if f k = q then (1 : Int) else 0) ∧ (if f k = q then (1 : Int) else 0) ≤ 1
 split <;> omega
theorem part_in {t : Tbl} (h : tblOk t = true) {width : Int} (hw : 0 ≤ width ∧ width ≤ 300) (k : Nat) : 0 ≤ width * numT t k / 100 ∧ width * numT t k / 100 ≤ 300 := by
 have h1 := said_num h (k : Int)
 have h2 : 0 ≤ width * numT t k := Int.mul_nonneg hw.1 h1.1
 have h3 : width * numT t k ≤ 300 * numT t k := Int.mul_le_mul_of_nonneg_right hw.2 h1.1
 have h4 : numT t k ≤ 100 := h1.2
 omega
theorem wantsF_in {t : Tbl} {q : Int} {f : Nat → Int} {X : List Int} {n : Nat} (hl : X.length = n) (hx : ∀ x ∈ X, 0 ≤ x) (hf : ∀ k, k < n → f k ≤ 300) : (wantsF t q f X).length = n ∧ ∀ x ∈ wantsF t q f X, 0 ≤ x ∧ x ≤ 300 := by
 unfold wantsF
 refine ⟨by rw [List.length_mapIdx, hl], fun x h => ?_⟩
 obtain ⟨j, hj, rfl⟩ := List.getElem_of_mem h
 have hj2 : j < X.length := by simpa using hj
 rw [List.getElem_mapIdx]
 have h1 := hf j (by omega)
 have h2 := hx _ (List.getElem_mem hj2)
 split <;> omega
theorem addAt_in {X G : List Int} {n : Nat} {b c : Int} (hl : X.length = n) (hg : G.length = n) (hx : ∀ x ∈ X, 0 ≤ x ∧ x ≤ b) (hy : ∀ x ∈ G, 0 ≤ x ∧ x ≤ c) : (addAt X 0 G).length = n ∧ ∀ x ∈ addAt X 0 G, 0 ≤ x ∧ x ≤ b + c := by
 have e1 : (addAt X 0 G).length = n := by rw [addAt_length, hl]
 refine ⟨e1, fun x h => ?_⟩
 obtain ⟨j, hj, rfl⟩ := List.getElem_of_mem h
 have h1 := addAt_get0 (cols := X) (xs := G) (by omega) j
 have e2 : (addAt X 0 G)[j] = (addAt X 0 G).getD j 0 := by rw [List.getD_eq_getElem?_getD, List.getElem?_eq_getElem hj]; rfl
 have h2 := int_at hx j (by omega)
 have h3 := int_at hy j (by omega)
 omega
theorem upTo_in {total : Int} {ws : List Int} {n : Nat} (ht : 0 ≤ total ∧ total ≤ 300) (hl : ws.length = n) (hw : ∀ x ∈ ws, 0 ≤ x ∧ x ≤ 300) : (upToL total ws).1.length = n ∧ (∀ x ∈ (upToL total ws).1, 0 ≤ x ∧ x ≤ 300) ∧ 0 ≤ (upToL total ws).2 ∧ (upToL total ws).2 ≤ 300 := by
 obtain ⟨h1, h2, h3, h4, _⟩ := upTo_spec ht.1 (fun x hx => (hw x hx).1)
 have h5 := sumI_nonneg h2
 exact ⟨h1.trans hl, fun x hx => ⟨h2 x hx, by have := sumI_ge h2 x hx; omega⟩, h4, by omega⟩
set_option maxRecDepth 100000 in
set_option maxHeartbeats 40000000 in
theorem impl_cols (t : Tbl) (A : Option Addr) (c : Nat) (A' : Option Addr) (c' : Nat) (gr : Int) (n : Nat) (cells : List GCell) (GA : Option Addr) (gc : Nat) (width : Int) (w : World) (hok : tblOk t = true) (hw : Base w) (hc : Rd colR w A t.cols) (hr : Rd rowR w A' t.rows) (hG : Rd gcR w GA cells)
  (hn : 1 ≤ n ∧ n ≤ 90) (hcell : ∀ x ∈ cells, CellIn n (fun c => leastT (textOf t c)) x ∧ CellAt t x ∧ 0 ≤ leastT (textOf t x))
  (hcell2 : ∀ x ∈ cells, CellIn n (fun c => wishT (textOf t c)) x ∧ CellAt t x ∧ 0 ≤ wishT (textOf t x)) (hcl : cells.length ≤ 1000) (htc : t.cols.length ≤ n) (hwd : 0 ≤ width ∧ width ≤ 300) :
  Calls Tryz.prog 93 #[.agg #[.slice A t.cols.length c, .int .i64 t.head, .int .i64 t.foot, .slice A' t.rows.length c', .int .i64 t.gap], .agg #[.int .i64 gr, .int .i64 n, .slice GA cells.length gc], .int .i64 width] w fun e w' => ∃ v, e = .returned v ∧ IOwn w' w.heap.size v (widths (kindT t) (numT t) width t.gap (leastL t cells n) (wishL t cells n)) ∧ Below w.heap.size w w' := by
 have hg := (tblOk_parts hok).2.2.1
 have hE := fun (W : World) (h : Below w.heap.size w W) => impl_least t A c A' c' gr n cells GA gc W (hw.below h) (hc.below h) (hr.below h) (hG.below h) hg ⟨hn.1, by omega⟩ hcell hcl htc
 have hH := fun (W : World) (h : Below w.heap.size w W) => impl_wish t A c A' c' gr n cells GA gc W (hw.below h) (hc.below h) (hr.below h) (hG.below h) hg ⟨hn.1, by omega⟩ hcell hcell2 hcl htc
 obtain ⟨hlx, hbx⟩ := leastL_in hok hg.1 (fun x hx => (hcell x hx).1)
 obtain ⟨hly, hby⟩ := wishL_in hok hg.1 (fun x hx => (hcell x hx).1) (fun x hx => (hcell2 x hx).1)
 generalize leastL t cells n = X at hE hlx hbx hby ⊢
 generalize wishL t cells n = Y at hH hly hby ⊢
 have HLX := hide hlx
 have HLY := hide hly
 have HBX := hide hbx
 have HBY := hide hby
 have HOK := hide hok
 have HC := hide hc
 clear hw hc hr hG hcell hcell2 hlx hly hbx hby hok
 go_enter Tryz.func93, Tryz.ntmps93
 have HB1 := balloc (balloc (balloc (brefl w) (.cells #[.slice A t.cols.length c, .int .i64 t.head, .int .i64 t.foot, .slice A' t.rows.length c', .int .i64 t.gap] 26)) (.cells #[.int .i64 gr, .int .i64 n, .slice GA cells.length gc] 35)) (.cells #[.int .i64 width] 3)
 have hzV : (((w.alloc (.cells #[.slice A t.cols.length c, .int .i64 t.head, .int .i64 t.foot, .slice A' t.rows.length c', .int .i64 t.gap] 26)).alloc (.cells #[.int .i64 gr, .int .i64 n, .slice GA cells.length gc] 35)).alloc (.cells #[.int .i64 width] 3)).heap.size = w.heap.size + 3 := by simp
 go_upto_region 1 with fail
 obtain ⟨V, hV⟩ : ∃ V, V = ((w.alloc (.cells #[.slice A t.cols.length c, .int .i64 t.head, .int .i64 t.foot, .slice A' t.rows.length c', .int .i64 t.gap] 26)).alloc (.cells #[.int .i64 gr, .int .i64 n, .slice GA cells.length gc] 35)).alloc (.cells #[.int .i64 width] 3) := ⟨_, rfl⟩
 have hKT : BlockAt V w.heap.size [.slice A t.cols.length c, .int .i64 t.head, .int .i64 t.foot, .slice A' t.rows.length c', .int .i64 t.gap] := by
  rw [hV]; exact ((BlockAt.new w [.slice A t.cols.length c, .int .i64 t.head, .int .i64 t.foot, .slice A' t.rows.length c', .int .i64 t.gap] 26).keep ((balloc (brefl _) _).block w.heap.size (by simp))).keep ((balloc (brefl _) _).block w.heap.size (by simp; omega))
 have hKG : BlockAt V (w.heap.size + 1) [.int .i64 gr, .int .i64 n, .slice GA cells.length gc] := by
  have h1 := BlockAt.new (w.alloc (.cells #[.slice A t.cols.length c, .int .i64 t.head, .int .i64 t.foot, .slice A' t.rows.length c', .int .i64 t.gap] 26)) [.int .i64 gr, .int .i64 n, .slice GA cells.length gc] 35
  have e1 : (w.alloc (.cells #[.slice A t.cols.length c, .int .i64 t.head, .int .i64 t.foot, .slice A' t.rows.length c', .int .i64 t.gap] 26)).heap.size = w.heap.size + 1 := by simp
  rw [e1] at h1
  rw [hV]; exact h1.keep ((balloc (brefl _) _).block (w.heap.size + 1) (by simp))
 have hKW : BlockAt V (w.heap.size + 2) [.int .i64 width] := by
  have h1 := BlockAt.new ((w.alloc (.cells #[.slice A t.cols.length c, .int .i64 t.head, .int .i64 t.foot, .slice A' t.rows.length c', .int .i64 t.gap] 26)).alloc (.cells #[.int .i64 gr, .int .i64 n, .slice GA cells.length gc] 35)) [.int .i64 width] 3
  have e1 : ((w.alloc (.cells #[.slice A t.cols.length c, .int .i64 t.head, .int .i64 t.foot, .slice A' t.rows.length c', .int .i64 t.gap] 26)).alloc (.cells #[.int .i64 gr, .int .i64 n, .slice GA cells.length gc] 35)).heap.size = w.heap.size + 2 := by simp
  rw [e1] at h1
  rw [hV]; exact h1
 rw [← hV] at HB1 hzV
 rw [← hV]
 have HKT := hide hKT
 have HKG := hide hKG
 have HKW := hide hKW
 clear hV
 have hq : (fun U : World => (U.cell? ⟨w.heap.size, 0, none⟩ = some (.slice A t.cols.length c) ∧ U.cell? ⟨w.heap.size, 1, none⟩ = some (.int .i64 t.head) ∧ U.cell? ⟨w.heap.size, 2, none⟩ = some (.int .i64 t.foot) ∧ U.cell? ⟨w.heap.size, 3, none⟩ = some (.slice A' t.rows.length c') ∧ U.cell? ⟨w.heap.size, 4, none⟩ = some (.int .i64 t.gap)) ∧ U.cell? ⟨w.heap.size + 1, 0, none⟩ = some (.int .i64 gr) ∧ U.cell? ⟨w.heap.size + 1, 1, none⟩ = some (.int .i64 n) ∧ U.cell? ⟨w.heap.size + 1, 2, none⟩ = some (.slice GA cells.length gc)) V := ⟨⟨hKT.1 0 _ rfl, hKT.1 1 _ rfl, hKT.1 2 _ rfl, hKT.1 3 _ rfl, hKT.1 4 _ rfl⟩, hKG.1 0 _ rfl, hKG.1 1 _ rfl, hKG.1 2 _ rfl⟩
 have HK : Hid (∀ U : World, Below V.heap.size V U → (fun U : World => (U.cell? ⟨w.heap.size, 0, none⟩ = some (.slice A t.cols.length c) ∧ U.cell? ⟨w.heap.size, 1, none⟩ = some (.int .i64 t.head) ∧ U.cell? ⟨w.heap.size, 2, none⟩ = some (.int .i64 t.foot) ∧ U.cell? ⟨w.heap.size, 3, none⟩ = some (.slice A' t.rows.length c') ∧ U.cell? ⟨w.heap.size, 4, none⟩ = some (.int .i64 t.gap)) ∧ U.cell? ⟨w.heap.size + 1, 0, none⟩ = some (.int .i64 gr) ∧ U.cell? ⟨w.heap.size + 1, 1, none⟩ = some (.int .i64 n) ∧ U.cell? ⟨w.heap.size + 1, 2, none⟩ = some (.slice GA cells.length gc)) U) := fun U h =>
  ⟨⟨keepW h hq.1.1, keepW h hq.1.2.1, keepW h hq.1.2.2.1, keepW h hq.1.2.2.2.1, keepW h hq.1.2.2.2.2⟩, keepW h hq.2.1, keepW h hq.2.2.1, keepW h hq.2.2.2⟩
 clear hKT hKG hKW
 have HZV := hide hzV
 clear hzV
 go_cut [7, 8] (fun s7 s8 wx => ∃ B1 B2 g cc g3 c3, s7 = .pointer (some ⟨B1, 0, none⟩) ∧ s8 = .pointer (some ⟨B2, 0, none⟩) ∧ Aside (ColsVar w V.heap.size n X Y B1 B2 g cc g3 c3 wx) ∧ Aside (Below V.heap.size V wx))
 case first =>
  go_region_held3 (fun U : World => (U.cell? ⟨w.heap.size, 0, none⟩ = some (.slice A t.cols.length c) ∧ U.cell? ⟨w.heap.size, 1, none⟩ = some (.int .i64 t.head) ∧ U.cell? ⟨w.heap.size, 2, none⟩ = some (.int .i64 t.foot) ∧ U.cell? ⟨w.heap.size, 3, none⟩ = some (.slice A' t.rows.length c') ∧ U.cell? ⟨w.heap.size, 4, none⟩ = some (.int .i64 t.gap)) ∧ U.cell? ⟨w.heap.size + 1, 0, none⟩ = some (.int .i64 gr) ∧ U.cell? ⟨w.heap.size + 1, 1, none⟩ = some (.int .i64 n) ∧ U.cell? ⟨w.heap.size + 1, 2, none⟩ = some (.slice GA cells.length gc)) (first | with_reducible assumption | (refine HK.out _ ?_; ((repeat' (with_reducible first | exact brefl _ | refine bdrew ?_ | refine balloc ?_ _ | refine bset ?_ ?_ _ | refine step ?_ (by with_reducible assumption))) <;> first | (simp; done) | (simp; omega)))) (first
   | (go_simp; go_at_call 55; refine (hE _ ?_).mono ?_; ((repeat' (with_reducible first | exact HB1 | exact brefl _ | refine bdrew ?_ | refine balloc ?_ _ | refine bset ?_ ?_ _ | refine step ?_ (by with_reducible assumption))) <;> first | (simp; done) | (simp; omega)); rintro e w7 ⟨v7, rfl, hO7, hb7⟩; obtain ⟨g7, c7, rfl, hg7, hl7, _, _⟩ := hO7.at (by rw [HLX.out]; omega); rw [HLX.out]; rw [HLX.out] at hO7; have HO7 := hide hO7; clear hO7; have z7 := hb7.size; (try simp at z7); (try simp at hg7); (try (refine withSeen2 (V.heap.size) hb7 ?_ ?_; (focus (first | (simp; done) | (simp; omega) | omega)); intro ca0 fa0 sa0)); (try (refine withSeen2 (V.heap.size + 1) hb7 ?_ ?_; (focus (first | (simp; done) | (simp; omega) | omega)); intro ca1 fa1 sa1)); simp only [])
   | (go_simp; go_at_call 69; refine (hH _ ?_).mono ?_; ((repeat' (with_reducible first | exact HB1 | exact brefl _ | refine bdrew ?_ | refine balloc ?_ _ | refine bset ?_ ?_ _ | refine step ?_ (by with_reducible assumption))) <;> first | (simp; done) | (simp; omega)); rintro e w8 ⟨v8, rfl, hO8, hb8⟩; obtain ⟨g8, c8, rfl, hg8, hl8, _, _⟩ := hO8.at (by rw [HLY.out]; omega); rw [HLY.out]; rw [HLY.out] at hO8; have HO8 := hide hO8; clear hO8; have z8 := hb8.size; (try simp at z8); (try simp at hg8); (try (refine withSeen2 (V.heap.size) hb8 ?_ ?_; (focus (first | (simp; done) | (simp; omega) | omega)); intro cb0 fb0 sb0)); (try (refine withSeen2 (V.heap.size + 1) hb8 ?_ ?_; (focus (first | (simp; done) | (simp; omega) | omega)); intro cb1 fb1 sb1)); (try (refine withSeen2 (w7.heap.size) hb8 ?_ ?_; (focus (first | (simp; done) | (simp; omega) | omega)); intro cb2 fb2 sb2)); (try (refine withSeen2 (w7.heap.size + 1) hb8 ?_ ?_; (focus (first | (simp; done) | (simp; omega) | omega)); intro cb3 fb3 sb3)); simp only []))
  all_goals (go_wp2_with fail; go_meet)
  all_goals
   have P7 : IOwn w7 V.heap.size (.slice (some ⟨g7, 0, none⟩) n c7) X := HO7.out.base (by first | (simp; done) | (simp; omega) | omega)
   have P8 : IOwn w8 V.heap.size (.slice (some ⟨g8, 0, none⟩) n c8) Y := HO8.out.base (by first | (simp; done) | (simp; omega) | omega)
   refine ⟨_, _, g7, c7, g8, c8, rfl, rfl, (show Aside _ from ⟨?_, ?_, ?_, ?_, ?_, ?_⟩), (show Aside _ from ?_)⟩
   ·
    first | (simp; done) | (simp [*]; done) | (simp [go_sem, *]; done)
   ·
    first | (simp; done) | (simp [*]; done) | (simp [go_sem, *]; done)
   ·
    (repeat' (with_reducible first | exact P7 | refine IOwn.other ?_ ?_ _ | refine IOwn.below ?_ (balloc (brefl _) _) | refine IOwn.below ?_ (bdrew (brefl _)) | refine IOwn.below ?_ (by with_reducible assumption))) <;> first | omega | (simp; omega)
   ·
    (repeat' (with_reducible first | exact P8 | refine IOwn.other ?_ ?_ _ | refine IOwn.below ?_ (balloc (brefl _) _) | refine IOwn.below ?_ (bdrew (brefl _)) | refine IOwn.below ?_ (by with_reducible assumption))) <;> first | omega | (simp; omega)
   ·
    first | omega | (simp; omega)
   ·
    first | omega | (simp; omega)
   ·
    show Below _ _ _
    (repeat' (with_reducible first | exact brefl V | refine bdrew ?_ | refine balloc ?_ _ | refine bset ?_ ?_ _ | refine step ?_ (by with_reducible assumption))) <;> first | (simp; done) | (simp; omega) | omega
 case rest =>
 obtain ⟨B1, B2, g, cc, g3, c3, rfl, rfl, HVR, HBC⟩ := hcut
 obtain ⟨U, rfl⟩ : ∃ U : World, U = wc := ⟨_, rfl⟩
 clear hE hH
 have v1 := HVR.out.v1
 have zW : U.cell? ⟨w.heap.size + 2, 0, none⟩ = some (.int .i64 width) := keepW HBC.out (HKW.out.1 0 _ rfl)
 have zG : U.cell? ⟨w.heap.size, 4, none⟩ = some (.int .i64 t.gap) := keepW HBC.out (HKT.out.1 4 _ rfl)
 have hWD := fun (W : World) (h : Below U.heap.size U W) => impl_wide (some ⟨g, 0, none⟩) cc X t.gap W (by have h9 := HVR.out.o1; rw [← HLX.out] at h9; exact (irow_rd h9).below h) (fun x hx => by have := HBX.out x hx; omega) (by have := HLX.out; omega) hg
 rw [HLX.out] at hWD
 obtain ⟨s1, s2⟩ := sum_le 60 X HBX.out
 obtain ⟨wd, hwd⟩ : ∃ wd, wideG t.gap X = wd := ⟨_, rfl⟩
 have hwd1 : 0 ≤ wd ∧ wd ≤ 6000 := by
  have hl := HLX.out
  have hm := Int.mul_nonneg hg.1 (show 0 ≤ max ((X.length : Int) - 1) 0 by omega)
  have hm2 : t.gap * max ((X.length : Int) - 1) 0 ≤ 3 * max ((X.length : Int) - 1) 0 := Int.mul_le_mul_of_nonneg_right hg.2 (by omega)
  have hw : wd = sumI X + t.gap * max ((X.length : Int) - 1) 0 := hwd.symm
  omega
 rw [hwd] at hWD
 obtain ⟨lf, hlf⟩ : ∃ lf, width - wd = lf := ⟨_, rfl⟩
 have t1 : IntKind.i64.wrap (width - wd) = lf := by rw [hlf, IntKind.wrap_i64]; omega
 have HRES : Hid (widths (kindT t) (numT t) width t.gap X Y = if lf ≤ 0 then X else restW (kindT t) (autoW (kindT t) Y (addAt X 0 (upToL lf (wantsF t 2 (fun k => width * numT t k / 100) X)).1, (upToL lf (wantsF t 2 (fun k => width * numT t k / 100) X)).2))) := by
  show _ = _
  rw [← hlf, ← hwd]
  rfl
 have hlf1 : lf ≤ 300 := by omega
 have HLF := hide hlf
 clear s1 s2 hwd hwd1 hlf
 go_upto_region 2 with fail
 go_cut [9] from 9 to 28 (fun s9 wx => s9 = .int .i64 lf ∧ Aside (Below U.heap.size U wx))
 case first =>
  go_region_with (go_at_call 65; refine (hWD _ ?_).mono ?_; (first | exact brefl _ | exact bdrew (brefl _)); rintro e w2 ⟨rfl, hb2⟩; have x1 : w2.cell? ⟨w.heap.size + 2, 0, none⟩ = some (.int .i64 width) := keepW hb2 (by simp [*]))
  all_goals
   go_wp2_with fail
   go_meet
   case rel =>
    refine ⟨rfl, (show Aside _ from ?_)⟩
    show Below _ _ _
    (repeat' (with_reducible first | exact brefl _ | refine bdrew ?_ | refine step ?_ (by with_reducible assumption)))
 case rest =>
 obtain ⟨rfl, HB2⟩ := hcut
 obtain ⟨U2, rfl⟩ : ∃ U2 : World, U2 = wc := ⟨_, rfl⟩
 have HV2 := hide (HVR.out.below HB2.out)
 have HBV := hide (step HBC.out HB2.out)
 clear v1 zW zG hWD t1 HVR
 have w1 := HV2.out.v1
 by_cases hle : lf ≤ 0
 ·
  have hres := HRES.out
  rw [if_pos hle] at hres
  have HR1 := hide hres
  clear hres
  go_wp2_with fail
  go_ret
  exact ⟨_, rfl, by rw [HR1.out]; exact HV2.out.o1.base HB1.size, step HB1 HBV.out⟩
 ·
  have hres := HRES.out
  rw [if_neg hle] at hres
  have HR1 := hide hres
  clear hres HRES
  have hmf := @run_mkf Tryz.prog
  have heg1 : ∀ args w, (callFunc 123 args).run Tryz.prog w = .ok (.enter 123 args) w := enters_of Tryz.func123 (by kernel_rfl) rfl
  have HWU := hide (step HB1 HBV.out)
  have hC2 := HC.out.below HWU.out
  have hT2 : BlockAt U2 w.heap.size [.slice A t.cols.length c, .int .i64 t.head, .int .i64 t.foot, .slice A' t.rows.length c', .int .i64 t.gap] := HKT.out.keep (HBV.out.block _ (by rw [HZV.out]; omega))
  have hW2 : U2.cell? ⟨w.heap.size + 1 + 1, 0, none⟩ = some (.int .i64 width) := keepW HBV.out (HKW.out.1 0 _ rfl)
  have hz2 : V.heap.size ≤ U2.heap.size := HBV.out.size
  have hzv : V.heap.size = w.heap.size + 3 := HZV.out
  have hgU : g < U2.heap.size := by
   obtain ⟨g', c2, e, _, h2, _⟩ := HV2.out.o1.at (by rw [HLX.out]; exact hn.1)
   injection e with e; injection e with e; injection e with e; omega
  have hgV : V.heap.size ≤ g := HV2.out.lo.2.2.1
  have heg2 : ∀ args w, (callFunc 125 args).run Tryz.prog w = .ok (.enter 125 args) w := enters_of Tryz.func125 (by kernel_rfl) rfl
  have heg3 : ∀ args w, (callFunc 127 args).run Tryz.prog w = .ok (.enter 127 args) w := enters_of Tryz.func127 (by kernel_rfl) rfl
  have hw1 := cols_wants t A c A' c' 2 125 #[.pointer (some ⟨w.heap.size + 1 + 1, 0, none⟩), .pointer (some ⟨w.heap.size, 0, none⟩)] (fun k => width * numT t k / 100) B1 w.heap.size g cc n V.heap.size X U2 hC2 w1 hT2 HV2.out.o1 HLX.out ⟨hn.1, by omega⟩ (fun x hx => by have := HBX.out x hx; omega) heg2
   (fun W k hb hk => cols_part t A c A' c' k (w.heap.size + 1 + 1) w.heap.size width W HOK.out (hC2.below hb) (keepW hb hW2) (hT2.keep (hb.block _ (by omega))) (by omega) hwd) (fun k hk => by have := part_in HOK.out hwd k; omega)
  obtain ⟨pl, pb⟩ := wantsF_in (t := t) (q := 2) (f := fun k => width * numT t k / 100) HLX.out (fun x hx => (HBX.out x hx).1) (fun k _ => (part_in HOK.out hwd k).2)
  have hr1 := HR1.out
  generalize wantsF t 2 (fun k => width * numT t k / 100) X = P1 at hw1 pl pb hr1
  obtain ⟨ql, qb, qs, qt⟩ := upTo_in (total := lf) (ws := P1) ⟨by omega, hlf1⟩ pl pb
  obtain ⟨p1, hp1⟩ : ∃ p, upToL lf P1 = p := ⟨_, rfl⟩
  rw [hp1] at hr1 ql qb qs qt
  obtain ⟨G1, l1⟩ := p1
  dsimp only at hr1 ql qb qs qt
  have HP1 := hide hp1
  have HPL := hide pl
  have HPB := hide pb
  have HQB := hide qb
  have HQL := hide ql
  have HR2 := hide hr1
  clear hr1 HR1 hp1 pb qb pl ql
  go_wp2_with fail
  refine hw1.mono ?_
  rintro e U3 ⟨v3, rfl, hI3, hb3⟩
  obtain ⟨A3, d3, rfl⟩ := hI3.form
  have hup := impl_ShrUpTo lf U2.heap.size A3 d3 P1 U3 hI3 ⟨⟨by omega, by omega⟩, fun x hx => by have := HPB.out x hx; omega, by rw [HPL.out]; omega⟩ (by rw [HPL.out]; omega)
  rw [HP1.out] at hup
  have HV3 := hide (HV2.out.below hb3)
  have HWU3 := hide (step HWU.out hb3)
  have HT3 := hide (hT2.keep (hb3.block w.heap.size (by omega)))
  have hz3 : U2.heap.size ≤ U3.heap.size := hb3.size
  clear hw1 w1 hI3 hb3 hC2 hW2 hT2
  go_wp2_with fail
  refine hup.mono ?_
  rintro e U4 ⟨v4, rfl, hI4, hb4⟩
  obtain ⟨g4, c4, rfl, hg4, hl4, _, _⟩ := hI4.at (by show 0 < G1.length; rw [HQL.out]; omega)
  rw [show (G1, l1).1.length = n from HQL.out] at hI4 ⊢
  have HV4 := hide (HV3.out.below hb4)
  have HWU4 := hide (step HWU3.out hb4)
  have HT4 := hide (HT3.out.keep (hb4.block w.heap.size (by omega)))
  have hz4 : U3.heap.size ≤ U4.heap.size := hb4.size
  have w4 := HV4.out.v1
  have hne4 : g ≠ g4 := by omega
  have had := impl_add V.heap.size U3.heap.size g cc n g4 c4 X G1 U4 HV4.out.o1 hI4 HLX.out HQL.out hne4 (by omega) hgV (fun x hx => by have := HBX.out x hx; omega) (fun x hx => by have := HQB.out x hx; omega)
  clear hup hI4 hb4 HP1 HPL HPB
  go_wp2_with fail
  refine had.mono ?_
  rintro e U5 ⟨rfl, hO5, hG5⟩
  obtain ⟨xl, xb⟩ := addAt_in HLX.out HQL.out HBX.out HQB.out
  have HV5 := hide (HV4.out.grown hG5 hO5 hn.1 HLY.out)
  have HWU5 : Hid (Below w.heap.size w U5) := HWU4.out.trans (grown_below hG5 (by omega) (fun k e => by injection e with e; omega))
  have hz5 : U4.heap.size ≤ U5.heap.size := hG5.size
  have HT5 := hide (HT4.out.keep (hG5.block w.heap.size (by omega) (fun e => by injection e with e; omega)))
  have hC5 := HC.out.below HWU5.out
  have hX1e : addAt X 0 G1 = addAt X 0 G1 := rfl
  obtain ⟨X1, hX1⟩ : ∃ X1, addAt X 0 G1 = X1 := ⟨_, rfl⟩
  rw [hX1] at xl xb HV5
  have hr2 := HR2.out
  rw [hX1] at hr2
  have hau : autoW (kindT t) Y (X1, l1) = (addAt X1 0 (upToL l1 (wantsF t 0 (fun k => Y.getD k 0) X1)).1, (upToL l1 (wantsF t 0 (fun k => Y.getD k 0) X1)).2) := rfl
  rw [hau] at hr2
  clear hau hX1e hX1 had hO5 hG5 HR2 w4 hne4
  have w5 := HV5.out.v1
  have w5' := HV5.out.v2
  have o5 := HV5.out.o2
  have hw2 := cols_wants t A c A' c' 0 127 #[.pointer (some ⟨B2, 0, none⟩)] (fun k => Y.getD k 0) B1 w.heap.size g cc n V.heap.size X1 U5 hC5 w5 HT5.out HV5.out.o1 xl ⟨hn.1, by omega⟩ (fun x hx => by have := xb x hx; omega) heg3
   (fun W k hb hk => cols_wish k B2 g3 c3 n V.heap.size Y W (keepW hb w5') (o5.below hb) HLY.out hk (by omega)) (fun k hk => by have := int_at HBY.out k (by rw [HLY.out]; exact hk); omega)
  obtain ⟨pl, pb⟩ := wantsF_in (t := t) (q := 0) (f := fun k => Y.getD k 0) xl (fun x hx => (xb x hx).1) (fun k hk => by have := int_at HBY.out k (by rw [HLY.out]; exact hk); show Y.getD k 0 ≤ 300; omega)
  generalize wantsF t 0 (fun k => Y.getD k 0) X1 = P2 at hw2 pl pb hr2
  obtain ⟨ql, qb, qs2, qt2⟩ := upTo_in (total := l1) (ws := P2) ⟨qs, qt⟩ pl pb
  obtain ⟨p2, hp2⟩ : ∃ p, upToL l1 P2 = p := ⟨_, rfl⟩
  rw [hp2] at hr2 ql qb qs2 qt2
  obtain ⟨G2, l2⟩ := p2
  dsimp only at hr2 ql qb qs2 qt2
  have HP2 := hide hp2
  have HPL := hide pl
  have HPB := hide pb
  have HQB2 := hide qb
  have HQL2 := hide ql
  have HXL := hide xl
  have HXB := hide xb
  have HR3 := hide hr2
  clear hr2 hp2 pb qb pl ql xl xb w5' o5
  go_wp2_with fail
  refine hw2.mono ?_
  rintro e U6 ⟨v6, rfl, hI6, hb6⟩
  obtain ⟨A6, d6, rfl⟩ := hI6.form
  have hup := impl_ShrUpTo l1 U5.heap.size A6 d6 P2 U6 hI6 ⟨⟨qs, by omega⟩, fun x hx => by have := HPB.out x hx; omega, by rw [HPL.out]; omega⟩ (by rw [HPL.out]; omega)
  rw [HP2.out] at hup
  have HV6 := hide (HV5.out.below hb6)
  have HWU6 := hide (step HWU5.out hb6)
  have hz6 : U5.heap.size ≤ U6.heap.size := hb6.size
  have HT6 := hide (HT5.out.keep (hb6.block w.heap.size (by omega)))
  clear hw2 w5 hI6 hb6 hC5
  go_wp2_with fail
  refine hup.mono ?_
  rintro e U7 ⟨v7, rfl, hI7, hb7⟩
  obtain ⟨g7, c7, rfl, hg7, hl7, _, _⟩ := hI7.at (by show 0 < G2.length; rw [HQL2.out]; omega)
  rw [show (G2, l2).1.length = n from HQL2.out] at hI7 ⊢
  have HV7 := hide (HV6.out.below hb7)
  have HWU7 := hide (step HWU6.out hb7)
  have hz7 : U6.heap.size ≤ U7.heap.size := hb7.size
  have HT7 := hide (HT6.out.keep (hb7.block w.heap.size (by omega)))
  have w7 := HV7.out.v1
  have hne7 : g ≠ g7 := by omega
  have had := impl_add V.heap.size U6.heap.size g cc n g7 c7 X1 G2 U7 HV7.out.o1 hI7 HXL.out HQL2.out hne7 (by omega) hgV (fun x hx => by have := HXB.out x hx; omega) (fun x hx => by have := HQB2.out x hx; omega)
  clear hup hI7 hb7 HP2 HPL HPB
  go_wp2_with fail
  refine had.mono ?_
  rintro e U8 ⟨rfl, hO8, hG8⟩
  obtain ⟨xl, xb⟩ := addAt_in HXL.out HQL2.out HXB.out HQB2.out
  have HV8 := hide (HV7.out.grown hG8 hO8 hn.1 HLY.out)
  have HWU8 : Hid (Below w.heap.size w U8) := HWU7.out.trans (grown_below hG8 (by omega) (fun k e => by injection e with e; omega))
  have hz8 : U7.heap.size ≤ U8.heap.size := hG8.size
  have HT8 := hide (HT7.out.keep (hG8.block w.heap.size (by omega) (fun e => by injection e with e; omega)))
  obtain ⟨X2, hX2⟩ : ∃ X2, addAt X1 0 G2 = X2 := ⟨_, rfl⟩
  rw [hX2] at xl xb HV8
  have hr3 := HR3.out
  rw [hX2] at hr3
  have HR4 := hide hr3
  have HXL2 := hide xl
  have HXB2 := hide xb
  clear hr3 HR3 hX2 had hO8 hG8 w7 hne7 xl xb
  obtain ⟨D, hD⟩ : ∃ D, D = U8.alloc (.cells #[.int .i64 0, .int .i64 2] 3) := ⟨_, rfl⟩
  have eD : Below U8.heap.size U8 D := by rw [hD]; exact balloc (brefl _) _
  have hDc0 : D.cell? ⟨U8.heap.size, 0, none⟩ = some (.int .i64 0) := by rw [hD]; exact (BlockAt.new U8 [.int .i64 0, .int .i64 2] 3).1 0 _ rfl
  have hDc1 : D.cell? ⟨U8.heap.size, 1, none⟩ = some (.int .i64 2) := by rw [hD]; exact (BlockAt.new U8 [.int .i64 0, .int .i64 2] 3).1 1 _ rfl
  have hzD : D.heap.size = U8.heap.size + 1 := by rw [hD]; simp
  have HVD := hide (HV8.out.below eD)
  have HWD := hide (step HWU8.out eD)
  have HTD := hide (HT8.out.keep (eD.block w.heap.size (by omega)))
  have HDC0 := hide hDc0
  have HDC1 := hide hDc1
  have HD := hide hD
  clear hD eD hDc0 hDc1
  go_wp2_with fail
  rw [← HD.out]
  go_loopg [13, 14, 15, 56] 2 (fun gg s13 s14 s15 s56 wr => ∃ i : Nat, i ≤ 2 ∧ 2 - i ≤ gg ∧ s56 = .int .i64 i ∧ Aside (Below D.heap.size D wr) ∧ (1 ≤ i → ¬ 0 < sumI (ofKind (kindT t) 0 n)) ∧ (2 ≤ i → ¬ 0 < sumI (ofKind (kindT t) 2 n)))
  case atStart => exact ⟨0, by omega, by omega, rfl, brefl _, fun h => by omega, fun h => by omega⟩
  case round =>
   obtain ⟨i, hi, hgi, rfl, HBR, n0, n2⟩ := hrel
   have hVR := HVD.out.below HBR.out
   have hTR := HTD.out.keep (HBR.out.block w.heap.size (by omega))
   have hWR := step HWD.out HBR.out
   have w1 := hVR.v1
   have g0 := hTR.1 0 _ rfl
   have g1 := hTR.1 1 _ rfl
   have g2 := hTR.1 2 _ rfl
   have g3 := hTR.1 3 _ rfl
   have g4 := hTR.1 4 _ rfl
   have HVR := hide hVR
   have HTR := hide hTR
   have HWR := hide hWR
   have hzR : D.heap.size ≤ wr.heap.size := HBR.out.size
   clear hVR hTR hWR
   obtain rfl | rfl | rfl : i = 0 ∨ i = 1 ∨ i = 2 := by omega
   ·
    have hc0 : wr.cell? ⟨U8.heap.size, 0, none⟩ = some (.int .i64 0) := keepW HBR.out HDC0.out
    have hal := impl_alike t A c A' c' n 0 wr (HC.out.below HWR.out) ⟨hn.1, by omega⟩
    obtain ⟨kl, kb⟩ := ofKind_in (kindT t) 0 n
    by_cases h0 : 0 < sumI (ofKind (kindT t) 0 n)
    ·
     have hrw : restW (kindT t) (X2, l2) = addAt X2 0 (share l2 (ofKind (kindT t) 0 n)) := by
      unfold restW; dsimp only; rw [HXL2.out, if_pos h0]
     obtain ⟨sl, ss, sn⟩ := share_spec (total := l2) (ws := ofKind (kindT t) 0 n) qs2 (fun x hx => (kb x hx).1) (by intro e; rw [e] at kl; simp at kl; omega)
     rw [decide_eq_true h0] at hal
     rw [kl] at sl
     have sb : ∀ x ∈ share l2 (ofKind (kindT t) 0 n), 0 ≤ x ∧ x ≤ 300 := fun x hx => ⟨sn x hx, by have := sumI_ge sn x hx; omega⟩
     have HRW := hide (HR4.out.trans hrw)
     generalize hws : ofKind (kindT t) 0 n = ws at hal kl kb sl sb HRW
     have HKB := hide kb
     have HKL := hide kl
     clear hws hrw ss sn n0 n2 h0 kb kl
     go_wp2_with fail
     refine hal.mono ?_
     rintro e Z1 ⟨v9, rfl, hO9, hb9⟩
     obtain ⟨g9, c9, rfl, hg9, hl9, _, _⟩ := hO9.at (by rw [HKL.out]; omega)
     have hsh := fun (W : World) (h : Below Z1.heap.size Z1 W) => impl_ShrShare l2 (some ⟨g9, 0, none⟩) c9 ws W ((irow_rd hO9).below h) ⟨⟨qs2, by omega⟩, fun x hx => by have := HKB.out x hx; omega, by rw [HKL.out]; omega⟩ (by rw [HKL.out]; omega)
     rw [HKL.out] at hsh ⊢
     have HVZ := hide (HVR.out.below hb9)
     have HWZ := hide (step HWR.out hb9)
     have hz9 : wr.heap.size ≤ Z1.heap.size := hb9.size
     generalize share l2 ws = SH at hsh sl sb HRW
     have HSB := hide sb
     have HSL := hide sl
     have hadd := fun (W : World) (h : Below Z1.heap.size Z1 W) (base gs cs : Nat) (hO : IOwn W base (.slice (some ⟨gs, 0, none⟩) n cs) SH) (hne : g ≠ gs) => impl_add V.heap.size base g cc n gs cs X2 SH W (HVZ.out.o1.below h) hO HXL2.out HSL.out hne (by omega) hgV (fun x hx => by have := HXB2.out x hx; omega) (fun x hx => by have := HSB.out x hx; omega)
     have y1 := HVZ.out.v1
     have hB1 : B1 < Z1.heap.size := World.block_lt_of_cell? Z1 _ y1
     have hB1g : B1 ≠ g := HVZ.out.ne.1
     clear hal hO9 hb9 w1 g0 g1 g2 g3 g4 hc0 sb sl
     go_upto_region 15 with fail
     go_region_with (first
      | (go_at_call 129; refine (hsh _ ?_).mono ?_; (first | exact brefl _ | exact bdrew (brefl _)); rintro e Z2 ⟨v10, rfl, hO10, hb10⟩; obtain ⟨g10, c10, rfl, hg10, hl10, _, _⟩ := hO10.at (by rw [HSL.out]; omega); rw [HSL.out]; rw [HSL.out] at hO10; have x1 : Z2.cell? ⟨B1, 0, none⟩ = some (.slice (some ⟨g, 0, none⟩) n cc) := keepW hb10 (by simp [*]); have hz10 := hb10.size; (try simp at hz10); (try simp at hg10))
      | (go_at_call 126; refine (hadd _ ?_ _ g10 c10 hO10 (by omega)).mono ?_; (first | exact step (brefl _) hb10 | exact step (bdrew (brefl _)) hb10); rintro e Z3 ⟨rfl, hO11, hG11⟩; have x2 : Z3.cell? ⟨B1, 0, none⟩ = some (.slice (some ⟨g, 0, none⟩) n cc) := (World.cell?_of_block (hG11.block B1 (by omega) (fun e => by injection e with e; omega))).trans x1))
     all_goals
      go_wp2_with fail
      go_ret
      refine ⟨_, rfl, by rw [HRW.out]; exact hO11.base (by omega), ?_⟩
      have hbz : Below Z1.heap.size Z1 Z2 := by first | exact step (brefl _) hb10 | exact step (bdrew (brefl _)) hb10
      exact (step HWZ.out hbz).trans (grown_below hG11 (by omega) (fun k e => by injection e with e; omega))
    ·
     rw [decide_eq_false h0] at hal
     go_wp2_with fail
     refine hal.mono ?_
     rintro e Z1 ⟨v9, rfl, hO9, hb9⟩
     obtain ⟨A9, c9, rfl⟩ := hO9.form
     have HBR2 := hide (step HBR.out hb9)
     clear hal hO9 hb9 w1 g0 g1 g2 g3 g4 hc0
     go_wp2_with fail
     go_roundg (2 - (0 + 1))
     case measure => omega
     case rel => exact ⟨0 + 1, by omega, by omega, by go_num, HBR2.out, fun _ => h0, fun h => by omega⟩
   ·
    have hc0 : wr.cell? ⟨U8.heap.size, 1, none⟩ = some (.int .i64 2) := keepW HBR.out HDC1.out
    have hal := impl_alike t A c A' c' n 2 wr (HC.out.below HWR.out) ⟨hn.1, by omega⟩
    obtain ⟨kl, kb⟩ := ofKind_in (kindT t) 2 n
    by_cases h0 : 0 < sumI (ofKind (kindT t) 2 n)
    ·
     have hrw : restW (kindT t) (X2, l2) = addAt X2 0 (share l2 (ofKind (kindT t) 2 n)) := by
      unfold restW; dsimp only; rw [HXL2.out, if_neg (n0 (by omega)), if_pos h0]
     obtain ⟨sl, ss, sn⟩ := share_spec (total := l2) (ws := ofKind (kindT t) 2 n) qs2 (fun x hx => (kb x hx).1) (by intro e; rw [e] at kl; simp at kl; omega)
     rw [decide_eq_true h0] at hal
     rw [kl] at sl
     have sb : ∀ x ∈ share l2 (ofKind (kindT t) 2 n), 0 ≤ x ∧ x ≤ 300 := fun x hx => ⟨sn x hx, by have := sumI_ge sn x hx; omega⟩
     have HRW := hide (HR4.out.trans hrw)
     generalize hws : ofKind (kindT t) 2 n = ws at hal kl kb sl sb HRW
     have HKB := hide kb
     have HKL := hide kl
     clear hws hrw ss sn n0 n2 h0 kb kl
     go_wp2_with fail
     refine hal.mono ?_
     rintro e Z1 ⟨v9, rfl, hO9, hb9⟩
     obtain ⟨g9, c9, rfl, hg9, hl9, _, _⟩ := hO9.at (by rw [HKL.out]; omega)
     have hsh := fun (W : World) (h : Below Z1.heap.size Z1 W) => impl_ShrShare l2 (some ⟨g9, 0, none⟩) c9 ws W ((irow_rd hO9).below h) ⟨⟨qs2, by omega⟩, fun x hx => by have := HKB.out x hx; omega, by rw [HKL.out]; omega⟩ (by rw [HKL.out]; omega)
     rw [HKL.out] at hsh ⊢
     have HVZ := hide (HVR.out.below hb9)
     have HWZ := hide (step HWR.out hb9)
     have hz9 : wr.heap.size ≤ Z1.heap.size := hb9.size
     generalize share l2 ws = SH at hsh sl sb HRW
     have HSB := hide sb
     have HSL := hide sl
     have hadd := fun (W : World) (h : Below Z1.heap.size Z1 W) (base gs cs : Nat) (hO : IOwn W base (.slice (some ⟨gs, 0, none⟩) n cs) SH) (hne : g ≠ gs) => impl_add V.heap.size base g cc n gs cs X2 SH W (HVZ.out.o1.below h) hO HXL2.out HSL.out hne (by omega) hgV (fun x hx => by have := HXB2.out x hx; omega) (fun x hx => by have := HSB.out x hx; omega)
     have y1 := HVZ.out.v1
     have hB1 : B1 < Z1.heap.size := World.block_lt_of_cell? Z1 _ y1
     have hB1g : B1 ≠ g := HVZ.out.ne.1
     clear hal hO9 hb9 w1 g0 g1 g2 g3 g4 hc0 sb sl
     go_upto_region 15 with fail
     go_region_with (first
      | (go_at_call 129; refine (hsh _ ?_).mono ?_; (first | exact brefl _ | exact bdrew (brefl _)); rintro e Z2 ⟨v10, rfl, hO10, hb10⟩; obtain ⟨g10, c10, rfl, hg10, hl10, _, _⟩ := hO10.at (by rw [HSL.out]; omega); rw [HSL.out]; rw [HSL.out] at hO10; have x1 : Z2.cell? ⟨B1, 0, none⟩ = some (.slice (some ⟨g, 0, none⟩) n cc) := keepW hb10 (by simp [*]); have hz10 := hb10.size; (try simp at hz10); (try simp at hg10))
      | (go_at_call 126; refine (hadd _ ?_ _ g10 c10 hO10 (by omega)).mono ?_; (first | exact step (brefl _) hb10 | exact step (bdrew (brefl _)) hb10); rintro e Z3 ⟨rfl, hO11, hG11⟩; have x2 : Z3.cell? ⟨B1, 0, none⟩ = some (.slice (some ⟨g, 0, none⟩) n cc) := (World.cell?_of_block (hG11.block B1 (by omega) (fun e => by injection e with e; omega))).trans x1))
     all_goals
      go_wp2_with fail
      go_ret
      refine ⟨_, rfl, by rw [HRW.out]; exact hO11.base (by omega), ?_⟩
      have hbz : Below Z1.heap.size Z1 Z2 := by first | exact step (brefl _) hb10 | exact step (bdrew (brefl _)) hb10
      exact (step HWZ.out hbz).trans (grown_below hG11 (by omega) (fun k e => by injection e with e; omega))
    ·
     rw [decide_eq_false h0] at hal
     go_wp2_with fail
     refine hal.mono ?_
     rintro e Z1 ⟨v9, rfl, hO9, hb9⟩
     obtain ⟨A9, c9, rfl⟩ := hO9.form
     have HBR2 := hide (step HBR.out hb9)
     clear hal hO9 hb9 w1 g0 g1 g2 g3 g4 hc0
     go_wp2_with fail
     go_roundg (2 - (1 + 1))
     case measure => omega
     case rel => exact ⟨1 + 1, by omega, by omega, by go_num, HBR2.out, fun _ => n0 (by omega), fun _ => h0⟩
   ·
    have hrw : restW (kindT t) (X2, l2) = X2 := by
     unfold restW; dsimp only; rw [HXL2.out, if_neg (n0 (by omega)), if_neg (n2 (by omega))]
    have HRW := hide (HR4.out.trans hrw)
    clear hrw n0 n2 g0 g1 g2 g3 g4
    go_wp2_with fail
    go_ret
    exact ⟨_, rfl, by rw [HRW.out]; exact HVR.out.o1.base (by omega), HWR.out⟩
end Go.Proofs.YtpfagdmmhgcmnaaGreatDoor
