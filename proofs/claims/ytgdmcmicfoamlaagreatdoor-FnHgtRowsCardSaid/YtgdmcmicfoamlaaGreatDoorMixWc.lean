import Derived.Test.YtgdmcmicfoamlaaGreatDoorMixWa
import Derived.Deep.DeepCutAuto
set_option linter.unusedVariables false
set_option linter.unusedSimpArgs false
set_option maxHeartbeats 40000000
set_option maxRecDepth 100000
namespace Go.Proofs.YtgdmcmicfoamlaaGreatDoor
open Go.RowKit
theorem Zdm {W w1 : World} {G : Prop} (B : Nat) (hb : Below W.heap.size W w1) (hB : B < W.heap.size) (k : (∀ o, w1.cell? ⟨B, o, none⟩ = W.cell? ⟨B, o, none⟩) → (∀ o, w1.frozen? ⟨B, o, none⟩ = W.frozen? ⟨B, o, none⟩) → B < w1.heap.size → G) : G :=
 k (Jc B hB hb).1 (Jc B hB hb).2.1 (Jc B hB hb).2.2
structure Ze2 (w : World) (base n : Nat) (X Y : List Int) (B1 B2 g cc g3 c3 : Nat) (U : World) : Prop where
 v1 : U.cell? ⟨B1, 0, none⟩ = some (.slice (some ⟨g, 0, none⟩) n cc)
 v2 : U.cell? ⟨B2, 0, none⟩ = some (.slice (some ⟨g3, 0, none⟩) n c3)
 o1 : Zn U base (.slice (some ⟨g, 0, none⟩) n cc) X
 o2 : Zn U base (.slice (some ⟨g3, 0, none⟩) n c3) Y
 lo : base ≤ B1 ∧ base ≤ B2 ∧ base ≤ g ∧ base ≤ g3
 ne : B1 ≠ g ∧ B2 ≠ g ∧ g ≠ g3
theorem Ze2.below {w : World} {base n : Nat} {X Y : List Int} {B1 B2 g cc g3 c3 : Nat} {U U' : World} (h : Ze2 w base n X Y B1 B2 g cc g3 c3 U) (hb : Below U.heap.size U U') : Ze2 w base n X Y B1 B2 g cc g3 c3 U' :=
 ⟨Zg hb h.v1, Zg hb h.v2, h.o1.below hb, h.o2.below hb, h.lo, h.ne⟩
theorem Ze2.grown {w : World} {base n : Nat} {X X' Y : List Int} {B1 B2 g cc g3 c3 : Nat} {U U' : World} (h : Ze2 w base n X Y B1 B2 g cc g3 c3 U) (hg : U.grownBy U' (some g)) (ho : Zn U' base (.slice (some ⟨g, 0, none⟩) n cc) X') (hn : 0 < n) (hl : Y.length = n) : Ze2 w base n X' Y B1 B2 g cc g3 c3 U' := by
 have k1 := World.block_lt_of_cell? U _ h.v1
 have k2 := World.block_lt_of_cell? U _ h.v2
 refine ⟨(World.cell?_of_block (hg.block B1 k1 (fun e => by injection e with e; exact h.ne.1 e))).trans h.v1, (World.cell?_of_block (hg.block B2 k2 (fun e => by injection e with e; exact h.ne.2.1 e))).trans h.v2, ho, ?_, h.lo, h.ne⟩
 obtain ⟨g', c2, e, _, h2, _⟩ := h.o2.at (by rw [hl]; exact hn)
 injection e with e; injection e with e; injection e with e
 exact h.o2.keep hg (fun b hb e9 => by
  have hb2 : g3 = b := by simpa [Value.ownBlock] using hb
  injection e9 with e9
  exact h.ne.2.2 (by omega))
theorem Zf3 {t : Tbl} (h : Qn t = true) {cells : List Zl} {n : Nat} (hg : 0 ≤ t.gap) (hcell : ∀ x ∈ cells, Zas n (fun c => Jq (Qb t c)) x) : (Yf t cells n).length = n ∧ ∀ x ∈ Yf t cells n, 0 ≤ x ∧ x ≤ 60 := by
 obtain ⟨⟨m1, m2⟩, _⟩ := Zb3 hg hcell
 unfold Yf
 refine ⟨by rw [List.length_mapIdx]; exact m1, fun x hx => ?_⟩
 obtain ⟨j, hj, rfl⟩ := List.getElem_of_mem hx
 rw [List.getElem_mapIdx]
 have h1 := m2 _ (List.getElem_mem (show j < (made t.gap (fun c => Jq (Qb t c)) cells n).length by simpa using hj))
 have h2 := Zs0 h j _ h1
 omega
theorem Zka {t : Tbl} (h : Qn t = true) {cells : List Zl} {n : Nat} (hg : 0 ≤ t.gap) (hcell : ∀ x ∈ cells, Zas n (fun c => Jq (Qb t c)) x) (hcell2 : ∀ x ∈ cells, Zas n (fun c => Zac (Qb t c)) x) : (Zcb t cells n).length = n ∧ ∀ x ∈ Zcb t cells n, 0 ≤ x ∧ x ≤ 60 := by
 obtain ⟨⟨m1, m2⟩, _⟩ := Zb3 hg hcell2
 obtain ⟨l1, l2⟩ := Zf3 h hg hcell
 unfold Zcb
 refine ⟨by rw [List.length_mapIdx]; exact m1, fun x hx => ?_⟩
 obtain ⟨j, hj, rfl⟩ := List.getElem_of_mem hx
 rw [List.getElem_mapIdx]
 have hjm : j < (made t.gap (fun c => Zac (Qb t c)) cells n).length := by simpa using hj
 have h1 := m2 _ (List.getElem_mem hjm)
 have h2 := Yn l2 j (by omega)
 unfold Zb8
 omega
theorem Zfw (f : Nat → Int) (q : Int) (n : Nat) : (Zu f q n).length = n ∧ ∀ x ∈ Zu f q n, 0 ≤ x ∧ x ≤ 1 := by
 unfold Zu
 refine ⟨by simp, fun x hx => ?_⟩
 obtain ⟨k, _, rfl⟩ := List.mem_map.1 hx
 show 0 ≤ (if f k = q then (1 : Int) else 0) ∧ (if f k = q then (1 : Int) else 0) ≤ 1
 split <;> omega
theorem Zm4 {t : Tbl} (h : Qn t = true) {width : Int} (hw : 0 ≤ width ∧ width ≤ 300) (k : Nat) : 0 ≤ width * Zbd t k / 100 ∧ width * Zbd t k / 100 ≤ 300 := by
 have h1 := Zhn h (k : Int)
 have h2 : 0 ≤ width * Zbd t k := Int.mul_nonneg hw.1 h1.1
 have h3 : width * Zbd t k ≤ 300 * Zbd t k := Int.mul_le_mul_of_nonneg_right hw.2 h1.1
 have h4 : Zbd t k ≤ 100 := h1.2
 omega
theorem Zf4 {t : Tbl} {q : Int} {f : Nat → Int} {X : List Int} {n : Nat} (hl : X.length = n) (hx : ∀ x ∈ X, 0 ≤ x) (hf : ∀ k, k < n → f k ≤ 300) : (Jy t q f X).length = n ∧ ∀ x ∈ Jy t q f X, 0 ≤ x ∧ x ≤ 300 := by
 unfold Jy
 refine ⟨by rw [List.length_mapIdx, hl], fun x h => ?_⟩
 obtain ⟨j, hj, rfl⟩ := List.getElem_of_mem h
 have hj2 : j < X.length := by simpa using hj
 rw [List.getElem_mapIdx]
 have h1 := hf j (by omega)
 have h2 := hx _ (List.getElem_mem hj2)
 split <;> omega
theorem Zhb {X G : List Int} {n : Nat} {b c : Int} (hl : X.length = n) (hg : G.length = n) (hx : ∀ x ∈ X, 0 ≤ x ∧ x ≤ b) (hy : ∀ x ∈ G, 0 ≤ x ∧ x ≤ c) : (Qk X 0 G).length = n ∧ ∀ x ∈ Qk X 0 G, 0 ≤ x ∧ x ≤ b + c := by
 have e1 : (Qk X 0 G).length = n := by rw [Jj, hl]
 refine ⟨e1, fun x h => ?_⟩
 obtain ⟨j, hj, rfl⟩ := List.getElem_of_mem h
 have h1 := Zdo (cols := X) (xs := G) (by omega) j
 have e2 : (Qk X 0 G)[j] = (Qk X 0 G).getD j 0 := by rw [List.getD_eq_getElem?_getD, List.getElem?_eq_getElem hj]; rfl
 have h2 := Yn hx j (by omega)
 have h3 := Yn hy j (by omega)
 omega
theorem Zja {total : Int} {ws : List Int} {n : Nat} (ht : 0 ≤ total ∧ total ≤ 300) (hl : ws.length = n) (hw : ∀ x ∈ ws, 0 ≤ x ∧ x ≤ 300) : (Jr total ws).1.length = n ∧ (∀ x ∈ (Jr total ws).1, 0 ≤ x ∧ x ≤ 300) ∧ 0 ≤ (Jr total ws).2 ∧ (Jr total ws).2 ≤ 300 := by
 obtain ⟨h1, h2, h3, h4, _⟩ := Zid ht.1 (fun x hx => (hw x hx).1)
 have h5 := Zaj h2
 exact ⟨h1.trans hl, fun x hx => ⟨h2 x hx, by have := Zby h2 x hx; omega⟩, h4, by omega⟩
theorem Zrb (t : Tbl) (A : Option Addr) (c : Nat) (A' : Option Addr) (c' : Nat) (gr : Int) (n : Nat) (cells : List Zl) (GA : Option Addr) (gc : Nat) (width : Int) (w : World) (hok : Qn t = true) (hw : Zb9 w) (hc : Rd Zbz w A t.cols) (hr : Rd Zbp w A' t.rows) (hG : Rd gcR w GA cells)
 (hn : 1 ≤ n ∧ n ≤ 90) (hcell : ∀ x ∈ cells, Zas n (fun c => Jq (Qb t c)) x ∧ Zaq t x ∧ 0 ≤ Jq (Qb t x))
 (hcell2 : ∀ x ∈ cells, Zas n (fun c => Zac (Qb t c)) x ∧ Zaq t x ∧ 0 ≤ Zac (Qb t x)) (hcl : cells.length ≤ 1000) (htc : t.cols.length ≤ n) (hwd : 0 ≤ width ∧ width ≤ 300) :
 Calls Tryz.prog 92 #[.agg #[.slice A t.cols.length c, .int .i64 t.head, .int .i64 t.foot, .slice A' t.rows.length c', .int .i64 t.gap], .agg #[.int .i64 gr, .int .i64 n, .slice GA cells.length gc], .int .i64 width] w fun e w' => ∃ v, e = .returned v ∧ Zn w' w.heap.size v (Za6 (Zw t) (Zbd t) width t.gap (Yf t cells n) (Zcb t cells n)) ∧ Below w.heap.size w w' := by
 have hg := (Zx hok).2.2.1
 have hE := fun (W : World) (h : Below w.heap.size w W) => Zj4 t A c A' c' gr n cells GA gc W (hw.below h) (hc.below h) (hr.below h) (hG.below h) hg ⟨hn.1, by omega⟩ hcell hcl htc
 have hH := fun (W : World) (h : Below w.heap.size w W) => Zrq t A c A' c' gr n cells GA gc W (hw.below h) (hc.below h) (hr.below h) (hG.below h) hg ⟨hn.1, by omega⟩ hcell hcell2 hcl htc
 obtain ⟨hlx, hbx⟩ := Zf3 hok hg.1 (fun x hx => (hcell x hx).1)
 obtain ⟨hly, hby⟩ := Zka hok hg.1 (fun x hx => (hcell x hx).1) (fun x hx => (hcell2 x hx).1)
 generalize Yf t cells n = X at hE hlx hbx hby ⊢
 generalize Zcb t cells n = Y at hH hly hby ⊢
 have HLX := Za hlx
 have HLY := Za hly
 have HBX := Za hbx
 have HBY := Za hby
 have HOK := Za hok
 have HC := Za hc
 clear hw hc hr hG hcell hcell2 hlx hly hbx hby hok
 go_enter Tryz.func92, Tryz.ntmps92
 have HB1 := Zc (Zc (Zc (Zf w) (.cells #[.slice A t.cols.length c, .int .i64 t.head, .int .i64 t.foot, .slice A' t.rows.length c', .int .i64 t.gap] 26)) (.cells #[.int .i64 gr, .int .i64 n, .slice GA cells.length gc] 39)) (.cells #[.int .i64 width] 3)
 have hzV : (((w.alloc (.cells #[.slice A t.cols.length c, .int .i64 t.head, .int .i64 t.foot, .slice A' t.rows.length c', .int .i64 t.gap] 26)).alloc (.cells #[.int .i64 gr, .int .i64 n, .slice GA cells.length gc] 39)).alloc (.cells #[.int .i64 width] 3)).heap.size = w.heap.size + 3 := by simp
 go_upto_region 1 with fail
 obtain ⟨V, hV⟩ : ∃ V, V = ((w.alloc (.cells #[.slice A t.cols.length c, .int .i64 t.head, .int .i64 t.foot, .slice A' t.rows.length c', .int .i64 t.gap] 26)).alloc (.cells #[.int .i64 gr, .int .i64 n, .slice GA cells.length gc] 39)).alloc (.cells #[.int .i64 width] 3) := ⟨_, rfl⟩
 have hKT : Zh V w.heap.size [.slice A t.cols.length c, .int .i64 t.head, .int .i64 t.foot, .slice A' t.rows.length c', .int .i64 t.gap] := by
  rw [hV]; exact ((Zh.new w [.slice A t.cols.length c, .int .i64 t.head, .int .i64 t.foot, .slice A' t.rows.length c', .int .i64 t.gap] 26).keep ((Zc (Zf _) _).block w.heap.size (by simp))).keep ((Zc (Zf _) _).block w.heap.size (by simp; omega))
 have hKG : Zh V (w.heap.size + 1) [.int .i64 gr, .int .i64 n, .slice GA cells.length gc] := by
  have h1 := Zh.new (w.alloc (.cells #[.slice A t.cols.length c, .int .i64 t.head, .int .i64 t.foot, .slice A' t.rows.length c', .int .i64 t.gap] 26)) [.int .i64 gr, .int .i64 n, .slice GA cells.length gc] 39
  have e1 : (w.alloc (.cells #[.slice A t.cols.length c, .int .i64 t.head, .int .i64 t.foot, .slice A' t.rows.length c', .int .i64 t.gap] 26)).heap.size = w.heap.size + 1 := by simp
  rw [e1] at h1
  rw [hV]; exact h1.keep ((Zc (Zf _) _).block (w.heap.size + 1) (by simp))
 have hKW : Zh V (w.heap.size + 2) [.int .i64 width] := by
  have h1 := Zh.new ((w.alloc (.cells #[.slice A t.cols.length c, .int .i64 t.head, .int .i64 t.foot, .slice A' t.rows.length c', .int .i64 t.gap] 26)).alloc (.cells #[.int .i64 gr, .int .i64 n, .slice GA cells.length gc] 39)) [.int .i64 width] 3
  have e1 : ((w.alloc (.cells #[.slice A t.cols.length c, .int .i64 t.head, .int .i64 t.foot, .slice A' t.rows.length c', .int .i64 t.gap] 26)).alloc (.cells #[.int .i64 gr, .int .i64 n, .slice GA cells.length gc] 39)).heap.size = w.heap.size + 2 := by simp
  rw [e1] at h1
  rw [hV]; exact h1
 rw [← hV] at HB1 hzV
 rw [← hV]
 have HKT := Za hKT
 have HKG := Za hKG
 have HKW := Za hKW
 clear hV
 have hq : (fun U : World => (U.cell? ⟨w.heap.size, 0, none⟩ = some (.slice A t.cols.length c) ∧ U.cell? ⟨w.heap.size, 1, none⟩ = some (.int .i64 t.head) ∧ U.cell? ⟨w.heap.size, 2, none⟩ = some (.int .i64 t.foot) ∧ U.cell? ⟨w.heap.size, 3, none⟩ = some (.slice A' t.rows.length c') ∧ U.cell? ⟨w.heap.size, 4, none⟩ = some (.int .i64 t.gap)) ∧ U.cell? ⟨w.heap.size + 1, 0, none⟩ = some (.int .i64 gr) ∧ U.cell? ⟨w.heap.size + 1, 1, none⟩ = some (.int .i64 n) ∧ U.cell? ⟨w.heap.size + 1, 2, none⟩ = some (.slice GA cells.length gc)) V := ⟨⟨hKT.1 0 _ rfl, hKT.1 1 _ rfl, hKT.1 2 _ rfl, hKT.1 3 _ rfl, hKT.1 4 _ rfl⟩, hKG.1 0 _ rfl, hKG.1 1 _ rfl, hKG.1 2 _ rfl⟩
 have HK : Hid (∀ U : World, Below V.heap.size V U → (fun U : World => (U.cell? ⟨w.heap.size, 0, none⟩ = some (.slice A t.cols.length c) ∧ U.cell? ⟨w.heap.size, 1, none⟩ = some (.int .i64 t.head) ∧ U.cell? ⟨w.heap.size, 2, none⟩ = some (.int .i64 t.foot) ∧ U.cell? ⟨w.heap.size, 3, none⟩ = some (.slice A' t.rows.length c') ∧ U.cell? ⟨w.heap.size, 4, none⟩ = some (.int .i64 t.gap)) ∧ U.cell? ⟨w.heap.size + 1, 0, none⟩ = some (.int .i64 gr) ∧ U.cell? ⟨w.heap.size + 1, 1, none⟩ = some (.int .i64 n) ∧ U.cell? ⟨w.heap.size + 1, 2, none⟩ = some (.slice GA cells.length gc)) U) := fun U h =>
  ⟨⟨Zg h hq.1.1, Zg h hq.1.2.1, Zg h hq.1.2.2.1, Zg h hq.1.2.2.2.1, Zg h hq.1.2.2.2.2⟩, Zg h hq.2.1, Zg h hq.2.2.1, Zg h hq.2.2.2⟩
 clear hKT hKG hKW
 have HZV := Za hzV
 clear hzV
 go_cut [7, 8] (fun s7 s8 wx => ∃ B1 B2 g cc g3 c3, s7 = .pointer (some ⟨B1, 0, none⟩) ∧ s8 = .pointer (some ⟨B2, 0, none⟩) ∧ Aside (Ze2 w V.heap.size n X Y B1 B2 g cc g3 c3 wx) ∧ Aside (Below V.heap.size V wx))
 case first =>
  go_region_held3 (fun U : World => (U.cell? ⟨w.heap.size, 0, none⟩ = some (.slice A t.cols.length c) ∧ U.cell? ⟨w.heap.size, 1, none⟩ = some (.int .i64 t.head) ∧ U.cell? ⟨w.heap.size, 2, none⟩ = some (.int .i64 t.foot) ∧ U.cell? ⟨w.heap.size, 3, none⟩ = some (.slice A' t.rows.length c') ∧ U.cell? ⟨w.heap.size, 4, none⟩ = some (.int .i64 t.gap)) ∧ U.cell? ⟨w.heap.size + 1, 0, none⟩ = some (.int .i64 gr) ∧ U.cell? ⟨w.heap.size + 1, 1, none⟩ = some (.int .i64 n) ∧ U.cell? ⟨w.heap.size + 1, 2, none⟩ = some (.slice GA cells.length gc)) (first | with_reducible assumption | (refine HK.out _ ?_; ((repeat' (with_reducible first | exact Zf _ | refine Zt ?_ | refine Zc ?_ _ | refine Yi ?_ ?_ _ | refine step ?_ (by with_reducible assumption))) <;> first | (simp; done) | (simp; omega)))) (first
   | (go_simp; go_at_call 157; refine (hE _ ?_).mono ?_; ((repeat' (with_reducible first | exact HB1 | exact Zf _ | refine Zt ?_ | refine Zc ?_ _ | refine Yi ?_ ?_ _ | refine step ?_ (by with_reducible assumption))) <;> first | (simp; done) | (simp; omega)); rintro e w7 ⟨v7, rfl, hO7, hb7⟩; obtain ⟨g7, c7, rfl, hg7, hl7, _, _⟩ := hO7.at (by rw [HLX.out]; omega); rw [HLX.out]; rw [HLX.out] at hO7; have HO7 := Za hO7; clear hO7; have z7 := hb7.size; (try simp at z7); (try simp at hg7); (try (refine Zdm (V.heap.size) hb7 ?_ ?_; (focus (first | (simp; done) | (simp; omega) | omega)); intro ca0 fa0 sa0)); (try (refine Zdm (V.heap.size + 1) hb7 ?_ ?_; (focus (first | (simp; done) | (simp; omega) | omega)); intro ca1 fa1 sa1)); simp only [])
   | (go_simp; go_at_call 158; refine (hH _ ?_).mono ?_; ((repeat' (with_reducible first | exact HB1 | exact Zf _ | refine Zt ?_ | refine Zc ?_ _ | refine Yi ?_ ?_ _ | refine step ?_ (by with_reducible assumption))) <;> first | (simp; done) | (simp; omega)); rintro e w8 ⟨v8, rfl, hO8, hb8⟩; obtain ⟨g8, c8, rfl, hg8, hl8, _, _⟩ := hO8.at (by rw [HLY.out]; omega); rw [HLY.out]; rw [HLY.out] at hO8; have HO8 := Za hO8; clear hO8; have z8 := hb8.size; (try simp at z8); (try simp at hg8); (try (refine Zdm (V.heap.size) hb8 ?_ ?_; (focus (first | (simp; done) | (simp; omega) | omega)); intro cb0 fb0 sb0)); (try (refine Zdm (V.heap.size + 1) hb8 ?_ ?_; (focus (first | (simp; done) | (simp; omega) | omega)); intro cb1 fb1 sb1)); (try (refine Zdm (w7.heap.size) hb8 ?_ ?_; (focus (first | (simp; done) | (simp; omega) | omega)); intro cb2 fb2 sb2)); (try (refine Zdm (w7.heap.size + 1) hb8 ?_ ?_; (focus (first | (simp; done) | (simp; omega) | omega)); intro cb3 fb3 sb3)); simp only []))
  all_goals (go_wp2_with fail; go_meet)
  all_goals
   have P7 : Zn w7 V.heap.size (.slice (some ⟨g7, 0, none⟩) n c7) X := HO7.out.base (by first | (simp; done) | (simp; omega) | omega)
   have P8 : Zn w8 V.heap.size (.slice (some ⟨g8, 0, none⟩) n c8) Y := HO8.out.base (by first | (simp; done) | (simp; omega) | omega)
   refine ⟨_, _, g7, c7, g8, c8, rfl, rfl, (show Aside _ from ⟨?_, ?_, ?_, ?_, ?_, ?_⟩), (show Aside _ from ?_)⟩
   · first | (simp; done) | (simp [*]; done) | (simp [go_sem, *]; done)
   · first | (simp; done) | (simp [*]; done) | (simp [go_sem, *]; done)
   · (repeat' (with_reducible first | exact P7 | refine Zn.other ?_ ?_ _ | refine Zn.below ?_ (Zc (Zf _) _) | refine Zn.below ?_ (Zt (Zf _)) | refine Zn.below ?_ (by with_reducible assumption))) <;> first | omega | (simp; omega)
   · (repeat' (with_reducible first | exact P8 | refine Zn.other ?_ ?_ _ | refine Zn.below ?_ (Zc (Zf _) _) | refine Zn.below ?_ (Zt (Zf _)) | refine Zn.below ?_ (by with_reducible assumption))) <;> first | omega | (simp; omega)
   · first | omega | (simp; omega)
   · first | omega | (simp; omega)
   show Below _ _ _
   (repeat' (with_reducible first | exact Zf V | refine Zt ?_ | refine Zc ?_ _ | refine Yi ?_ ?_ _ | refine step ?_ (by with_reducible assumption))) <;> first | (simp; done) | (simp; omega) | omega
 case rest =>
 obtain ⟨B1, B2, g, cc, g3, c3, rfl, rfl, HVR, HBC⟩ := hcut
 obtain ⟨U, rfl⟩ : ∃ U : World, U = wc := ⟨_, rfl⟩
 clear hE hH
 have v1 := HVR.out.v1
 have zW : U.cell? ⟨w.heap.size + 2, 0, none⟩ = some (.int .i64 width) := Zg HBC.out (HKW.out.1 0 _ rfl)
 have zG : U.cell? ⟨w.heap.size, 4, none⟩ = some (.int .i64 t.gap) := Zg HBC.out (HKT.out.1 4 _ rfl)
 have hWD := fun (W : World) (h : Below U.heap.size U W) => Zl8 (some ⟨g, 0, none⟩) cc X t.gap W (by have h9 := HVR.out.o1; rw [← HLX.out] at h9; exact (Qq h9).below h) (fun x hx => by have := HBX.out x hx; omega) (by have := HLX.out; omega) hg
 rw [HLX.out] at hWD
 obtain ⟨s1, s2⟩ := Zey 60 X HBX.out
 obtain ⟨wd, hwd⟩ : ∃ wd, Zau t.gap X = wd := ⟨_, rfl⟩
 have hwd1 : 0 ≤ wd ∧ wd ≤ 6000 := by
  have hl := HLX.out
  have hm := Int.mul_nonneg hg.1 (show 0 ≤ max ((X.length : Int) - 1) 0 by omega)
  have hm2 : t.gap * max ((X.length : Int) - 1) 0 ≤ 3 * max ((X.length : Int) - 1) 0 := Int.mul_le_mul_of_nonneg_right hg.2 (by omega)
  have hw : wd = Zq X + t.gap * max ((X.length : Int) - 1) 0 := hwd.symm
  omega
 rw [hwd] at hWD
 obtain ⟨lf, hlf⟩ : ∃ lf, width - wd = lf := ⟨_, rfl⟩
 have t1 : IntKind.i64.wrap (width - wd) = lf := by rw [hlf, IntKind.wrap_i64]; omega
 have HRES : Hid (Za6 (Zw t) (Zbd t) width t.gap X Y = if lf ≤ 0 then X else Zc8 (Zw t) (Zfa (Zw t) Y (Qk X 0 (Jr lf (Jy t 2 (fun k => width * Zbd t k / 100) X)).1, (Jr lf (Jy t 2 (fun k => width * Zbd t k / 100) X)).2))) := by
  show _ = _
  rw [← hlf, ← hwd]
  rfl
 have hlf1 : lf ≤ 300 := by omega
 have HLF := Za hlf
 clear s1 s2 hwd hwd1 hlf
 go_upto_region 2 with fail
 go_cut [9] from 9 to 28 (fun s9 wx => s9 = .int .i64 lf ∧ Aside (Below U.heap.size U wx))
 case first =>
  go_region_with (go_at_call 94; refine (hWD _ ?_).mono ?_; (first | exact Zf _ | exact Zt (Zf _)); rintro e w2 ⟨rfl, hb2⟩; have x1 : w2.cell? ⟨w.heap.size + 2, 0, none⟩ = some (.int .i64 width) := Zg hb2 (by simp [*]))
  all_goals
   go_wp2_with fail
   go_meet
   refine ⟨rfl, (show Aside _ from ?_)⟩
   show Below _ _ _
   (repeat' (with_reducible first | exact Zf _ | refine Zt ?_ | refine step ?_ (by with_reducible assumption)))
 case rest =>
 obtain ⟨rfl, HB2⟩ := hcut
 obtain ⟨U2, rfl⟩ : ∃ U2 : World, U2 = wc := ⟨_, rfl⟩
 have HV2 := Za (HVR.out.below HB2.out)
 have HBV := Za (step HBC.out HB2.out)
 clear v1 zW zG hWD t1 HVR
 have w1 := HV2.out.v1
 by_cases hle : lf ≤ 0
 ·
  have hres := HRES.out
  rw [if_pos hle] at hres
  have HR1 := Za hres
  clear hres
  go_wp2_with fail
  go_ret
  exact ⟨_, rfl, by rw [HR1.out]; exact HV2.out.o1.base HB1.size, step HB1 HBV.out⟩
 have hres := HRES.out
 rw [if_neg hle] at hres
 have HR1 := Za hres
 clear hres HRES
 have hmf := @Zhu Tryz.prog
 have heg1 : ∀ args w, (callFunc 159 args).run Tryz.prog w = .ok (.enter 159 args) w := enters_of Tryz.func159 (by kernel_rfl) rfl
 have HWU := Za (step HB1 HBV.out)
 have hC2 := HC.out.below HWU.out
 have hT2 : Zh U2 w.heap.size [.slice A t.cols.length c, .int .i64 t.head, .int .i64 t.foot, .slice A' t.rows.length c', .int .i64 t.gap] := HKT.out.keep (HBV.out.block _ (by rw [HZV.out]; omega))
 have hW2 : U2.cell? ⟨w.heap.size + 1 + 1, 0, none⟩ = some (.int .i64 width) := Zg HBV.out (HKW.out.1 0 _ rfl)
 have hz2 : V.heap.size ≤ U2.heap.size := HBV.out.size
 have hzv : V.heap.size = w.heap.size + 3 := HZV.out
 have hgU : g < U2.heap.size := by
  obtain ⟨g', c2, e, _, h2, _⟩ := HV2.out.o1.at (by rw [HLX.out]; exact hn.1)
  injection e with e; injection e with e; injection e with e; omega
 have hgV : V.heap.size ≤ g := HV2.out.lo.2.2.1
 have heg2 : ∀ args w, (callFunc 162 args).run Tryz.prog w = .ok (.enter 162 args) w := enters_of Tryz.func162 (by kernel_rfl) rfl
 have heg3 : ∀ args w, (callFunc 164 args).run Tryz.prog w = .ok (.enter 164 args) w := enters_of Tryz.func164 (by kernel_rfl) rfl
 have hw1 := Zkp t A c A' c' 2 162 #[.pointer (some ⟨w.heap.size + 1 + 1, 0, none⟩), .pointer (some ⟨w.heap.size, 0, none⟩)] (fun k => width * Zbd t k / 100) B1 w.heap.size g cc n V.heap.size X U2 hC2 w1 hT2 HV2.out.o1 HLX.out ⟨hn.1, by omega⟩ (fun x hx => by have := HBX.out x hx; omega) heg2
  (fun W k hb hk => Zrk t A c A' c' k (w.heap.size + 1 + 1) w.heap.size width W HOK.out (hC2.below hb) (Zg hb hW2) (hT2.keep (hb.block _ (by omega))) (by omega) hwd) (fun k hk => by have := Zm4 HOK.out hwd k; omega)
 obtain ⟨pl, pb⟩ := Zf4 (t := t) (q := 2) (f := fun k => width * Zbd t k / 100) HLX.out (fun x hx => (HBX.out x hx).1) (fun k _ => (Zm4 HOK.out hwd k).2)
 have hr1 := HR1.out
 generalize Jy t 2 (fun k => width * Zbd t k / 100) X = P1 at hw1 pl pb hr1
 obtain ⟨ql, qb, qs, qt⟩ := Zja (total := lf) (ws := P1) ⟨by omega, hlf1⟩ pl pb
 obtain ⟨p1, hp1⟩ : ∃ p, Jr lf P1 = p := ⟨_, rfl⟩
 rw [hp1] at hr1 ql qb qs qt
 obtain ⟨G1, l1⟩ := p1
 dsimp only at hr1 ql qb qs qt
 have HP1 := Za hp1
 have HPL := Za pl
 have HPB := Za pb
 have HQB := Za qb
 have HQL := Za ql
 have HR2 := Za hr1
 clear hr1 HR1 hp1 pb qb pl ql
 go_wp2_with fail
 refine hw1.mono ?_
 rintro e U3 ⟨v3, rfl, hI3, hb3⟩
 obtain ⟨A3, d3, rfl⟩ := hI3.form
 have hup := Zht lf U2.heap.size A3 d3 P1 U3 hI3 ⟨⟨by omega, by omega⟩, fun x hx => by have := HPB.out x hx; omega, by rw [HPL.out]; omega⟩ (by rw [HPL.out]; omega)
 rw [HP1.out] at hup
 have HV3 := Za (HV2.out.below hb3)
 have HWU3 := Za (step HWU.out hb3)
 have HT3 := Za (hT2.keep (hb3.block w.heap.size (by omega)))
 have hz3 : U2.heap.size ≤ U3.heap.size := hb3.size
 clear hw1 w1 hI3 hb3 hC2 hW2 hT2
 go_wp2_with fail
 refine hup.mono ?_
 rintro e U4 ⟨v4, rfl, hI4, hb4⟩
 obtain ⟨g4, c4, rfl, hg4, hl4, _, _⟩ := hI4.at (by show 0 < G1.length; rw [HQL.out]; omega)
 rw [show (G1, l1).1.length = n from HQL.out] at hI4 ⊢
 have HV4 := Za (HV3.out.below hb4)
 have HWU4 := Za (step HWU3.out hb4)
 have HT4 := Za (HT3.out.keep (hb4.block w.heap.size (by omega)))
 have hz4 : U3.heap.size ≤ U4.heap.size := hb4.size
 have w4 := HV4.out.v1
 have hne4 : g ≠ g4 := by omega
 have had := Zhg V.heap.size U3.heap.size g cc n g4 c4 X G1 U4 HV4.out.o1 hI4 HLX.out HQL.out hne4 (by omega) hgV (fun x hx => by have := HBX.out x hx; omega) (fun x hx => by have := HQB.out x hx; omega)
 clear hup hI4 hb4 HP1 HPL HPB
 go_wp2_with fail
 refine had.mono ?_
 rintro e U5 ⟨rfl, hO5, hG5⟩
 obtain ⟨xl, xb⟩ := Zhb HLX.out HQL.out HBX.out HQB.out
 have HV5 := Za (HV4.out.grown hG5 hO5 hn.1 HLY.out)
 have HWU5 : Hid (Below w.heap.size w U5) := HWU4.out.trans (Qg hG5 (by omega) (fun k e => by injection e with e; omega))
 have hz5 : U4.heap.size ≤ U5.heap.size := hG5.size
 have HT5 := Za (HT4.out.keep (hG5.block w.heap.size (by omega) (fun e => by injection e with e; omega)))
 have hC5 := HC.out.below HWU5.out
 have hX1e : Qk X 0 G1 = Qk X 0 G1 := rfl
 obtain ⟨X1, hX1⟩ : ∃ X1, Qk X 0 G1 = X1 := ⟨_, rfl⟩
 rw [hX1] at xl xb HV5
 have hr2 := HR2.out
 rw [hX1] at hr2
 have hau : Zfa (Zw t) Y (X1, l1) = (Qk X1 0 (Jr l1 (Jy t 0 (fun k => Y.getD k 0) X1)).1, (Jr l1 (Jy t 0 (fun k => Y.getD k 0) X1)).2) := rfl
 rw [hau] at hr2
 clear hau hX1e hX1 had hO5 hG5 HR2 w4 hne4
 have w5 := HV5.out.v1
 have w5' := HV5.out.v2
 have o5 := HV5.out.o2
 have hw2 := Zkp t A c A' c' 0 164 #[.pointer (some ⟨B2, 0, none⟩)] (fun k => Y.getD k 0) B1 w.heap.size g cc n V.heap.size X1 U5 hC5 w5 HT5.out HV5.out.o1 xl ⟨hn.1, by omega⟩ (fun x hx => by have := xb x hx; omega) heg3
  (fun W k hb hk => Zr4 k B2 g3 c3 n V.heap.size Y W (Zg hb w5') (o5.below hb) HLY.out hk (by omega)) (fun k hk => by have := Yn HBY.out k (by rw [HLY.out]; exact hk); omega)
 obtain ⟨pl, pb⟩ := Zf4 (t := t) (q := 0) (f := fun k => Y.getD k 0) xl (fun x hx => (xb x hx).1) (fun k hk => by have := Yn HBY.out k (by rw [HLY.out]; exact hk); show Y.getD k 0 ≤ 300; omega)
 generalize Jy t 0 (fun k => Y.getD k 0) X1 = P2 at hw2 pl pb hr2
 obtain ⟨ql, qb, qs2, qt2⟩ := Zja (total := l1) (ws := P2) ⟨qs, qt⟩ pl pb
 obtain ⟨p2, hp2⟩ : ∃ p, Jr l1 P2 = p := ⟨_, rfl⟩
 rw [hp2] at hr2 ql qb qs2 qt2
 obtain ⟨G2, l2⟩ := p2
 dsimp only at hr2 ql qb qs2 qt2
 have HP2 := Za hp2
 have HPL := Za pl
 have HPB := Za pb
 have HQB2 := Za qb
 have HQL2 := Za ql
 have HXL := Za xl
 have HXB := Za xb
 have HR3 := Za hr2
 clear hr2 hp2 pb qb pl ql xl xb w5' o5
 go_wp2_with fail
 refine hw2.mono ?_
 rintro e U6 ⟨v6, rfl, hI6, hb6⟩
 obtain ⟨A6, d6, rfl⟩ := hI6.form
 have hup := Zht l1 U5.heap.size A6 d6 P2 U6 hI6 ⟨⟨qs, by omega⟩, fun x hx => by have := HPB.out x hx; omega, by rw [HPL.out]; omega⟩ (by rw [HPL.out]; omega)
 rw [HP2.out] at hup
 have HV6 := Za (HV5.out.below hb6)
 have HWU6 := Za (step HWU5.out hb6)
 have hz6 : U5.heap.size ≤ U6.heap.size := hb6.size
 have HT6 := Za (HT5.out.keep (hb6.block w.heap.size (by omega)))
 clear hw2 w5 hI6 hb6 hC5
 go_wp2_with fail
 refine hup.mono ?_
 rintro e U7 ⟨v7, rfl, hI7, hb7⟩
 obtain ⟨g7, c7, rfl, hg7, hl7, _, _⟩ := hI7.at (by show 0 < G2.length; rw [HQL2.out]; omega)
 rw [show (G2, l2).1.length = n from HQL2.out] at hI7 ⊢
 have HV7 := Za (HV6.out.below hb7)
 have HWU7 := Za (step HWU6.out hb7)
 have hz7 : U6.heap.size ≤ U7.heap.size := hb7.size
 have HT7 := Za (HT6.out.keep (hb7.block w.heap.size (by omega)))
 have w7 := HV7.out.v1
 have hne7 : g ≠ g7 := by omega
 have had := Zhg V.heap.size U6.heap.size g cc n g7 c7 X1 G2 U7 HV7.out.o1 hI7 HXL.out HQL2.out hne7 (by omega) hgV (fun x hx => by have := HXB.out x hx; omega) (fun x hx => by have := HQB2.out x hx; omega)
 clear hup hI7 hb7 HP2 HPL HPB
 go_wp2_with fail
 refine had.mono ?_
 rintro e U8 ⟨rfl, hO8, hG8⟩
 obtain ⟨xl, xb⟩ := Zhb HXL.out HQL2.out HXB.out HQB2.out
 have HV8 := Za (HV7.out.grown hG8 hO8 hn.1 HLY.out)
 have HWU8 : Hid (Below w.heap.size w U8) := HWU7.out.trans (Qg hG8 (by omega) (fun k e => by injection e with e; omega))
 have hz8 : U7.heap.size ≤ U8.heap.size := hG8.size
 have HT8 := Za (HT7.out.keep (hG8.block w.heap.size (by omega) (fun e => by injection e with e; omega)))
 obtain ⟨X2, hX2⟩ : ∃ X2, Qk X1 0 G2 = X2 := ⟨_, rfl⟩
 rw [hX2] at xl xb HV8
 have hr3 := HR3.out
 rw [hX2] at hr3
 have HR4 := Za hr3
 have HXL2 := Za xl
 have HXB2 := Za xb
 clear hr3 HR3 hX2 had hO8 hG8 w7 hne7 xl xb
 obtain ⟨D, hD⟩ : ∃ D, D = U8.alloc (.cells #[.int .i64 0, .int .i64 2] 3) := ⟨_, rfl⟩
 have eD : Below U8.heap.size U8 D := by rw [hD]; exact Zc (Zf _) _
 have hDc0 : D.cell? ⟨U8.heap.size, 0, none⟩ = some (.int .i64 0) := by rw [hD]; exact (Zh.new U8 [.int .i64 0, .int .i64 2] 3).1 0 _ rfl
 have hDc1 : D.cell? ⟨U8.heap.size, 1, none⟩ = some (.int .i64 2) := by rw [hD]; exact (Zh.new U8 [.int .i64 0, .int .i64 2] 3).1 1 _ rfl
 have hzD : D.heap.size = U8.heap.size + 1 := by rw [hD]; simp
 have HVD := Za (HV8.out.below eD)
 have HWD := Za (step HWU8.out eD)
 have HTD := Za (HT8.out.keep (eD.block w.heap.size (by omega)))
 have HDC0 := Za hDc0
 have HDC1 := Za hDc1
 have HD := Za hD
 clear hD eD hDc0 hDc1
 go_wp2_with fail
 rw [← HD.out]
 go_loopg [13, 14, 15, 56] 2 (fun gg s13 s14 s15 s56 wr => ∃ i : Nat, i ≤ 2 ∧ 2 - i ≤ gg ∧ s56 = .int .i64 i ∧ Aside (Below D.heap.size D wr) ∧ (1 ≤ i → ¬ 0 < Zq (Zu (Zw t) 0 n)) ∧ (2 ≤ i → ¬ 0 < Zq (Zu (Zw t) 2 n)))
 case atStart => exact ⟨0, by omega, by omega, rfl, Zf _, fun h => by omega, fun h => by omega⟩
 obtain ⟨i, hi, hgi, rfl, HBR, n0, n2⟩ := hrel
 have hVR := HVD.out.below HBR.out
 have hTR := HTD.out.keep (HBR.out.block w.heap.size (by omega))
 have hWR := step HWD.out HBR.out
 have w1 := hVR.v1
 have g0 := hTR.1 0 _ rfl
 have g1 := hTR.1 1 _ rfl
 have g2 := hTR.1 2 _ rfl
 have g3 := hTR.1 3 _ rfl
 have g4 := hTR.1 4 _ rfl
 have HVR := Za hVR
 have HTR := Za hTR
 have HWR := Za hWR
 have hzR : D.heap.size ≤ wr.heap.size := HBR.out.size
 clear hVR hTR hWR
 obtain rfl|rfl|rfl : i = 0 ∨ i = 1 ∨ i = 2 := by omega
 ·
  have hc0 : wr.cell? ⟨U8.heap.size, 0, none⟩ = some (.int .i64 0) := Zg HBR.out HDC0.out
  have hal := Zjw t A c A' c' n 0 wr (HC.out.below HWR.out) ⟨hn.1, by omega⟩
  obtain ⟨kl, kb⟩ := Zfw (Zw t) 0 n
  by_cases h0 : 0 < Zq (Zu (Zw t) 0 n)
  ·
   have hrw : Zc8 (Zw t) (X2, l2) = Qk X2 0 (Ye l2 (Zu (Zw t) 0 n)) := by
    unfold Zc8; dsimp only; rw [HXL2.out, if_pos h0]
   obtain ⟨sl, ss, sn⟩ := Zaz (total := l2) (ws := Zu (Zw t) 0 n) qs2 (fun x hx => (kb x hx).1) (by intro e; rw [e] at kl; simp at kl; omega)
   rw [decide_eq_true h0] at hal
   rw [kl] at sl
   have sb : ∀ x ∈ Ye l2 (Zu (Zw t) 0 n), 0 ≤ x ∧ x ≤ 300 := fun x hx => ⟨sn x hx, by have := Zby sn x hx; omega⟩
   have HRW := Za (HR4.out.trans hrw)
   generalize hws : Zu (Zw t) 0 n = ws at hal kl kb sl sb HRW
   have HKB := Za kb
   have HKL := Za kl
   clear hws hrw ss sn n0 n2 h0 kb kl
   go_wp2_with fail
   refine hal.mono ?_
   rintro e Z1 ⟨v9, rfl, hO9, hb9⟩
   obtain ⟨g9, c9, rfl, hg9, hl9, _, _⟩ := hO9.at (by rw [HKL.out]; omega)
   have hsh := fun (W : World) (h : Below Z1.heap.size Z1 W) => Zcw l2 (some ⟨g9, 0, none⟩) c9 ws W ((Qq hO9).below h) ⟨⟨qs2, by omega⟩, fun x hx => by have := HKB.out x hx; omega, by rw [HKL.out]; omega⟩ (by rw [HKL.out]; omega)
   rw [HKL.out] at hsh ⊢
   have HVZ := Za (HVR.out.below hb9)
   have HWZ := Za (step HWR.out hb9)
   have hz9 : wr.heap.size ≤ Z1.heap.size := hb9.size
   generalize Ye l2 ws = SH at hsh sl sb HRW
   have HSB := Za sb
   have HSL := Za sl
   have hadd := fun (W : World) (h : Below Z1.heap.size Z1 W) (base gs cs : Nat) (hO : Zn W base (.slice (some ⟨gs, 0, none⟩) n cs) SH) (hne : g ≠ gs) => Zhg V.heap.size base g cc n gs cs X2 SH W (HVZ.out.o1.below h) hO HXL2.out HSL.out hne (by omega) hgV (fun x hx => by have := HXB2.out x hx; omega) (fun x hx => by have := HSB.out x hx; omega)
   have y1 := HVZ.out.v1
   have hB1 : B1 < Z1.heap.size := World.block_lt_of_cell? Z1 _ y1
   have hB1g : B1 ≠ g := HVZ.out.ne.1
   clear hal hO9 hb9 w1 g0 g1 g2 g3 g4 hc0 sb sl
   go_upto_region 15 with fail
   go_region_with (first
    | (go_at_call 166; refine (hsh _ ?_).mono ?_; (first | exact Zf _ | exact Zt (Zf _)); rintro e Z2 ⟨v10, rfl, hO10, hb10⟩; obtain ⟨g10, c10, rfl, hg10, hl10, _, _⟩ := hO10.at (by rw [HSL.out]; omega); rw [HSL.out]; rw [HSL.out] at hO10; have x1 : Z2.cell? ⟨B1, 0, none⟩ = some (.slice (some ⟨g, 0, none⟩) n cc) := Zg hb10 (by simp [*]); have hz10 := hb10.size; (try simp at hz10); (try simp at hg10))
    | (go_at_call 163; refine (hadd _ ?_ _ g10 c10 hO10 (by omega)).mono ?_; (first | exact step (Zf _) hb10 | exact step (Zt (Zf _)) hb10); rintro e Z3 ⟨rfl, hO11, hG11⟩; have x2 : Z3.cell? ⟨B1, 0, none⟩ = some (.slice (some ⟨g, 0, none⟩) n cc) := (World.cell?_of_block (hG11.block B1 (by omega) (fun e => by injection e with e; omega))).trans x1))
   all_goals
    go_wp2_with fail
    go_ret
    refine ⟨_, rfl, by rw [HRW.out]; exact hO11.base (by omega), ?_⟩
    have hbz : Below Z1.heap.size Z1 Z2 := by first | exact step (Zf _) hb10 | exact step (Zt (Zf _)) hb10
    exact (step HWZ.out hbz).trans (Qg hG11 (by omega) (fun k e => by injection e with e; omega))
  rw [decide_eq_false h0] at hal
  go_wp2_with fail
  refine hal.mono ?_
  rintro e Z1 ⟨v9, rfl, hO9, hb9⟩
  obtain ⟨A9, c9, rfl⟩ := hO9.form
  have HBR2 := Za (step HBR.out hb9)
  clear hal hO9 hb9 w1 g0 g1 g2 g3 g4 hc0
  go_wp2_with fail
  go_roundg (2 - (0 + 1))
  case measure => omega
  case rel => exact ⟨0 + 1, by omega, by omega, by go_num, HBR2.out, fun _ => h0, fun h => by omega⟩
 ·
  have hc0 : wr.cell? ⟨U8.heap.size, 1, none⟩ = some (.int .i64 2) := Zg HBR.out HDC1.out
  have hal := Zjw t A c A' c' n 2 wr (HC.out.below HWR.out) ⟨hn.1, by omega⟩
  obtain ⟨kl, kb⟩ := Zfw (Zw t) 2 n
  by_cases h0 : 0 < Zq (Zu (Zw t) 2 n)
  ·
   have hrw : Zc8 (Zw t) (X2, l2) = Qk X2 0 (Ye l2 (Zu (Zw t) 2 n)) := by
    unfold Zc8; dsimp only; rw [HXL2.out, if_neg (n0 (by omega)), if_pos h0]
   obtain ⟨sl, ss, sn⟩ := Zaz (total := l2) (ws := Zu (Zw t) 2 n) qs2 (fun x hx => (kb x hx).1) (by intro e; rw [e] at kl; simp at kl; omega)
   rw [decide_eq_true h0] at hal
   rw [kl] at sl
   have sb : ∀ x ∈ Ye l2 (Zu (Zw t) 2 n), 0 ≤ x ∧ x ≤ 300 := fun x hx => ⟨sn x hx, by have := Zby sn x hx; omega⟩
   have HRW := Za (HR4.out.trans hrw)
   generalize hws : Zu (Zw t) 2 n = ws at hal kl kb sl sb HRW
   have HKB := Za kb
   have HKL := Za kl
   clear hws hrw ss sn n0 n2 h0 kb kl
   go_wp2_with fail
   refine hal.mono ?_
   rintro e Z1 ⟨v9, rfl, hO9, hb9⟩
   obtain ⟨g9, c9, rfl, hg9, hl9, _, _⟩ := hO9.at (by rw [HKL.out]; omega)
   have hsh := fun (W : World) (h : Below Z1.heap.size Z1 W) => Zcw l2 (some ⟨g9, 0, none⟩) c9 ws W ((Qq hO9).below h) ⟨⟨qs2, by omega⟩, fun x hx => by have := HKB.out x hx; omega, by rw [HKL.out]; omega⟩ (by rw [HKL.out]; omega)
   rw [HKL.out] at hsh ⊢
   have HVZ := Za (HVR.out.below hb9)
   have HWZ := Za (step HWR.out hb9)
   have hz9 : wr.heap.size ≤ Z1.heap.size := hb9.size
   generalize Ye l2 ws = SH at hsh sl sb HRW
   have HSB := Za sb
   have HSL := Za sl
   have hadd := fun (W : World) (h : Below Z1.heap.size Z1 W) (base gs cs : Nat) (hO : Zn W base (.slice (some ⟨gs, 0, none⟩) n cs) SH) (hne : g ≠ gs) => Zhg V.heap.size base g cc n gs cs X2 SH W (HVZ.out.o1.below h) hO HXL2.out HSL.out hne (by omega) hgV (fun x hx => by have := HXB2.out x hx; omega) (fun x hx => by have := HSB.out x hx; omega)
   have y1 := HVZ.out.v1
   have hB1 : B1 < Z1.heap.size := World.block_lt_of_cell? Z1 _ y1
   have hB1g : B1 ≠ g := HVZ.out.ne.1
   clear hal hO9 hb9 w1 g0 g1 g2 g3 g4 hc0 sb sl
   go_upto_region 15 with fail
   go_region_with (first
    | (go_at_call 166; refine (hsh _ ?_).mono ?_; (first | exact Zf _ | exact Zt (Zf _)); rintro e Z2 ⟨v10, rfl, hO10, hb10⟩; obtain ⟨g10, c10, rfl, hg10, hl10, _, _⟩ := hO10.at (by rw [HSL.out]; omega); rw [HSL.out]; rw [HSL.out] at hO10; have x1 : Z2.cell? ⟨B1, 0, none⟩ = some (.slice (some ⟨g, 0, none⟩) n cc) := Zg hb10 (by simp [*]); have hz10 := hb10.size; (try simp at hz10); (try simp at hg10))
    | (go_at_call 163; refine (hadd _ ?_ _ g10 c10 hO10 (by omega)).mono ?_; (first | exact step (Zf _) hb10 | exact step (Zt (Zf _)) hb10); rintro e Z3 ⟨rfl, hO11, hG11⟩; have x2 : Z3.cell? ⟨B1, 0, none⟩ = some (.slice (some ⟨g, 0, none⟩) n cc) := (World.cell?_of_block (hG11.block B1 (by omega) (fun e => by injection e with e; omega))).trans x1))
   all_goals
    go_wp2_with fail
    go_ret
    refine ⟨_, rfl, by rw [HRW.out]; exact hO11.base (by omega), ?_⟩
    have hbz : Below Z1.heap.size Z1 Z2 := by first | exact step (Zf _) hb10 | exact step (Zt (Zf _)) hb10
    exact (step HWZ.out hbz).trans (Qg hG11 (by omega) (fun k e => by injection e with e; omega))
  rw [decide_eq_false h0] at hal
  go_wp2_with fail
  refine hal.mono ?_
  rintro e Z1 ⟨v9, rfl, hO9, hb9⟩
  obtain ⟨A9, c9, rfl⟩ := hO9.form
  have HBR2 := Za (step HBR.out hb9)
  clear hal hO9 hb9 w1 g0 g1 g2 g3 g4 hc0
  go_wp2_with fail
  go_roundg (2 - (1 + 1))
  case measure => omega
  case rel => exact ⟨1 + 1, by omega, by omega, by go_num, HBR2.out, fun _ => n0 (by omega), fun _ => h0⟩
 have hrw : Zc8 (Zw t) (X2, l2) = X2 := by
  unfold Zc8; dsimp only; rw [HXL2.out, if_neg (n0 (by omega)), if_neg (n2 (by omega))]
 have HRW := Za (HR4.out.trans hrw)
 clear hrw n0 n2 g0 g1 g2 g3 g4
 go_wp2_with fail
 go_ret
 exact ⟨_, rfl, by rw [HRW.out]; exact HVR.out.o1.base (by omega), HWR.out⟩
end Go.Proofs.YtgdmcmicfoamlaaGreatDoor
