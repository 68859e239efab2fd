import Derived.Test.YtpfagdmmhgcmnaaGreatDoorMixZR9av
import Derived.Deep.RegionHeld3
import Derived.Deep.DeepCutAuto
import Derived.Outline
import Derived.Test.YtpfagdmmhgcmnaaGreatDoorMixZR9au
import Derived.Test.YtpfagdmmhgcmnaaGreatDoorMixZR9ah
set_option linter.unusedVariables false
set_option linter.unusedSimpArgs false
namespace Go.Proofs.YtpfagdmmhgcmnaaGreatDoor
open Go.RowKit
/- How wide columns are: the program's cols. -/
theorem withSeen2 {W w1 : World} {G : Prop} (B : Nat) (hb : Below W.heap.size W w1) (hB : B < W.heap.size) (k : (∀ o, w1.cell? ⟨B, o, none⟩ = W.cell? ⟨B, o, none⟩) → (∀ o, w1.frozen? ⟨B, o, none⟩ = W.frozen? ⟨B, o, none⟩) → B < w1.heap.size → G) : G :=
  k (seenBk B hB hb).1 (seenBk B hB hb).2.1 (seenBk B hB hb).2.2
/-- What stands behind the program's first line of cols: both rows, and the variables that hold them. -/
structure ColsVar (w : World) (base n : Nat) (X Y : List Int) (B1 B2 g cc g3 c3 : Nat) (U : World) : Prop where
  v1 : U.cell? ⟨B1, 0, none⟩ = some (.slice (some ⟨g, 0, none⟩) n cc)
  v2 : U.cell? ⟨B2, 0, none⟩ = some (.slice (some ⟨g3, 0, none⟩) n c3)
  o1 : IOwn U base (.slice (some ⟨g, 0, none⟩) n cc) X
  o2 : IOwn U base (.slice (some ⟨g3, 0, none⟩) n c3) Y
  lo : base ≤ B1 ∧ base ≤ B2 ∧ base ≤ g ∧ base ≤ g3
  ne : B1 ≠ g ∧ B2 ≠ g ∧ g ≠ g3
theorem ColsVar.below {w : World} {base n : Nat} {X Y : List Int} {B1 B2 g cc g3 c3 : Nat} {U U' : World} (h : ColsVar w base n X Y B1 B2 g cc g3 c3 U) (hb : Below U.heap.size U U') : ColsVar w base n X Y B1 B2 g cc g3 c3 U' :=
  ⟨keepW hb h.v1, keepW hb h.v2, h.o1.below hb, h.o2.below hb, h.lo, h.ne⟩
/-- Behind a store into the first row. -/
theorem ColsVar.grown {w : World} {base n : Nat} {X X' Y : List Int} {B1 B2 g cc g3 c3 : Nat} {U U' : World} (h : ColsVar w base n X Y B1 B2 g cc g3 c3 U) (hg : U.grownBy U' (some g)) (ho : IOwn U' base (.slice (some ⟨g, 0, none⟩) n cc) X') (hn : 0 < n) (hl : Y.length = n) : ColsVar w base n X' Y B1 B2 g cc g3 c3 U' := by
  have k1 := World.block_lt_of_cell? U _ h.v1
  have k2 := World.block_lt_of_cell? U _ h.v2
  refine ⟨(World.cell?_of_block (hg.block B1 k1 (fun e => by injection e with e; exact h.ne.1 e))).trans h.v1, (World.cell?_of_block (hg.block B2 k2 (fun e => by injection e with e; exact h.ne.2.1 e))).trans h.v2, ho, ?_, h.lo, h.ne⟩
  obtain ⟨g', c2, e, _, h2, _⟩ := h.o2.at (by rw [hl]; exact hn)
  injection e with e; injection e with e; injection e with e
  exact h.o2.keep hg (fun b hb e9 => by
    have hb2 : g3 = b := by simpa [Value.ownBlock] using hb
    injection e9 with e9
    exact h.ne.2.2 (by omega))
theorem leastL_in {t : Tbl} (h : tblOk t = true) {cells : List GCell} {n : Nat} (hg : 0 ≤ t.gap) (hcell : ∀ x ∈ cells, CellIn n (fun c => leastT (textOf t c)) x) : (leastL t cells n).length = n ∧ ∀ x ∈ leastL t cells n, 0 ≤ x ∧ x ≤ 60 := by
  obtain ⟨⟨m1, m2⟩, _⟩ := made_spec hg hcell
  unfold leastL
  refine ⟨by rw [List.length_mapIdx]; exact m1, fun x hx => ?_⟩
  obtain ⟨j, hj, rfl⟩ := List.getElem_of_mem hx
  rw [List.getElem_mapIdx]
  have h1 := m2 _ (List.getElem_mem (show j < (made t.gap (fun c => leastT (textOf t c)) cells n).length by simpa using hj))
  have h2 := saidN_in h j _ h1
  omega
theorem wishL_in {t : Tbl} (h : tblOk t = true) {cells : List GCell} {n : Nat} (hg : 0 ≤ t.gap) (hcell : ∀ x ∈ cells, CellIn n (fun c => leastT (textOf t c)) x) (hcell2 : ∀ x ∈ cells, CellIn n (fun c => wishT (textOf t c)) x) : (wishL t cells n).length = n ∧ ∀ x ∈ wishL t cells n, 0 ≤ x ∧ x ≤ 60 := by
  obtain ⟨⟨m1, m2⟩, _⟩ := made_spec hg hcell2
  obtain ⟨l1, l2⟩ := leastL_in h hg hcell
  unfold wishL
  refine ⟨by rw [List.length_mapIdx]; exact m1, fun x hx => ?_⟩
  obtain ⟨j, hj, rfl⟩ := List.getElem_of_mem hx
  rw [List.getElem_mapIdx]
  have hjm : j < (made t.gap (fun c => wishT (textOf t c)) cells n).length := by simpa using hj
  have h1 := m2 _ (List.getElem_mem hjm)
  have h2 := int_at l2 j (by omega)
  unfold overL
  omega
theorem ofKind_in (f : Nat → Int) (q : Int) (n : Nat) : (ofKind f q n).length = n ∧ ∀ x ∈ ofKind f q n, 0 ≤ x ∧ x ≤ 1 := by
  unfold ofKind
  refine ⟨by simp, fun x hx => ?_⟩
  obtain ⟨k, _, rfl⟩ := List.mem_map.1 hx
  show 0 ≤ (if f k = q then (1 : Int) else 0) ∧ (if f k = q then (1 : Int) else 0) ≤ 1
  split <;> omega
theorem part_in {t : Tbl} (h : tblOk t = true) {width : Int} (hw : 0 ≤ width ∧ width ≤ 300) (k : Nat) : 0 ≤ width * numT t k / 100 ∧ width * numT t k / 100 ≤ 300 := by
  have h1 := said_num h (k : Int)
  have h2 : 0 ≤ width * numT t k := Int.mul_nonneg hw.1 h1.1
  have h3 : width * numT t k ≤ 300 * numT t k := Int.mul_le_mul_of_nonneg_right hw.2 h1.1
  have h4 : numT t k ≤ 100 := h1.2
  omega
theorem wantsF_in {t : Tbl} {q : Int} {f : Nat → Int} {X : List Int} {n : Nat} (hl : X.length = n) (hx : ∀ x ∈ X, 0 ≤ x) (hf : ∀ k, k < n → f k ≤ 300) : (wantsF t q f X).length = n ∧ ∀ x ∈ wantsF t q f X, 0 ≤ x ∧ x ≤ 300 := by
  unfold wantsF
  refine ⟨by rw [List.length_mapIdx, hl], fun x h => ?_⟩
  obtain ⟨j, hj, rfl⟩ := List.getElem_of_mem h
  have hj2 : j < X.length := by simpa using hj
  rw [List.getElem_mapIdx]
  have h1 := hf j (by omega)
  have h2 := hx _ (List.getElem_mem hj2)
  split <;> omega
theorem addAt_in {X G : List Int} {n : Nat} {b c : Int} (hl : X.length = n) (hg : G.length = n) (hx : ∀ x ∈ X, 0 ≤ x ∧ x ≤ b) (hy : ∀ x ∈ G, 0 ≤ x ∧ x ≤ c) : (addAt X 0 G).length = n ∧ ∀ x ∈ addAt X 0 G, 0 ≤ x ∧ x ≤ b + c := by
  have e1 : (addAt X 0 G).length = n := by rw [addAt_length, hl]
  refine ⟨e1, fun x h => ?_⟩
  obtain ⟨j, hj, rfl⟩ := List.getElem_of_mem h
  have h1 := addAt_get0 (cols := X) (xs := G) (by omega) j
  have e2 : (addAt X 0 G)[j] = (addAt X 0 G).getD j 0 := by rw [List.getD_eq_getElem?_getD, List.getElem?_eq_getElem hj]; rfl
  have h2 := int_at hx j (by omega)
  have h3 := int_at hy j (by omega)
  omega
theorem upTo_in {total : Int} {ws : List Int} {n : Nat} (ht : 0 ≤ total ∧ total ≤ 300) (hl : ws.length = n) (hw : ∀ x ∈ ws, 0 ≤ x ∧ x ≤ 300) : (upToL total ws).1.length = n ∧ (∀ x ∈ (upToL total ws).1, 0 ≤ x ∧ x ≤ 300) ∧ 0 ≤ (upToL total ws).2 ∧ (upToL total ws).2 ≤ 300 := by
  obtain ⟨h1, h2, h3, h4, _⟩ := upTo_spec ht.1 (fun x hx => (hw x hx).1)
  have h5 := sumI_nonneg h2
  exact ⟨h1.trans hl, fun x hx => ⟨h2 x hx, by have := sumI_ge h2 x hx; omega⟩, h4, by omega⟩
set_option maxRecDepth 100000 in
set_option maxHeartbeats 40000000 in
theorem impl_cols (t : Tbl) (A : Option Addr) (c : Nat) (A' : Option Addr) (c' : Nat) (gr : Int) (n : Nat) (cells : List GCell) (GA : Option Addr) (gc : Nat) (width : Int) (w : World) (hok : tblOk t = true) (hw : Base w) (hc : Rd colR w A t.cols) (hr : Rd rowR w A' t.rows) (hG : Rd gcR w GA cells)
    (hn : 1 ≤ n ∧ n ≤ 90) (hcell : ∀ x ∈ cells, CellIn n (fun c => leastT (textOf t c)) x ∧ CellAt t x ∧ 0 ≤ leastT (textOf t x))
    (hcell2 : ∀ x ∈ cells, CellIn n (fun c => wishT (textOf t c)) x ∧ CellAt t x ∧ 0 ≤ wishT (textOf t x)) (hcl : cells.length ≤ 1000) (htc : t.cols.length ≤ n) (hwd : 0 ≤ width ∧ width ≤ 300) :
    Calls Tryz.prog 93 #[.agg #[.slice A t.cols.length c, .int .i64 t.head, .int .i64 t.foot, .slice A' t.rows.length c', .int .i64 t.gap], .agg #[.int .i64 gr, .int .i64 n, .slice GA cells.length gc], .int .i64 width] w fun e w' => ∃ v, e = .returned v ∧ IOwn w' w.heap.size v (widths (kindT t) (numT t) width t.gap (leastL t cells n) (wishL t cells n)) ∧ Below w.heap.size w w' := by
  have hg := (tblOk_parts hok).2.2.1
  have hE := fun (W : World) (h : Below w.heap.size w W) => impl_least t A c A' c' gr n cells GA gc W (hw.below h) (hc.below h) (hr.below h) (hG.below h) hg ⟨hn.1, by omega⟩ hcell hcl htc
  have hH := fun (W : World) (h : Below w.heap.size w W) => impl_wish t A c A' c' gr n cells GA gc W (hw.below h) (hc.below h) (hr.below h) (hG.below h) hg ⟨hn.1, by omega⟩ hcell hcell2 hcl htc
  obtain ⟨hlx, hbx⟩ := leastL_in hok hg.1 (fun x hx => (hcell x hx).1)
  obtain ⟨hly, hby⟩ := wishL_in hok hg.1 (fun x hx => (hcell x hx).1) (fun x hx => (hcell2 x hx).1)
  generalize leastL t cells n = X at hE hlx hbx hby ⊢
  generalize wishL t cells n = Y at hH hly hby ⊢
  have HLX := hide hlx
  have HLY := hide hly
  have HBX := hide hbx
  have HBY := hide hby
  have HOK := hide hok
  have HC := hide hc
  clear hw hc hr hG hcell hcell2 hlx hly hbx hby hok
  go_enter Tryz.func93, Tryz.ntmps93
  have HB1 := balloc (balloc (balloc (brefl w) (.cells #[.slice A t.cols.length c, .int .i64 t.head, .int .i64 t.foot, .slice A' t.rows.length c', .int .i64 t.gap] 26)) (.cells #[.int .i64 gr, .int .i64 n, .slice GA cells.length gc] 35)) (.cells #[.int .i64 width] 3)
  have hzV : (((w.alloc (.cells #[.slice A t.cols.length c, .int .i64 t.head, .int .i64 t.foot, .slice A' t.rows.length c', .int .i64 t.gap] 26)).alloc (.cells #[.int .i64 gr, .int .i64 n, .slice GA cells.length gc] 35)).alloc (.cells #[.int .i64 width] 3)).heap.size = w.heap.size + 3 := by simp
  go_upto_region 1 with fail
  obtain ⟨V, hV⟩ : ∃ V, V = ((w.alloc (.cells #[.slice A t.cols.length c, .int .i64 t.head, .int .i64 t.foot, .slice A' t.rows.length c', .int .i64 t.gap] 26)).alloc (.cells #[.int .i64 gr, .int .i64 n, .slice GA cells.length gc] 35)).alloc (.cells #[.int .i64 width] 3) := ⟨_, rfl⟩
  have hKT : BlockAt V w.heap.size [.slice A t.cols.length c, .int .i64 t.head, .int .i64 t.foot, .slice A' t.rows.length c', .int .i64 t.gap] := by
    rw [hV]; exact ((BlockAt.new w [.slice A t.cols.length c, .int .i64 t.head, .int .i64 t.foot, .slice A' t.rows.length c', .int .i64 t.gap] 26).keep ((balloc (brefl _) _).block w.heap.size (by simp))).keep ((balloc (brefl _) _).block w.heap.size (by simp; omega))
  have hKG : BlockAt V (w.heap.size + 1) [.int .i64 gr, .int .i64 n, .slice GA cells.length gc] := by
    have h1 := BlockAt.new (w.alloc (.cells #[.slice A t.cols.length c, .int .i64 t.head, .int .i64 t.foot, .slice A' t.rows.length c', .int .i64 t.gap] 26)) [.int .i64 gr, .int .i64 n, .slice GA cells.length gc] 35
    have e1 : (w.alloc (.cells #[.slice A t.cols.length c, .int .i64 t.head, .int .i64 t.foot, .slice A' t.rows.length c', .int .i64 t.gap] 26)).heap.size = w.heap.size + 1 := by simp
    rw [e1] at h1
    rw [hV]; exact h1.keep ((balloc (brefl _) _).block (w.heap.size + 1) (by simp))
  have hKW : BlockAt V (w.heap.size + 2) [.int .i64 width] := by
    have h1 := BlockAt.new ((w.alloc (.cells #[.slice A t.cols.length c, .int .i64 t.head, .int .i64 t.foot, .slice A' t.rows.length c', .int .i64 t.gap] 26)).alloc (.cells #[.int .i64 gr, .int .i64 n, .slice GA cells.length gc] 35)) [.int .i64 width] 3
    have e1 : ((w.alloc (.cells #[.slice A t.cols.length c, .int .i64 t.head, .int .i64 t.foot, .slice A' t.rows.length c', .int .i64 t.gap] 26)).alloc (.cells #[.int .i64 gr, .int .i64 n, .slice GA cells.length gc] 35)).heap.size = w.heap.size + 2 := by simp
    rw [e1] at h1
    rw [hV]; exact h1
  rw [← hV] at HB1 hzV
  rw [← hV]
  have HKT := hide hKT
  have HKG := hide hKG
  have HKW := hide hKW
  clear hV
  have hq : (fun U : World => (U.cell? ⟨w.heap.size, 0, none⟩ = some (.slice A t.cols.length c) ∧ U.cell? ⟨w.heap.size, 1, none⟩ = some (.int .i64 t.head) ∧ U.cell? ⟨w.heap.size, 2, none⟩ = some (.int .i64 t.foot) ∧ U.cell? ⟨w.heap.size, 3, none⟩ = some (.slice A' t.rows.length c') ∧ U.cell? ⟨w.heap.size, 4, none⟩ = some (.int .i64 t.gap)) ∧ U.cell? ⟨w.heap.size + 1, 0, none⟩ = some (.int .i64 gr) ∧ U.cell? ⟨w.heap.size + 1, 1, none⟩ = some (.int .i64 n) ∧ U.cell? ⟨w.heap.size + 1, 2, none⟩ = some (.slice GA cells.length gc)) V := ⟨⟨hKT.1 0 _ rfl, hKT.1 1 _ rfl, hKT.1 2 _ rfl, hKT.1 3 _ rfl, hKT.1 4 _ rfl⟩, hKG.1 0 _ rfl, hKG.1 1 _ rfl, hKG.1 2 _ rfl⟩
  have HK : Hid (∀ U : World, Below V.heap.size V U → (fun U : World => (U.cell? ⟨w.heap.size, 0, none⟩ = some (.slice A t.cols.length c) ∧ U.cell? ⟨w.heap.size, 1, none⟩ = some (.int .i64 t.head) ∧ U.cell? ⟨w.heap.size, 2, none⟩ = some (.int .i64 t.foot) ∧ U.cell? ⟨w.heap.size, 3, none⟩ = some (.slice A' t.rows.length c') ∧ U.cell? ⟨w.heap.size, 4, none⟩ = some (.int .i64 t.gap)) ∧ U.cell? ⟨w.heap.size + 1, 0, none⟩ = some (.int .i64 gr) ∧ U.cell? ⟨w.heap.size + 1, 1, none⟩ = some (.int .i64 n) ∧ U.cell? ⟨w.heap.size + 1, 2, none⟩ = some (.slice GA cells.length gc)) U) := fun U h =>
    ⟨⟨keepW h hq.1.1, keepW h hq.1.2.1, keepW h hq.1.2.2.1, keepW h hq.1.2.2.2.1, keepW h hq.1.2.2.2.2⟩, keepW h hq.2.1, keepW h hq.2.2.1, keepW h hq.2.2.2⟩
  clear hKT hKG hKW
  have HZV := hide hzV
  clear hzV
  go_cut [7, 8] (fun s7 s8 wx => ∃ B1 B2 g cc g3 c3, s7 = .pointer (some ⟨B1, 0, none⟩) ∧ s8 = .pointer (some ⟨B2, 0, none⟩) ∧ Aside (ColsVar w V.heap.size n X Y B1 B2 g cc g3 c3 wx) ∧ Aside (Below V.heap.size V wx))
  case first =>
    go_region_held3 (fun U : World => (U.cell? ⟨w.heap.size, 0, none⟩ = some (.slice A t.cols.length c) ∧ U.cell? ⟨w.heap.size, 1, none⟩ = some (.int .i64 t.head) ∧ U.cell? ⟨w.heap.size, 2, none⟩ = some (.int .i64 t.foot) ∧ U.cell? ⟨w.heap.size, 3, none⟩ = some (.slice A' t.rows.length c') ∧ U.cell? ⟨w.heap.size, 4, none⟩ = some (.int .i64 t.gap)) ∧ U.cell? ⟨w.heap.size + 1, 0, none⟩ = some (.int .i64 gr) ∧ U.cell? ⟨w.heap.size + 1, 1, none⟩ = some (.int .i64 n) ∧ U.cell? ⟨w.heap.size + 1, 2, none⟩ = some (.slice GA cells.length gc)) (first | with_reducible assumption | (refine HK.out _ ?_; ((repeat' (with_reducible first | exact brefl _ | refine bdrew ?_ | refine balloc ?_ _ | refine bset ?_ ?_ _ | refine step ?_ (by with_reducible assumption))) <;> first | (simp; done) | (simp; omega)))) (first
      | (go_simp; go_at_call 55; refine (hE _ ?_).mono ?_; ((repeat' (with_reducible first | exact HB1 | exact brefl _ | refine bdrew ?_ | refine balloc ?_ _ | refine bset ?_ ?_ _ | refine step ?_ (by with_reducible assumption))) <;> first | (simp; done) | (simp; omega)); rintro e w7 ⟨v7, rfl, hO7, hb7⟩; obtain ⟨g7, c7, rfl, hg7, hl7, _, _⟩ := hO7.at (by rw [HLX.out]; omega); rw [HLX.out]; rw [HLX.out] at hO7; have HO7 := hide hO7; clear hO7; have z7 := hb7.size; (try simp at z7); (try simp at hg7); (try (refine withSeen2 (V.heap.size) hb7 ?_ ?_; (focus (first | (simp; done) | (simp; omega) | omega)); intro ca0 fa0 sa0)); (try (refine withSeen2 (V.heap.size + 1) hb7 ?_ ?_; (focus (first | (simp; done) | (simp; omega) | omega)); intro ca1 fa1 sa1)); simp only [])
      | (go_simp; go_at_call 69; refine (hH _ ?_).mono ?_; ((repeat' (with_reducible first | exact HB1 | exact brefl _ | refine bdrew ?_ | refine balloc ?_ _ | refine bset ?_ ?_ _ | refine step ?_ (by with_reducible assumption))) <;> first | (simp; done) | (simp; omega)); rintro e w8 ⟨v8, rfl, hO8, hb8⟩; obtain ⟨g8, c8, rfl, hg8, hl8, _, _⟩ := hO8.at (by rw [HLY.out]; omega); rw [HLY.out]; rw [HLY.out] at hO8; have HO8 := hide hO8; clear hO8; have z8 := hb8.size; (try simp at z8); (try simp at hg8); (try (refine withSeen2 (V.heap.size) hb8 ?_ ?_; (focus (first | (simp; done) | (simp; omega) | omega)); intro cb0 fb0 sb0)); (try (refine withSeen2 (V.heap.size + 1) hb8 ?_ ?_; (focus (first | (simp; done) | (simp; omega) | omega)); intro cb1 fb1 sb1)); (try (refine withSeen2 (w7.heap.size) hb8 ?_ ?_; (focus (first | (simp; done) | (simp; omega) | omega)); intro cb2 fb2 sb2)); (try (refine withSeen2 (w7.heap.size + 1) hb8 ?_ ?_; (focus (first | (simp; done) | (simp; omega) | omega)); intro cb3 fb3 sb3)); simp only []))
    all_goals (go_wp2_with fail; go_meet)
    all_goals
      have P7 : IOwn w7 V.heap.size (.slice (some ⟨g7, 0, none⟩) n c7) X := HO7.out.base (by first | (simp; done) | (simp; omega) | omega)
      have P8 : IOwn w8 V.heap.size (.slice (some ⟨g8, 0, none⟩) n c8) Y := HO8.out.base (by first | (simp; done) | (simp; omega) | omega)
      refine ⟨_, _, g7, c7, g8, c8, rfl, rfl, (show Aside _ from ⟨?_, ?_, ?_, ?_, ?_, ?_⟩), (show Aside _ from ?_)⟩
      · first | (simp; done) | (simp [*]; done) | (simp [go_sem, *]; done)
      · first | (simp; done) | (simp [*]; done) | (simp [go_sem, *]; done)
      · (repeat' (with_reducible first | exact P7 | refine IOwn.other ?_ ?_ _ | refine IOwn.below ?_ (balloc (brefl _) _) | refine IOwn.below ?_ (bdrew (brefl _)) | refine IOwn.below ?_ (by with_reducible assumption))) <;> first | omega | (simp; omega)
      · (repeat' (with_reducible first | exact P8 | refine IOwn.other ?_ ?_ _ | refine IOwn.below ?_ (balloc (brefl _) _) | refine IOwn.below ?_ (bdrew (brefl _)) | refine IOwn.below ?_ (by with_reducible assumption))) <;> first | omega | (simp; omega)
      · first | omega | (simp; omega)
      · first | omega | (simp; omega)
      · show Below _ _ _
        (repeat' (with_reducible first | exact brefl V | refine bdrew ?_ | refine balloc ?_ _ | refine bset ?_ ?_ _ | refine step ?_ (by with_reducible assumption))) <;> first | (simp; done) | (simp; omega) | omega
  case rest =>
  obtain ⟨B1, B2, g, cc, g3, c3, rfl, rfl, HVR, HBC⟩ := hcut
  obtain ⟨U, rfl⟩ : ∃ U : World, U = wc := ⟨_, rfl⟩
  clear hE hH
  have v1 := HVR.out.v1
  have zW : U.cell? ⟨w.heap.size + 2, 0, none⟩ = some (.int .i64 width) := keepW HBC.out (HKW.out.1 0 _ rfl)
  have zG : U.cell? ⟨w.heap.size, 4, none⟩ = some (.int .i64 t.gap) := keepW HBC.out (HKT.out.1 4 _ rfl)
  have hWD := fun (W : World) (h : Below U.heap.size U W) => impl_wide (some ⟨g, 0, none⟩) cc X t.gap W (by have h9 := HVR.out.o1; rw [← HLX.out] at h9; exact (irow_rd h9).below h) (fun x hx => by have := HBX.out x hx; omega) (by have := HLX.out; omega) hg
  rw [HLX.out] at hWD
  obtain ⟨s1, s2⟩ := sum_le 60 X HBX.out
  obtain ⟨wd, hwd⟩ : ∃ wd, wideG t.gap X = wd := ⟨_, rfl⟩
  have hwd1 : 0 ≤ wd ∧ wd ≤ 6000 := by
    have hl := HLX.out
    have hm := Int.mul_nonneg hg.1 (show 0 ≤ max ((X.length : Int) - 1) 0 by omega)
    have hm2 : t.gap * max ((X.length : Int) - 1) 0 ≤ 3 * max ((X.length : Int) - 1) 0 := Int.mul_le_mul_of_nonneg_right hg.2 (by omega)
    have hw : wd = sumI X + t.gap * max ((X.length : Int) - 1) 0 := hwd.symm
    omega
  rw [hwd] at hWD
  obtain ⟨lf, hlf⟩ : ∃ lf, width - wd = lf := ⟨_, rfl⟩
  have t1 : IntKind.i64.wrap (width - wd) = lf := by rw [hlf, IntKind.wrap_i64]; omega
  have HRES : Hid (widths (kindT t) (numT t) width t.gap X Y = if lf ≤ 0 then X else restW (kindT t) (autoW (kindT t) Y (addAt X 0 (upToL lf (wantsF t 2 (fun k => width * numT t k / 100) X)).1, (upToL lf (wantsF t 2 (fun k => width * numT t k / 100) X)).2))) := by
    show _ = _
    rw [← hlf, ← hwd]
    rfl
  have hlf1 : lf ≤ 300 := by omega
  have HLF := hide hlf
  clear s1 s2 hwd hwd1 hlf
  go_upto_region 2 with fail
  go_cut [9] from 9 to 28 (fun s9 wx => s9 = .int .i64 lf ∧ Aside (Below U.heap.size U wx))
  case first =>
    go_region_with (go_at_call 65; refine (hWD _ ?_).mono ?_; (first | exact brefl _ | exact bdrew (brefl _)); rintro e w2 ⟨rfl, hb2⟩; have x1 : w2.cell? ⟨w.heap.size + 2, 0, none⟩ = some (.int .i64 width) := keepW hb2 (by simp [*]))
    all_goals
      go_wp2_with fail
      go_meet
      case rel =>
        refine ⟨rfl, (show Aside _ from ?_)⟩
        show Below _ _ _
        (repeat' (with_reducible first | exact brefl _ | refine bdrew ?_ | refine step ?_ (by with_reducible assumption)))
  case rest =>
  obtain ⟨rfl, HB2⟩ := hcut
  obtain ⟨U2, rfl⟩ : ∃ U2 : World, U2 = wc := ⟨_, rfl⟩
  have HV2 := hide (HVR.out.below HB2.out)
  have HBV := hide (step HBC.out HB2.out)
  clear v1 zW zG hWD t1 HVR
  have w1 := HV2.out.v1
  by_cases hle : lf ≤ 0
  · have hres := HRES.out
    rw [if_pos hle] at hres
    have HR1 := hide hres
    clear hres
    go_wp2_with fail
    go_ret
    exact ⟨_, rfl, by rw [HR1.out]; exact HV2.out.o1.base HB1.size, step HB1 HBV.out⟩
  · have hres := HRES.out
    rw [if_neg hle] at hres
    have HR1 := hide hres
    clear hres HRES
    have hmf := @run_mkf Tryz.prog
    have heg1 : ∀ args w, (callFunc 123 args).run Tryz.prog w = .ok (.enter 123 args) w := enters_of Tryz.func123 (by kernel_rfl) rfl
    have HWU := hide (step HB1 HBV.out)
    have hC2 := HC.out.below HWU.out
    have hT2 : BlockAt U2 w.heap.size [.slice A t.cols.length c, .int .i64 t.head, .int .i64 t.foot, .slice A' t.rows.length c', .int .i64 t.gap] := HKT.out.keep (HBV.out.block _ (by rw [HZV.out]; omega))
    have hW2 : U2.cell? ⟨w.heap.size + 1 + 1, 0, none⟩ = some (.int .i64 width) := keepW HBV.out (HKW.out.1 0 _ rfl)
    have hz2 : V.heap.size ≤ U2.heap.size := HBV.out.size
    have hzv : V.heap.size = w.heap.size + 3 := HZV.out
    have hgU : g < U2.heap.size := by
      obtain ⟨g', c2, e, _, h2, _⟩ := HV2.out.o1.at (by rw [HLX.out]; exact hn.1)
      injection e with e; injection e with e; injection e with e; omega
    have hgV : V.heap.size ≤ g := HV2.out.lo.2.2.1
    have heg2 : ∀ args w, (callFunc 125 args).run Tryz.prog w = .ok (.enter 125 args) w := enters_of Tryz.func125 (by kernel_rfl) rfl
    have heg3 : ∀ args w, (callFunc 127 args).run Tryz.prog w = .ok (.enter 127 args) w := enters_of Tryz.func127 (by kernel_rfl) rfl
    have hw1 := cols_wants t A c A' c' 2 125 #[.pointer (some ⟨w.heap.size + 1 + 1, 0, none⟩), .pointer (some ⟨w.heap.size, 0, none⟩)] (fun k => width * numT t k / 100) B1 w.heap.size g cc n V.heap.size X U2 hC2 w1 hT2 HV2.out.o1 HLX.out ⟨hn.1, by omega⟩ (fun x hx => by have := HBX.out x hx; omega) heg2
      (fun W k hb hk => cols_part t A c A' c' k (w.heap.size + 1 + 1) w.heap.size width W HOK.out (hC2.below hb) (keepW hb hW2) (hT2.keep (hb.block _ (by omega))) (by omega) hwd) (fun k hk => by have := part_in HOK.out hwd k; omega)
    obtain ⟨pl, pb⟩ := wantsF_in (t := t) (q := 2) (f := fun k => width * numT t k / 100) HLX.out (fun x hx => (HBX.out x hx).1) (fun k _ => (part_in HOK.out hwd k).2)
    have hr1 := HR1.out
    generalize wantsF t 2 (fun k => width * numT t k / 100) X = P1 at hw1 pl pb hr1
    obtain ⟨ql, qb, qs, qt⟩ := upTo_in (total := lf) (ws := P1) ⟨by omega, hlf1⟩ pl pb
    obtain ⟨p1, hp1⟩ : ∃ p, upToL lf P1 = p := ⟨_, rfl⟩
    rw [hp1] at hr1 ql qb qs qt
    obtain ⟨G1, l1⟩ := p1
    dsimp only at hr1 ql qb qs qt
    have HP1 := hide hp1
    have HPL := hide pl
    have HPB := hide pb
    have HQB := hide qb
    have HQL := hide ql
    have HR2 := hide hr1
    clear hr1 HR1 hp1 pb qb pl ql
    go_wp2_with fail
    refine hw1.mono ?_
    rintro e U3 ⟨v3, rfl, hI3, hb3⟩
    obtain ⟨A3, d3, rfl⟩ := hI3.form
    have hup := impl_ShrUpTo lf U2.heap.size A3 d3 P1 U3 hI3 ⟨⟨by omega, by omega⟩, fun x hx => by have := HPB.out x hx; omega, by rw [HPL.out]; omega⟩ (by rw [HPL.out]; omega)
    rw [HP1.out] at hup
    have HV3 := hide (HV2.out.below hb3)
    have HWU3 := hide (step HWU.out hb3)
    have HT3 := hide (hT2.keep (hb3.block w.heap.size (by omega)))
    have hz3 : U2.heap.size ≤ U3.heap.size := hb3.size
    clear hw1 w1 hI3 hb3 hC2 hW2 hT2
    go_wp2_with fail
    refine hup.mono ?_
    rintro e U4 ⟨v4, rfl, hI4, hb4⟩
    obtain ⟨g4, c4, rfl, hg4, hl4, _, _⟩ := hI4.at (by show 0 < G1.length; rw [HQL.out]; omega)
    rw [show (G1, l1).1.length = n from HQL.out] at hI4 ⊢
    have HV4 := hide (HV3.out.below hb4)
    have HWU4 := hide (step HWU3.out hb4)
    have HT4 := hide (HT3.out.keep (hb4.block w.heap.size (by omega)))
    have hz4 : U3.heap.size ≤ U4.heap.size := hb4.size
    have w4 := HV4.out.v1
    have hne4 : g ≠ g4 := by omega
    have had := impl_add V.heap.size U3.heap.size g cc n g4 c4 X G1 U4 HV4.out.o1 hI4 HLX.out HQL.out hne4 (by omega) hgV (fun x hx => by have := HBX.out x hx; omega) (fun x hx => by have := HQB.out x hx; omega)
    clear hup hI4 hb4 HP1 HPL HPB
    go_wp2_with fail
    refine had.mono ?_
    rintro e U5 ⟨rfl, hO5, hG5⟩
    obtain ⟨xl, xb⟩ := addAt_in HLX.out HQL.out HBX.out HQB.out
    have HV5 := hide (HV4.out.grown hG5 hO5 hn.1 HLY.out)
    have HWU5 : Hid (Below w.heap.size w U5) := HWU4.out.trans (grown_below hG5 (by omega) (fun k e => by injection e with e; omega))
    have hz5 : U4.heap.size ≤ U5.heap.size := hG5.size
    have HT5 := hide (HT4.out.keep (hG5.block w.heap.size (by omega) (fun e => by injection e with e; omega)))
    have hC5 := HC.out.below HWU5.out
    have hX1e : addAt X 0 G1 = addAt X 0 G1 := rfl
    obtain ⟨X1, hX1⟩ : ∃ X1, addAt X 0 G1 = X1 := ⟨_, rfl⟩
    rw [hX1] at xl xb HV5
    have hr2 := HR2.out
    rw [hX1] at hr2
    have hau : autoW (kindT t) Y (X1, l1) = (addAt X1 0 (upToL l1 (wantsF t 0 (fun k => Y.getD k 0) X1)).1, (upToL l1 (wantsF t 0 (fun k => Y.getD k 0) X1)).2) := rfl
    rw [hau] at hr2
    clear hau hX1e hX1 had hO5 hG5 HR2 w4 hne4
    have w5 := HV5.out.v1
    have w5' := HV5.out.v2
    have o5 := HV5.out.o2
    have hw2 := cols_wants t A c A' c' 0 127 #[.pointer (some ⟨B2, 0, none⟩)] (fun k => Y.getD k 0) B1 w.heap.size g cc n V.heap.size X1 U5 hC5 w5 HT5.out HV5.out.o1 xl ⟨hn.1, by omega⟩ (fun x hx => by have := xb x hx; omega) heg3
      (fun W k hb hk => cols_wish k B2 g3 c3 n V.heap.size Y W (keepW hb w5') (o5.below hb) HLY.out hk (by omega)) (fun k hk => by have := int_at HBY.out k (by rw [HLY.out]; exact hk); omega)
    obtain ⟨pl, pb⟩ := wantsF_in (t := t) (q := 0) (f := fun k => Y.getD k 0) xl (fun x hx => (xb x hx).1) (fun k hk => by have := int_at HBY.out k (by rw [HLY.out]; exact hk); show Y.getD k 0 ≤ 300; omega)
    generalize wantsF t 0 (fun k => Y.getD k 0) X1 = P2 at hw2 pl pb hr2
    obtain ⟨ql, qb, qs2, qt2⟩ := upTo_in (total := l1) (ws := P2) ⟨qs, qt⟩ pl pb
    obtain ⟨p2, hp2⟩ : ∃ p, upToL l1 P2 = p := ⟨_, rfl⟩
    rw [hp2] at hr2 ql qb qs2 qt2
    obtain ⟨G2, l2⟩ := p2
    dsimp only at hr2 ql qb qs2 qt2
    have HP2 := hide hp2
    have HPL := hide pl
    have HPB := hide pb
    have HQB2 := hide qb
    have HQL2 := hide ql
    have HXL := hide xl
    have HXB := hide xb
    have HR3 := hide hr2
    clear hr2 hp2 pb qb pl ql xl xb w5' o5
    go_wp2_with fail
    refine hw2.mono ?_
    rintro e U6 ⟨v6, rfl, hI6, hb6⟩
    obtain ⟨A6, d6, rfl⟩ := hI6.form
    have hup := impl_ShrUpTo l1 U5.heap.size A6 d6 P2 U6 hI6 ⟨⟨qs, by omega⟩, fun x hx => by have := HPB.out x hx; omega, by rw [HPL.out]; omega⟩ (by rw [HPL.out]; omega)
    rw [HP2.out] at hup
    have HV6 := hide (HV5.out.below hb6)
    have HWU6 := hide (step HWU5.out hb6)
    have hz6 : U5.heap.size ≤ U6.heap.size := hb6.size
    have HT6 := hide (HT5.out.keep (hb6.block w.heap.size (by omega)))
    clear hw2 w5 hI6 hb6 hC5
    go_wp2_with fail
    refine hup.mono ?_
    rintro e U7 ⟨v7, rfl, hI7, hb7⟩
    obtain ⟨g7, c7, rfl, hg7, hl7, _, _⟩ := hI7.at (by show 0 < G2.length; rw [HQL2.out]; omega)
    rw [show (G2, l2).1.length = n from HQL2.out] at hI7 ⊢
    have HV7 := hide (HV6.out.below hb7)
    have HWU7 := hide (step HWU6.out hb7)
    have hz7 : U6.heap.size ≤ U7.heap.size := hb7.size
    have HT7 := hide (HT6.out.keep (hb7.block w.heap.size (by omega)))
    have w7 := HV7.out.v1
    have hne7 : g ≠ g7 := by omega
    have had := impl_add V.heap.size U6.heap.size g cc n g7 c7 X1 G2 U7 HV7.out.o1 hI7 HXL.out HQL2.out hne7 (by omega) hgV (fun x hx => by have := HXB.out x hx; omega) (fun x hx => by have := HQB2.out x hx; omega)
    clear hup hI7 hb7 HP2 HPL HPB
    go_wp2_with fail
    refine had.mono ?_
    rintro e U8 ⟨rfl, hO8, hG8⟩
    obtain ⟨xl, xb⟩ := addAt_in HXL.out HQL2.out HXB.out HQB2.out
    have HV8 := hide (HV7.out.grown hG8 hO8 hn.1 HLY.out)
    have HWU8 : Hid (Below w.heap.size w U8) := HWU7.out.trans (grown_below hG8 (by omega) (fun k e => by injection e with e; omega))
    have hz8 : U7.heap.size ≤ U8.heap.size := hG8.size
    have HT8 := hide (HT7.out.keep (hG8.block w.heap.size (by omega) (fun e => by injection e with e; omega)))
    obtain ⟨X2, hX2⟩ : ∃ X2, addAt X1 0 G2 = X2 := ⟨_, rfl⟩
    rw [hX2] at xl xb HV8
    have hr3 := HR3.out
    rw [hX2] at hr3
    have HR4 := hide hr3
    have HXL2 := hide xl
    have HXB2 := hide xb
    clear hr3 HR3 hX2 had hO8 hG8 w7 hne7 xl xb
    obtain ⟨D, hD⟩ : ∃ D, D = U8.alloc (.cells #[.int .i64 0, .int .i64 2] 3) := ⟨_, rfl⟩
    have eD : Below U8.heap.size U8 D := by rw [hD]; exact balloc (brefl _) _
    have hDc0 : D.cell? ⟨U8.heap.size, 0, none⟩ = some (.int .i64 0) := by rw [hD]; exact (BlockAt.new U8 [.int .i64 0, .int .i64 2] 3).1 0 _ rfl
    have hDc1 : D.cell? ⟨U8.heap.size, 1, none⟩ = some (.int .i64 2) := by rw [hD]; exact (BlockAt.new U8 [.int .i64 0, .int .i64 2] 3).1 1 _ rfl
    have hzD : D.heap.size = U8.heap.size + 1 := by rw [hD]; simp
    have HVD := hide (HV8.out.below eD)
    have HWD := hide (step HWU8.out eD)
    have HTD := hide (HT8.out.keep (eD.block w.heap.size (by omega)))
    have HDC0 := hide hDc0
    have HDC1 := hide hDc1
    have HD := hide hD
    clear hD eD hDc0 hDc1
    go_wp2_with fail
    rw [← HD.out]
    go_loopg [13, 14, 15, 56] 2 (fun gg s13 s14 s15 s56 wr => ∃ i : Nat, i ≤ 2 ∧ 2 - i ≤ gg ∧ s56 = .int .i64 i ∧ Aside (Below D.heap.size D wr) ∧ (1 ≤ i → ¬ 0 < sumI (ofKind (kindT t) 0 n)) ∧ (2 ≤ i → ¬ 0 < sumI (ofKind (kindT t) 2 n)))
    case atStart => exact ⟨0, by omega, by omega, rfl, brefl _, fun h => by omega, fun h => by omega⟩
    case round =>
      obtain ⟨i, hi, hgi, rfl, HBR, n0, n2⟩ := hrel
      have hVR := HVD.out.below HBR.out
      have hTR := HTD.out.keep (HBR.out.block w.heap.size (by omega))
      have hWR := step HWD.out HBR.out
      have w1 := hVR.v1
      have g0 := hTR.1 0 _ rfl
      have g1 := hTR.1 1 _ rfl
      have g2 := hTR.1 2 _ rfl
      have g3 := hTR.1 3 _ rfl
      have g4 := hTR.1 4 _ rfl
      have HVR := hide hVR
      have HTR := hide hTR
      have HWR := hide hWR
      have hzR : D.heap.size ≤ wr.heap.size := HBR.out.size
      clear hVR hTR hWR
      obtain rfl | rfl | rfl : i = 0 ∨ i = 1 ∨ i = 2 := by omega
      · have hc0 : wr.cell? ⟨U8.heap.size, 0, none⟩ = some (.int .i64 0) := keepW HBR.out HDC0.out
        have hal := impl_alike t A c A' c' n 0 wr (HC.out.below HWR.out) ⟨hn.1, by omega⟩
        obtain ⟨kl, kb⟩ := ofKind_in (kindT t) 0 n
        by_cases h0 : 0 < sumI (ofKind (kindT t) 0 n)
        · have hrw : restW (kindT t) (X2, l2) = addAt X2 0 (share l2 (ofKind (kindT t) 0 n)) := by
            unfold restW; dsimp only; rw [HXL2.out, if_pos h0]
          obtain ⟨sl, ss, sn⟩ := share_spec (total := l2) (ws := ofKind (kindT t) 0 n) qs2 (fun x hx => (kb x hx).1) (by intro e; rw [e] at kl; simp at kl; omega)
          rw [decide_eq_true h0] at hal
          rw [kl] at sl
          have sb : ∀ x ∈ share l2 (ofKind (kindT t) 0 n), 0 ≤ x ∧ x ≤ 300 := fun x hx => ⟨sn x hx, by have := sumI_ge sn x hx; omega⟩
          have HRW := hide (HR4.out.trans hrw)
          generalize hws : ofKind (kindT t) 0 n = ws at hal kl kb sl sb HRW
          have HKB := hide kb
          have HKL := hide kl
          clear hws hrw ss sn n0 n2 h0 kb kl
          go_wp2_with fail
          refine hal.mono ?_
          rintro e Z1 ⟨v9, rfl, hO9, hb9⟩
          obtain ⟨g9, c9, rfl, hg9, hl9, _, _⟩ := hO9.at (by rw [HKL.out]; omega)
          have hsh := fun (W : World) (h : Below Z1.heap.size Z1 W) => impl_ShrShare l2 (some ⟨g9, 0, none⟩) c9 ws W ((irow_rd hO9).below h) ⟨⟨qs2, by omega⟩, fun x hx => by have := HKB.out x hx; omega, by rw [HKL.out]; omega⟩ (by rw [HKL.out]; omega)
          rw [HKL.out] at hsh ⊢
          have HVZ := hide (HVR.out.below hb9)
          have HWZ := hide (step HWR.out hb9)
          have hz9 : wr.heap.size ≤ Z1.heap.size := hb9.size
          generalize share l2 ws = SH at hsh sl sb HRW
          have HSB := hide sb
          have HSL := hide sl
          have hadd := fun (W : World) (h : Below Z1.heap.size Z1 W) (base gs cs : Nat) (hO : IOwn W base (.slice (some ⟨gs, 0, none⟩) n cs) SH) (hne : g ≠ gs) => impl_add V.heap.size base g cc n gs cs X2 SH W (HVZ.out.o1.below h) hO HXL2.out HSL.out hne (by omega) hgV (fun x hx => by have := HXB2.out x hx; omega) (fun x hx => by have := HSB.out x hx; omega)
          have y1 := HVZ.out.v1
          have hB1 : B1 < Z1.heap.size := World.block_lt_of_cell? Z1 _ y1
          have hB1g : B1 ≠ g := HVZ.out.ne.1
          clear hal hO9 hb9 w1 g0 g1 g2 g3 g4 hc0 sb sl
          go_upto_region 15 with fail
          go_region_with (first
            | (go_at_call 129; refine (hsh _ ?_).mono ?_; (first | exact brefl _ | exact bdrew (brefl _)); rintro e Z2 ⟨v10, rfl, hO10, hb10⟩; obtain ⟨g10, c10, rfl, hg10, hl10, _, _⟩ := hO10.at (by rw [HSL.out]; omega); rw [HSL.out]; rw [HSL.out] at hO10; have x1 : Z2.cell? ⟨B1, 0, none⟩ = some (.slice (some ⟨g, 0, none⟩) n cc) := keepW hb10 (by simp [*]); have hz10 := hb10.size; (try simp at hz10); (try simp at hg10))
            | (go_at_call 126; refine (hadd _ ?_ _ g10 c10 hO10 (by omega)).mono ?_; (first | exact step (brefl _) hb10 | exact step (bdrew (brefl _)) hb10); rintro e Z3 ⟨rfl, hO11, hG11⟩; have x2 : Z3.cell? ⟨B1, 0, none⟩ = some (.slice (some ⟨g, 0, none⟩) n cc) := (World.cell?_of_block (hG11.block B1 (by omega) (fun e => by injection e with e; omega))).trans x1))
          all_goals
            go_wp2_with fail
            go_ret
            refine ⟨_, rfl, by rw [HRW.out]; exact hO11.base (by omega), ?_⟩
            have hbz : Below Z1.heap.size Z1 Z2 := by first | exact step (brefl _) hb10 | exact step (bdrew (brefl _)) hb10
            exact (step HWZ.out hbz).trans (grown_below hG11 (by omega) (fun k e => by injection e with e; omega))
        · rw [decide_eq_false h0] at hal
          go_wp2_with fail
          refine hal.mono ?_
          rintro e Z1 ⟨v9, rfl, hO9, hb9⟩
          obtain ⟨A9, c9, rfl⟩ := hO9.form
          have HBR2 := hide (step HBR.out hb9)
          clear hal hO9 hb9 w1 g0 g1 g2 g3 g4 hc0
          go_wp2_with fail
          go_roundg (2 - (0 + 1))
          case measure => omega
          case rel => exact ⟨0 + 1, by omega, by omega, by go_num, HBR2.out, fun _ => h0, fun h => by omega⟩
      · have hc0 : wr.cell? ⟨U8.heap.size, 1, none⟩ = some (.int .i64 2) := keepW HBR.out HDC1.out
        have hal := impl_alike t A c A' c' n 2 wr (HC.out.below HWR.out) ⟨hn.1, by omega⟩
        obtain ⟨kl, kb⟩ := ofKind_in (kindT t) 2 n
        by_cases h0 : 0 < sumI (ofKind (kindT t) 2 n)
        · have hrw : restW (kindT t) (X2, l2) = addAt X2 0 (share l2 (ofKind (kindT t) 2 n)) := by
            unfold restW; dsimp only; rw [HXL2.out, if_neg (n0 (by omega)), if_pos h0]
          obtain ⟨sl, ss, sn⟩ := share_spec (total := l2) (ws := ofKind (kindT t) 2 n) qs2 (fun x hx => (kb x hx).1) (by intro e; rw [e] at kl; simp at kl; omega)
          rw [decide_eq_true h0] at hal
          rw [kl] at sl
          have sb : ∀ x ∈ share l2 (ofKind (kindT t) 2 n), 0 ≤ x ∧ x ≤ 300 := fun x hx => ⟨sn x hx, by have := sumI_ge sn x hx; omega⟩
          have HRW := hide (HR4.out.trans hrw)
          generalize hws : ofKind (kindT t) 2 n = ws at hal kl kb sl sb HRW
          have HKB := hide kb
          have HKL := hide kl
          clear hws hrw ss sn n0 n2 h0 kb kl
          go_wp2_with fail
          refine hal.mono ?_
          rintro e Z1 ⟨v9, rfl, hO9, hb9⟩
          obtain ⟨g9, c9, rfl, hg9, hl9, _, _⟩ := hO9.at (by rw [HKL.out]; omega)
          have hsh := fun (W : World) (h : Below Z1.heap.size Z1 W) => impl_ShrShare l2 (some ⟨g9, 0, none⟩) c9 ws W ((irow_rd hO9).below h) ⟨⟨qs2, by omega⟩, fun x hx => by have := HKB.out x hx; omega, by rw [HKL.out]; omega⟩ (by rw [HKL.out]; omega)
          rw [HKL.out] at hsh ⊢
          have HVZ := hide (HVR.out.below hb9)
          have HWZ := hide (step HWR.out hb9)
          have hz9 : wr.heap.size ≤ Z1.heap.size := hb9.size
          generalize share l2 ws = SH at hsh sl sb HRW
          have HSB := hide sb
          have HSL := hide sl
          have hadd := fun (W : World) (h : Below Z1.heap.size Z1 W) (base gs cs : Nat) (hO : IOwn W base (.slice (some ⟨gs, 0, none⟩) n cs) SH) (hne : g ≠ gs) => impl_add V.heap.size base g cc n gs cs X2 SH W (HVZ.out.o1.below h) hO HXL2.out HSL.out hne (by omega) hgV (fun x hx => by have := HXB2.out x hx; omega) (fun x hx => by have := HSB.out x hx; omega)
          have y1 := HVZ.out.v1
          have hB1 : B1 < Z1.heap.size := World.block_lt_of_cell? Z1 _ y1
          have hB1g : B1 ≠ g := HVZ.out.ne.1
          clear hal hO9 hb9 w1 g0 g1 g2 g3 g4 hc0 sb sl
          go_upto_region 15 with fail
          go_region_with (first
            | (go_at_call 129; refine (hsh _ ?_).mono ?_; (first | exact brefl _ | exact bdrew (brefl _)); rintro e Z2 ⟨v10, rfl, hO10, hb10⟩; obtain ⟨g10, c10, rfl, hg10, hl10, _, _⟩ := hO10.at (by rw [HSL.out]; omega); rw [HSL.out]; rw [HSL.out] at hO10; have x1 : Z2.cell? ⟨B1, 0, none⟩ = some (.slice (some ⟨g, 0, none⟩) n cc) := keepW hb10 (by simp [*]); have hz10 := hb10.size; (try simp at hz10); (try simp at hg10))
            | (go_at_call 126; refine (hadd _ ?_ _ g10 c10 hO10 (by omega)).mono ?_; (first | exact step (brefl _) hb10 | exact step (bdrew (brefl _)) hb10); rintro e Z3 ⟨rfl, hO11, hG11⟩; have x2 : Z3.cell? ⟨B1, 0, none⟩ = some (.slice (some ⟨g, 0, none⟩) n cc) := (World.cell?_of_block (hG11.block B1 (by omega) (fun e => by injection e with e; omega))).trans x1))
          all_goals
            go_wp2_with fail
            go_ret
            refine ⟨_, rfl, by rw [HRW.out]; exact hO11.base (by omega), ?_⟩
            have hbz : Below Z1.heap.size Z1 Z2 := by first | exact step (brefl _) hb10 | exact step (bdrew (brefl _)) hb10
            exact (step HWZ.out hbz).trans (grown_below hG11 (by omega) (fun k e => by injection e with e; omega))
        · rw [decide_eq_false h0] at hal
          go_wp2_with fail
          refine hal.mono ?_
          rintro e Z1 ⟨v9, rfl, hO9, hb9⟩
          obtain ⟨A9, c9, rfl⟩ := hO9.form
          have HBR2 := hide (step HBR.out hb9)
          clear hal hO9 hb9 w1 g0 g1 g2 g3 g4 hc0
          go_wp2_with fail
          go_roundg (2 - (1 + 1))
          case measure => omega
          case rel => exact ⟨1 + 1, by omega, by omega, by go_num, HBR2.out, fun _ => n0 (by omega), fun _ => h0⟩
      · have hrw : restW (kindT t) (X2, l2) = X2 := by
          unfold restW; dsimp only; rw [HXL2.out, if_neg (n0 (by omega)), if_neg (n2 (by omega))]
        have HRW := hide (HR4.out.trans hrw)
        clear hrw n0 n2 g0 g1 g2 g3 g4
        go_wp2_with fail
        go_ret
        exact ⟨_, rfl, by rw [HRW.out]; exact HVR.out.o1.base (by omega), HWR.out⟩
end Go.Proofs.YtpfagdmmhgcmnaaGreatDoor

namespace Go.Proofs.YtpfagdmmhgcmnaaGreatDoor
open Go.RowKit
/- How wide columns are, and the table: WidCols and WidTable on the program's side. -/
def widColsL (m : Nat) (t : Tbl) (width : Int) : List Int := if tblOk t = true ∧ 0 ≤ width ∧ width ≤ 300 then widths (kindT t) (numT t) width t.gap (leastL t (gridL m t).1 (gridL m t).2.toNat) (wishL t (gridL m t).1 (gridL m t).2.toNat) else []
theorem said_kind {t : Tbl} (h : tblOk t = true) (k : Nat) : kindT t k = 0 ∨ kindT t k = 1 ∨ kindT t k = 2 := by
  unfold kindT saidOf
  split
  · rename_i hi
    have hlt : (k : Int).toNat < t.cols.length := by omega
    rw [List.getD_eq_getElem?_getD, List.getElem?_eq_getElem hlt]
    have hc := (tblOk_parts h).2.2.2.2.2.1 _ (List.getElem_mem hlt)
    simp only [Option.getD_some]
    unfold colOk at hc
    split at hc
    · exact .inl ‹_›
    · split at hc
      · exact .inr (.inl ‹_›)
      · split at hc
        · exact .inr (.inr ‹_›)
        · cases hc
  · exact .inl rfl
/-- What the laws want to know of widths. -/
theorem widCols_ok {t : Tbl} (h : tblOk t = true) {k : Nat} (hy : GoodRows t k) {width : Int} (hw : 0 ≤ width ∧ width ≤ 300) : ∃ n : Nat, (gridL 400 t).2 = n ∧ (1 ≤ n ∧ n ≤ 90) ∧ (colLeastL 400 t).length = n ∧ (colWishL 400 t).length = n ∧
    widColsL 400 t width = widths (kindT t) (numT t) width t.gap (colLeastL 400 t) (colWishL 400 t) ∧ (widColsL 400 t width).length = n ∧ (∀ x ∈ widColsL 400 t width, 0 ≤ x ∧ x ≤ 300) ∧ ∀ x ∈ colLeastL 400 t, 0 ≤ x ∧ x ≤ 60 := by
  obtain ⟨n, hn, hn1, hcell, hcl⟩ := grid_need h hy 400 leastT_in
  obtain ⟨n', hn', _, hcell2, _⟩ := grid_need h hy 400 wishT_in
  have hnn : n = n' := by omega
  subst hnn
  have hg := (tblOk_parts h).2.2.1
  have e1 : colLeastL 400 t = leastL t (gridL 400 t).1 n := by unfold colLeastL; rw [if_pos h, hn]; rfl
  have e2 : colWishL 400 t = wishL t (gridL 400 t).1 n := by unfold colWishL; rw [if_pos h, hn]; rfl
  have e3 : widColsL 400 t width = widths (kindT t) (numT t) width t.gap (colLeastL 400 t) (colWishL 400 t) := by unfold widColsL; rw [if_pos ⟨h, hw⟩, e1, e2, hn]; rfl
  obtain ⟨l1, l2⟩ := leastL_in h hg.1 (fun x hx => (hcell x hx).1)
  obtain ⟨l3, _⟩ := wishL_in h hg.1 (fun x hx => (hcell x hx).1) (fun x hx => (hcell2 x hx).1)
  rw [← e1] at l1 l2
  rw [← e2] at l3
  obtain ⟨w1, w2, w3, w4, w5⟩ := widths_spec (kind := kindT t) (nn := numT t) (width := width) (gap := t.gap) (least := colLeastL 400 t) (wish := colWishL 400 t) (said_kind h)
  refine ⟨n, hn, hn1, l1, l3, e3, by rw [e3, w1, l1], ?_, l2⟩
  rw [e3]
  generalize widths (kindT t) (numT t) width t.gap (colLeastL 400 t) (colWishL 400 t) = Z at w1 w2 w3 w4 w5 ⊢
  have h0 : ∀ x ∈ Z, 0 ≤ x := by
    intro x hx
    obtain ⟨j, hj, rfl⟩ := List.getElem_of_mem hx
    have a1 := w2 j
    have a2 := int_at l2 j (by omega)
    have a3 : Z.getD j 0 = Z[j] := by rw [List.getD_eq_getElem?_getD, List.getElem?_eq_getElem hj]; rfl
    omega
  have hup : Z = colLeastL 400 t ∨ sumI Z ≤ 300 := by
    by_cases hle : width - wideL (colLeastL 400 t) t.gap ≤ 0
    · exact .inl (w4 hle)
    · obtain ⟨b1, b2⟩ := w5 (by omega)
      by_cases ha : ∀ j, j < (colLeastL 400 t).length → kindT t j = 1
      · exact .inl (b1 ha)
      · refine .inr ?_
        have : ∃ j, j < (colLeastL 400 t).length ∧ kindT t j ≠ 1 := Classical.byContradiction fun hno => ha fun j hj => Classical.byContradiction fun hq => hno ⟨j, hj, hq⟩
        have := b2 this
        have hm := Int.mul_nonneg hg.1 (show 0 ≤ max (((colLeastL 400 t).length : Int) - 1) 0 by omega)
        omega
  intro x hx
  refine ⟨h0 x hx, ?_⟩
  rcases hup with rfl | hs
  · have := l2 x hx; omega
  · have := sumI_ge h0 x hx; omega
set_option maxHeartbeats 1000000 in
theorem impl_widthOk (t : Tbl) (A : Option Addr) (c : Nat) (A' : Option Addr) (c' : Nat) (width : Int) (w : World) (hw : Base w) (hc : Rd colR w A t.cols) (hr : Rd rowR w A' t.rows) :
    Calls Tryz.prog 92 #[.agg #[.slice A t.cols.length c, .int .i64 t.head, .int .i64 t.foot, .slice A' t.rows.length c', .int .i64 t.gap], .int .i64 width] w fun e w' => e = .returned (.bool (tblOk t && inB width 0 300)) ∧ Below w.heap.size w w' := by
  have hT := fun (W : World) (h : Below w.heap.size w W) => impl_TblOk t A c A' c' W (hw.below h) (hc.below h) (hr.below h)
  clear hw hc hr
  cases hok : tblOk t with
  | false =>
    rw [hok] at hT
    go_enter Tryz.func92, Tryz.ntmps92
    go_wp2_with fail
    refine (hT _ (balloc (brefl _) _)).mono ?_
    rintro e w1 ⟨rfl, hb⟩
    go_wp2_with fail
    go_ret
    exact ⟨rfl, step (balloc (brefl _) _) hb⟩
  | true =>
    rw [hok] at hT
    obtain ⟨b, hb0⟩ : ∃ b, inB width 0 300 = b := ⟨_, rfl⟩
    have hI := fun (W : World) => impl_in width 0 300 W
    rw [hb0] at hI ⊢
    clear hb0
    go_enter Tryz.func92, Tryz.ntmps92
    go_wp2_with fail
    refine (hT _ (balloc (brefl _) _)).mono ?_
    rintro e w1 ⟨rfl, hb⟩
    go_wp2_with (go_at_call 76; refine (hI _).mono ?_; rintro e w' ⟨rfl, rfl⟩)
    go_ret
    exact ⟨by simp, step (balloc (brefl _) _) hb⟩
set_option maxRecDepth 100000 in
set_option maxHeartbeats 8000000 in
theorem impl_WidCols (t : Tbl) (A : Option Addr) (c : Nat) (A' : Option Addr) (c' : Nat) (width : Int) (w : World) (hw : Base w) (hc : Rd colR w A t.cols) (hr : Rd rowR w A' t.rows) {k : Nat} (hy : GoodRows t k) :
    Calls Tryz.prog 41 #[.agg #[.slice A t.cols.length c, .int .i64 t.head, .int .i64 t.foot, .slice A' t.rows.length c', .int .i64 t.gap], .int .i64 width] w fun e w' => ∃ v, e = .returned v ∧ IOwn w' w.heap.size v (widColsL 400 t width) ∧ Below w.heap.size w w' := by
  have hT := fun (W : World) (h : Below w.heap.size w W) => impl_widthOk t A c A' c' width W (hw.below h) (hc.below h) (hr.below h)
  by_cases hq : tblOk t = true ∧ 0 ≤ width ∧ width ≤ 300
  · have hb1 : (tblOk t && inB width 0 300) = true := by rw [hq.1]; simp [inB]; omega
    rw [hb1] at hT
    obtain ⟨hok, hwd⟩ := hq
    have hG := fun (W : World) (h : Below w.heap.size w W) => impl_GrdOf t A c A' c' W (hw.below h) (hc.below h) (hr.below h)
    have hgr : gridOf 400 t = ⟨t.rows.length, (gridL 400 t).2, (gridL 400 t).1⟩ := by unfold gridOf; rw [if_pos hok]
    rw [hgr] at hG
    obtain ⟨n, hn, hn1, hcell, hcl⟩ := grid_need hok hy 400 leastT_in
    obtain ⟨n', hn', _, hcell2, _⟩ := grid_need hok hy 400 wishT_in
    have hnn : n = n' := by omega
    subst hnn
    have hle := grid_cols_le 400 t
    have hsm : Hid (∀ x ∈ (gridL 400 t).1, GSm x) := (GIn.rows (m := 400) hok).sm (by omega)
    have hres : Hid (widColsL 400 t width = widths (kindT t) (numT t) width t.gap (leastL t (gridL 400 t).1 n) (wishL t (gridL 400 t).1 n)) := by show widColsL 400 t width = _; unfold widColsL; rw [if_pos ⟨hok, hwd⟩, hn]; rfl
    rw [hres.out]
    rw [hn] at hG hle
    have hL := fun (W : World) (h : Below w.heap.size w W) GA gc hg => impl_cols t A c A' c' t.rows.length n (gridL 400 t).1 GA gc width W hok (hw.below h) (hc.below h) (hr.below h) hg hn1 hcell hcell2 (by omega) (by omega) hwd
    clear hgr hok hc hr hw hres hy hn hcell hcell2 hcl hn' hle hb1
    generalize gridL 400 t = GG at hG hL hsm ⊢
    obtain ⟨GL, GN⟩ := GG
    dsimp only at hG hL hsm ⊢
    generalize widths (kindT t) (numT t) width t.gap (leastL t GL n) (wishL t GL n) = ZZ at hL ⊢
    go_enter Tryz.func41, Tryz.ntmps41
    go_wp2_with fail
    refine (hT _ (balloc (brefl _) _)).mono ?_
    rintro e w1 ⟨rfl, hb⟩
    obtain ⟨c0, f0, s0⟩ := seenBk w.heap.size (by first | (simp; omega) | simp [*]) hb
    have HB := hide (step (balloc (brefl w) _) hb)
    clear hT
    go_upto_region 3 with fail
    go_region_with (first
      | (go_at_call 21; refine (hG _ ?_).mono ?_; (first | exact HB.out | exact bdrew HB.out | exact bdrew (bdrew HB.out)); rintro e w2 ⟨GA, gc, rfl, hown, hb2⟩; obtain ⟨c2, f2, s2⟩ := seenBk w.heap.size (by first | (simp; omega) | simp [*]) hb2; have hrd := grd_rd hown hsm.out)
      | (go_at_call 93; refine (hL _ ?_ GA gc ?_).mono ?_; (first | exact step HB.out hb2 | exact step (bdrew HB.out) hb2 | exact bdrew (step HB.out hb2) | exact bdrew (step (bdrew HB.out) hb2)); (first | exact hrd | exact hrd.below (bdrew (brefl _))); rintro e w3 ⟨v, rfl, hI, hb3⟩))
    all_goals
      have hsz : w.heap.size ≤ w2.heap.size := Nat.le_trans HB.out.size hb2.size
      go_wp2_with fail
      go_ret
      refine ⟨_, rfl, ?_, ?_⟩
      · first
          | exact hI.base hsz
          | exact (hI.base hsz).below (bdrew (brefl _))
      · (repeat' (with_reducible first | exact HB.out | refine bdrew ?_ | refine step ?_ (by with_reducible assumption)))
  · have hb1 : (tblOk t && inB width 0 300) = false := by
      rw [Bool.eq_false_iff]
      intro h9
      rw [Bool.and_eq_true] at h9
      have h8 := h9.2
      simp [inB] at h8
      exact hq ⟨h9.1, by omega, by omega⟩
    rw [hb1] at hT
    have hres : widColsL 400 t width = [] := by unfold widColsL; rw [if_neg hq]
    rw [hres]
    clear hres hc hr hw hy hb1 hq
    go_enter Tryz.func41, Tryz.ntmps41
    go_wp2_with fail
    refine (hT _ (balloc (brefl _) _)).mono ?_
    rintro e w1 ⟨rfl, hb⟩
    go_wp2_with fail
    go_ret
    exact ⟨_, rfl, IOwn.nil _ _, step (balloc (brefl _) _) hb⟩
theorem wideG_nil (gap : Int) : wideG gap [] = 0 := by
  unfold wideG
  have h0 : max (((([] : List Int).length : Nat) : Int) - 1) 0 = 0 := by decide
  rw [h0, sumI_nil, Int.mul_zero]; rfl
set_option maxHeartbeats 1000000 in
/-- Of no columns, whatever stands between. -/
theorem impl_wide0 (A : Option Addr) (c : Nat) (gap : Int) (w : World) (hr : Rd intR w A []) :
    Calls Tryz.prog 65 #[.slice A 0 c, .int .i64 gap] w fun e w' => e = .returned (.int .i64 0) ∧ Below w.heap.size w w' := by
  have hS := impl_sumOf A c [] w hr (fun x hx => by cases hx) (by simp)
  have hmax := max_int
  rw [sumI_nil] at hS
  have h0 : max (-1 : Int) 0 = 0 := by omega
  have t0 : gap * 0 = 0 := Int.mul_zero gap
  clear hr
  go_enter Tryz.func65, Tryz.ntmps65
  go_wp2_with (go_at_call 112; refine hS.mono ?_; rintro e w9 ⟨rfl, hw9⟩; obtain rfl := hw9.symm)
  go_ret
  exact ⟨by first | rfl | simp, by first | exact brefl _ | exact balloc (brefl _) _ | exact bdrew (brefl _)⟩
set_option maxRecDepth 100000 in
set_option maxHeartbeats 4000000 in
theorem impl_WidTable (t : Tbl) (A : Option Addr) (c : Nat) (A' : Option Addr) (c' : Nat) (width : Int) (w : World) (hw : Base w) (hc : Rd colR w A t.cols) (hr : Rd rowR w A' t.rows) {k : Nat} (hy : GoodRows t k) :
    Calls Tryz.prog 40 #[.agg #[.slice A t.cols.length c, .int .i64 t.head, .int .i64 t.foot, .slice A' t.rows.length c', .int .i64 t.gap], .int .i64 width] w fun e w' => e = .returned (.int .i64 (wideG t.gap (widColsL 400 t width))) ∧ Below w.heap.size w w' := by
  have hL := fun (W : World) (h : Below w.heap.size w W) => impl_WidCols t A c A' c' width W (hw.below h) (hc.below h) (hr.below h) hy
  have hWD : ∀ (W : World) (A2 : Option Addr) (d2 : Nat), Rd intR W A2 (widColsL 400 t width) → Calls Tryz.prog 65 #[.slice A2 (widColsL 400 t width).length d2, .int .i64 t.gap] W fun e w' => e = .returned (.int .i64 (wideG t.gap (widColsL 400 t width))) ∧ Below W.heap.size W w' := by
    intro W A2 d2 h9
    by_cases hq : tblOk t = true ∧ 0 ≤ width ∧ width ≤ 300
    · obtain ⟨n, _, h2, _, _, _, h3, h4, _⟩ := widCols_ok hq.1 hy hq.2
      exact impl_wide A2 d2 _ t.gap W h9 (fun x hx => by have := h4 x hx; omega) (by omega) (tblOk_parts hq.1).2.2.1
    · have e0 : widColsL 400 t width = [] := by unfold widColsL; rw [if_neg hq]
      rw [e0] at h9 ⊢
      rw [wideG_nil]
      exact impl_wide0 A2 d2 t.gap W h9
  generalize widColsL 400 t width = X at hL hWD ⊢
  generalize wideG t.gap X = wd at hWD ⊢
  clear hw hc hr hy
  go_enter Tryz.func40, Tryz.ntmps40
  have HB := hide (balloc (brefl w) (.cells #[.slice A t.cols.length c, .int .i64 t.head, .int .i64 t.foot, .slice A' t.rows.length c', .int .i64 t.gap] 26))
  go_upto_region 1 with fail
  go_region_with (first
    | (go_at_call 41; refine (hL _ ?_).mono ?_; (first | exact HB.out | exact bdrew HB.out); rintro e w2 ⟨v, rfl, hI, hb2⟩; obtain ⟨c2, f2, s2⟩ := seenBk w.heap.size (by first | (simp; omega) | simp [*]) hb2; obtain ⟨A2, d2, rfl⟩ := hI.form; have hrd := irow_rd hI)
    | (go_at_call 65; refine (hWD _ A2 d2 ?_).mono ?_; (first | exact hrd | exact hrd.below (bdrew (brefl _))); rintro e w3 ⟨rfl, hb3⟩))
  all_goals
    go_wp2_with fail
    go_ret
    refine ⟨rfl, ?_⟩
    (repeat' (with_reducible first | exact HB.out | refine bdrew ?_ | refine step ?_ (by with_reducible assumption)))
end Go.Proofs.YtpfagdmmhgcmnaaGreatDoor

namespace Go.Proofs.YtpfagdmmhgcmnaaGreatDoor
open Go.RowKit
/- A region that draws its order, of operations that read, of calls and operations that make memory, and of one that does more, the last of all (number m; none: m = n): of what each operation's slot holds a fact is told that outlives new memory. -/
structure PMid (K : Nat → Value → World → Prop) (n m : Nat) (dep : Nat → List Nat) (V : World) (R : World → Value → World → Prop) (st : Nat → Value) (l : Array Bool) (vs : Nat → Value) (W : World) : Prop where
  size : l.size = n
  closed : ∀ j, l.getD j false = true → ∀ e ∈ dep j, l.getD e false = true
  opened : l.getD m false = false → Below V.heap.size V W ∧ ∀ j, j < m → l.getD j false = true → K j (vs j) W
  done : l.getD m false = true → ∃ W1, Below V.heap.size V W1 ∧ (∀ j, j < m → l.getD j false = true → K j (vs j) W1) ∧ R W1 (vs m) W
  after : ∀ j, m < j → l.getD j false = true → vs j = vs m
  stale : l.getD m false = false → ∀ j, m < j → vs j = st j
/-- The last operation, if there is one, wants all ahead of it; behind it stand only such as hand its value on. -/
def LastP (n m : Nat) (dep : Nat → List Nat) : Prop := ∀ L : Nat → Prop, (∀ j, L j → ∀ e ∈ dep j, L e) → m < n → L m → ∀ j, j < m → L j
/-- What is told outlives new memory. -/
def StableP (K : Nat → Value → World → Prop) : Prop := ∀ j v W W', K j v W → Below W.heap.size W W' → K j v W'
section
variable {K : Nat → Value → World → Prop} {n m : Nat} {dep : Nat → List Nat} {V : World} {R : World → Value → World → Prop} {st : Nat → Value} {l : Array Bool} {vs : Nat → Value} {W W' : World}
theorem getD_over {l : Array Bool} {j : Nat} (h : l.getD j false = true) : j < l.size := by
  refine Nat.lt_of_not_le fun h9 => ?_
  simp [Array.getD, Nat.not_lt.2 h9] at h
theorem PMid.start : PMid K n m dep V R st (Array.replicate n false) st V :=
  ⟨by simp, fun j hj => by simp [Array.getD] at hj, fun _ => ⟨brefl V, fun j _ hj => by simp [Array.getD] at hj⟩, fun h => by simp [Array.getD] at h, fun j _ hj => by simp [Array.getD] at hj, fun _ _ _ => rfl⟩
theorem PMid.isopen (h : PMid K n m dep V R st l vs W) (hL : LastP n m dep) {i : Nat} (hi : i < n) (him : i ≤ m) (hl : l.getD i true = false) : l.getD m false = false := by
  cases h9 : l.getD m false with
  | false => rfl
  | true =>
    have hm : m < n := by have := getD_over h9; rw [h.size] at this; exact this
    rcases Nat.lt_or_eq_of_le him with hlt | rfl
    · have := hL (fun j => l.getD j false = true) h.closed hm h9 i hlt
      rw [getD_any (by rw [h.size]; exact hi) false true, hl] at this
      cases this
    · rw [getD_any (by rw [h.size]; exact hi) false true, hl] at h9; cases h9
theorem PMid.get (h : PMid K n m dep V R st l vs W) (hL : LastP n m dep) {i : Nat} (hi : i < n) (him : i ≤ m) (hl : l.getD i true = false) (j : Nat) (hjm : j < m) (hj : l.getD j false = true) : K j (vs j) W := (h.opened (h.isopen hL hi him hl)).2 j hjm hj
theorem PMid.below (h : PMid K n m dep V R st l vs W) (hL : LastP n m dep) {i : Nat} (hi : i < n) (him : i ≤ m) (hl : l.getD i true = false) : Below V.heap.size V W := (h.opened (h.isopen hL hi him hl)).1
theorem PMid.closed_set (h : PMid K n m dep V R st l vs W) (i : Nat) (hd : ∀ e ∈ dep i, l.getD e false = true) (hi : i < n) :
    ∀ j, (l.setIfInBounds i true).getD j false = true → ∀ e ∈ dep j, (l.setIfInBounds i true).getD e false = true := by
  intro j hj e he
  have hup : l.getD e false = true → (l.setIfInBounds i true).getD e false = true := fun h0 => by
    by_cases e1 : e = i
    · subst e1; simp [Array.getD, h.size, hi]
    · rw [getD_set_ne false (Ne.symm e1)]; exact h0
  by_cases e2 : j = i
  · subst e2; exact hup (hd e he)
  · rw [getD_set_ne false (Ne.symm e2)] at hj
    exact hup (h.closed j hj e he)
theorem PMid.next (h : PMid K n m dep V R st l vs W) (hL : LastP n m dep) (hS : StableP K) (i : Nat) (hi : i < n) (him : i < m) (hl : l.getD i true = false) (v : Value) (hd : ∀ e ∈ dep i, l.getD e false = true) (hb : Below W.heap.size W W') (hk : K i v W') :
    PMid K n m dep V R st (l.setIfInBounds i true) (updV vs i v) W' := by
  have ho := h.isopen hL hi (Nat.le_of_lt him) hl
  obtain ⟨hB, hK⟩ := h.opened ho
  refine ⟨by simpa using h.size, h.closed_set i hd hi, fun _ => ⟨step hB hb, fun j hjm hj => ?_⟩, fun h9 => ?_, fun j hjm hj => ?_, fun h9 j hjm => ?_⟩
  · unfold updV
    by_cases e : j = i
    · subst e; rw [if_pos rfl]; exact hk
    · rw [if_neg e]
      rw [getD_set_ne false (Ne.symm e)] at hj
      exact hS j _ _ _ (hK j hjm hj) hb
  · rw [getD_set_ne false (by omega), ho] at h9; cases h9
  · unfold updV
    rw [if_neg (by omega), if_neg (by omega)]
    rw [getD_set_ne false (by omega)] at hj
    exact h.after j hjm hj
  · unfold updV
    rw [if_neg (by omega)]
    exact h.stale ho j hjm
theorem PMid.still (h : PMid K n m dep V R st l vs W) (hL : LastP n m dep) (hS : StableP K) (i : Nat) (hi : i < n) (him : i < m) (hl : l.getD i true = false) (v : Value) (hd : ∀ e ∈ dep i, l.getD e false = true) (hk : K i v W) :
    PMid K n m dep V R st (l.setIfInBounds i true) (updV vs i v) W := h.next hL hS i hi him hl v hd (brefl W) hk
theorem PMid.post (h : PMid K n m dep V R st l vs W) (i : Nat) (hi : i < n) (him : m < i) (hlm : l.getD m false = true) (hd : ∀ e ∈ dep i, l.getD e false = true) :
    PMid K n m dep V R st (l.setIfInBounds i true) (updV vs i (vs m)) W := by
  refine ⟨by simpa using h.size, h.closed_set i hd hi, fun h9 => ?_, fun _ => ?_, fun j hjm hj => ?_, fun h9 => (by rw [getD_set_ne false (by omega), hlm] at h9; cases h9)⟩
  · rw [getD_set_ne false (by omega), hlm] at h9; cases h9
  · obtain ⟨W1, h1, h2, h3⟩ := h.done hlm
    refine ⟨W1, h1, fun j hj hj2 => ?_, ?_⟩
    · unfold updV
      rw [if_neg (by omega)]
      rw [getD_set_ne false (by omega)] at hj2
      exact h2 j hj hj2
    · unfold updV
      rw [if_neg (by omega)]; exact h3
  · unfold updV
    rw [if_neg (show m ≠ i by omega)]
    by_cases e : j = i
    · rw [if_pos e]
    · rw [if_neg e]
      rw [getD_set_ne false (Ne.symm e)] at hj
      exact h.after j hjm hj
theorem PMid.fin0 (h : PMid K n m dep V R st l vs W) (hm : n ≤ m) (hall : ∀ j, j < n → l.getD j true = true) : Below V.heap.size V W ∧ ∀ j, j < n → K j (vs j) W := by
  have ho : l.getD m false = false := by
    cases h9 : l.getD m false with
    | false => rfl
    | true => have := getD_over h9; rw [h.size] at this; omega
  obtain ⟨hB, hK⟩ := h.opened ho
  exact ⟨hB, fun j hj => hK j (by omega) (by rw [getD_any (by rw [h.size]; exact hj) false true]; exact hall j hj)⟩
theorem PMid.fin (h : PMid K n m dep V R st l vs W) (hm : m < n) (hall : ∀ j, j < n → l.getD j true = true) : ∃ W1, Below V.heap.size V W1 ∧ (∀ j, j < m → K j (vs j) W1) ∧ R W1 (vs m) W ∧ ∀ j, m < j → j < n → vs j = vs m := by
  have h9 := hall m hm
  rw [getD_any (by rw [h.size]; exact hm) true false] at h9
  obtain ⟨W1, h1, h2, h3⟩ := h.done h9
  have hall2 : ∀ j, j < n → l.getD j false = true := fun j hj => by rw [getD_any (by rw [h.size]; exact hj) false true]; exact hall j hj
  exact ⟨W1, h1, fun j hj => h2 j hj (hall2 j (by omega)), h3, fun j hj hjn => h.after j hj (hall2 j hjn)⟩
theorem lastP_none (h : n ≤ m) : LastP n m dep := fun _ _ h1 => by omega
end
end Go.Proofs.YtpfagdmmhgcmnaaGreatDoor

namespace Go.Proofs.YtpfagdmmhgcmnaaGreatDoor
open Go.RowKit
/- ColLeast and ColWish on the reference's side. -/
end Go.Proofs.YtpfagdmmhgcmnaaGreatDoor
