import Derived.Test.YtgdmcmicfoamlaaGreatDoorMixDo
set_option linter.unusedVariables false
set_option linter.unusedSimpArgs false
set_option maxHeartbeats 8000000
set_option maxRecDepth 100000
namespace Go.Proofs.YtgdmcmicfoamlaaGreatDoor
open Go.RowKit
theorem Zli {ws : List Int} (h : Zq ws = 0) : Zd0 ws = List.replicate ws.length 1 := by
 unfold Zd0; rw [if_pos h, List.map_const']
theorem Zmb {ws : List Int} (h : ¬ Zq ws = 0) : Zd0 ws = ws := by unfold Zd0; rw [if_neg h]
theorem Zq0 {ws : List Int} (h : ∀ x ∈ ws, 0 ≤ x ∧ x ≤ 100000) : ∀ x ∈ Zd0 ws, 0 ≤ x ∧ x ≤ 100000 := by
 unfold Zd0
 split
 · intro x hx
   obtain ⟨y, _, rfl⟩ := List.mem_map.1 hx
   decide
 exact h
def Zbq {α : Type} (d : α) (xs : List α) (k : Nat) : List α := xs.take k ++ List.replicate (xs.length - k) d
theorem Zm5 {α : Type} (d : α) (xs : List α) (k : Nat) (h : k ≤ xs.length) : (Zbq d xs k).length = xs.length := by simp [Zbq]; omega
theorem Zl6 {α : Type} (d : α) (xs : List α) : Zbq d xs xs.length = xs := by simp [Zbq]
theorem Zrp {α : Type} (d : α) (xs : List α) (k : Nat) (h : k < xs.length) : (Zbq d xs k).set k xs[k] = Zbq d xs (k + 1) := by
 unfold Zbq
 rw [show xs.length - k = (xs.length - (k + 1)) + 1 by omega, List.replicate_succ, List.set_append_right _ _ (by simp; omega), List.take_succ_eq_append_getElem h]
 simp only [List.length_take, show k - min k xs.length = 0 by omega, List.set_cons_zero, List.append_assoc, List.cons_append, List.nil_append]
theorem Zjr {α : Type} (d d' : α) (xs : List α) (k : Nat) (h : k < xs.length) : (Zbq d xs k).set k (xs.getD k d') = Zbq d xs (k + 1) := by
 rw [List.getD_eq_getElem?_getD, List.getElem?_eq_getElem h]; exact Zrp d xs k h
theorem Zh7 (total sum : Int) (vs : List Int) (k : Nat) : (Qc total sum vs).getD k 0 = total * vs.getD k 0 / sum := by
 unfold Qc
 rw [List.getD_eq_getElem?_getD, List.getD_eq_getElem?_getD, List.getElem?_map]
 cases vs[k]? <;> simp
theorem Zn.other {w : World} {base g c n : Nat} {xs : List Int} (h : Zn w base (.slice (some ⟨g, 0, none⟩) n c) xs) {a : Addr} (ha : a.block ≠ g) (u : Value) : Zn (w.setCell a u) base (.slice (some ⟨g, 0, none⟩) n c) xs :=
 Jl h fun b hb => Zak w a u b (by simp [Value.ownBlock] at hb; omega)
theorem Zn.grow {w w' : World} {base g c n R : Nat} {xs : List Int} (h : Zn w base (.slice (some ⟨g, 0, none⟩) n c) xs) (hg : w.grownBy w' (some R)) (hR : R ≠ g) : Zn w' base (.slice (some ⟨g, 0, none⟩) n c) xs :=
 Jl h fun b hb => hg.block b (Qo h hb).2 (fun e => by injection e with e; simp [Value.ownBlock] at hb; omega)
theorem Zi7.store {w : World} {base g c n : Nat} {L : List Nat} (h : Zi7 w base g c n L) (j y : Nat) : Zi7 (w.setCell ⟨g, j, none⟩ (.int .i64 (y : Int))) base g c n (L.set j y) := by
 refine ⟨by simpa using h.1, ?_⟩
 rw [List.map_set]
 exact (World.ownsRow.stored h.2 j (Zog y)).1
theorem Zi7.other {w : World} {base g c n : Nat} {L : List Nat} (h : Zi7 w base g c n L) {a : Addr} (ha : a.block ≠ g) (u : Value) : Zi7 (w.setCell a u) base g c n L :=
 ⟨h.1, Jl h.2 fun b hb => Zak w a u b (by simp [Value.ownBlock] at hb; omega)⟩
theorem Zn.len {w : World} {base : Nat} {A : Option Addr} {c n : Nat} {xs : List Int} (h : Zn w base (.slice A n c) xs) : n = xs.length := by obtain ⟨_, _, e⟩ := h.form; injection e
theorem Zn.at_rd {w : World} {base g c n : Nat} {xs : List Int} (h : Zn w base (.slice (some ⟨g, 0, none⟩) n c) xs) : Rd Za4 w (some ⟨g, 0, none⟩) xs := by
 obtain ⟨A, c', e, _, hr⟩ := h.rd
 injection e with e1
 rw [e1]; exact hr
theorem Zb5 (W : World) (base n : Nat) (hb : base ≤ W.heap.size) (hn : n ≤ 1000000) : Zn (W.alloc (.cells (madeCells (Value.int .i64 0).cells (n * 1)) 3)) base (.slice (some ⟨W.heap.size, 0, none⟩) n n) (List.replicate n 0) := by
 have h := Zol W base (Value.int .i64 0).cells 1 n 3 hb (by omega)
 have e : (madeCells (Value.int .i64 0).cells (n * 1)).toList = (List.replicate n (0 : Int)).flatMap Zc5 := by
  rw [Zfh]
  refine List.ext_getElem (by simp [madeCells]) fun i h1 h2 => ?_
  simp [madeCells, Value.cells, Nat.mod_one]
 unfold Zn
 rw [List.length_replicate, ← e]
 exact h
theorem Zq9 (W : World) (base n : Nat) (hb : base ≤ W.heap.size) (hn : n ≤ 1000000) : Zi7 (W.alloc (.cells (madeCells (Value.int .i64 0).cells (n * 1)) 3)) base W.heap.size n n (List.replicate n 0) := by
 have h := Zb5 W base n hb hn
 unfold Zn at h
 rw [List.length_replicate] at h
 refine ⟨by simp, ?_⟩
 have e : (List.replicate n (0 : Int)).flatMap Zc5 = (List.replicate n 0).map Zog := by rw [Zfh]; simp [Zog]
 rw [← e]
 exact h
theorem Zn.drewN {w : World} {base : Nat} {v : Value} {xs : List Int} (h : Zn w base v xs) (q : Nat) : Zn (w.drewN q) base v xs := Zco h q
theorem Zam {w W : World} (h : Below w.heap.size w W) : ∀ q, Below w.heap.size w (W.drewN q)
 | 0 => h
 | q + 1 => by
  have := Zam (Zt h) q
  rw [show q + 1 = 1 + q by omega]; simpa using this
theorem Zok : ∀ (is : List Nat) (out : List Int) (j : Nat), (Zat out is).getD j 0 ≤ out.getD j 0 + is.length
 | [], _, _ => by simp [Zat]
 | i :: is, out, j => by
  rw [Zat]
  refine Int.le_trans (Zok is _ j) ?_
  rw [List.length_cons]
  have : (out.set i (out.getD i 0 + 1)).getD j 0 ≤ out.getD j 0 + 1 := by
   simp only [List.getD_eq_getElem?_getD, List.getElem?_set]
   by_cases e : i = j
   · subst e
     by_cases h : i < out.length
     · simp [h]
     simp [h]
   simp [e]
   omega
  omega
theorem Zph {ord : List Nat} {j : Nat} (h : j < ord.length) (out : List Int) : Zat out (ord.take (j + 1)) = (Zat out (ord.take j)).set (ord.getD j 0) ((Zat out (ord.take j)).getD (ord.getD j 0) 0 + 1) := by
 rw [List.take_succ_eq_append_getElem h, Zmz, List.getD_eq_getElem?_getD (l := ord), List.getElem?_eq_getElem h]
 rfl
theorem Zcw (total : Int) (A : Option Addr) (c : Nat) (ws : List Int) (w : World) (hr : Rd Za4 w A ws) (h : Zoi total ws) (hn : 0 < ws.length) :
 Calls Tryz.prog 166 #[.int .i64 total, .slice A ws.length c] w (fun e w' => ∃ v, e = .returned v ∧ Zn w' w.heap.size v (Ye total ws) ∧ Below w.heap.size w w') := by
 have hOK := fun (W : World) (hb : Below w.heap.size w W) => Zj7 total A c ws W (hr.below hb) h
 have hSUM := fun (W : World) (hb : Below w.heap.size w W) => Zbm A c ws W (hr.below hb) (fun x hx => by have := h.2.1 x hx; omega) (by have := h.2.2; omega)
 have HR := Za hr
 have HI := Za h
 have hln := h.2.2
 have hn1 : (((ws.length : Nat) : Int) == 0) = false := by rw [beq_eq_false_iff_ne]; omega
 obtain ⟨n, hnn⟩ : ∃ n, n = ws.length := ⟨_, rfl⟩
 have HN := Za hnn
 rw [← hnn] at hOK hSUM hn hn1 hln ⊢
 clear hr h hnn
 go_enter Tryz.func166, Tryz.ntmps166
 go_wp2_with fail
 refine (hOK _ (Zc (Zc (Zf _) _) _)).mono ?_
 rintro e w1 ⟨rfl, hb1⟩
 obtain ⟨c0, f0, s0⟩ := Jc w.heap.size (by first | (simp; omega) | simp [*]) hb1
 obtain ⟨c1, f1, s1⟩ := Jc (w.heap.size + 1) (by first | (simp; omega) | simp [*]) hb1
 have HB1 := step (Zc (Zc (Zf w) _) _) hb1
 have d0 : w1.cell? ⟨w.heap.size, 0, none⟩ = some (.int .i64 total) := by simp [c0]
 have d1 : w1.cell? ⟨w.heap.size + 1, 0, none⟩ = some (.slice A n c) := by simp [c1]
 have d2 : w1.frozen? ⟨w.heap.size + 1, 0, none⟩ = false := by simp [f1]
 clear c0 f0 c1 f1 hOK hb1
 have hS1 := hSUM w1 HB1
 have HB1 := Za HB1
 clear hSUM
 generalize hsum : Zq ws = s at hS1
 have HS := Za hsum
 clear hsum
 go_upto_if 23 with (go_at_call 90; refine hS1.mono ?_; rintro e w9 ⟨rfl, hw9⟩; obtain rfl := hw9.symm)
 go_cut [] from 23 to 27 (fun wx => ∃ (b' o' c' : Nat), Below w.heap.size w wx ∧ wx.cell? ⟨w.heap.size, 0, none⟩ = some (.int .i64 total) ∧ wx.cell? ⟨w.heap.size + 1, 0, none⟩ = some (.slice (some ⟨b', o', none⟩) n c') ∧ Rd Za4 wx (some ⟨b', o', none⟩) (Zd0 ws) ∧ b' < wx.heap.size ∧ w.heap.size + 1 < wx.heap.size)
 case first =>
  by_cases hz : s = 0
  ·
   have hz1 : (s == 0) = true := by simp [hz]
   have HO := Za (Zli (HS.out.trans hz))
   clear hz hS1
   have hrep := fun (b : Nat) (W : World) (hc : W.cell? ⟨b, 0, none⟩ = some (.int .i64 1)) => Zs3 b n W hc (by omega) (by omega)
   go_wp2_with fail
   refine (hrep w1.heap.size _ (by simp)).mono ?_
   rintro e w2 ⟨v, rfl, hO, hb2⟩
   obtain ⟨g, c', rfl, hg1, hg2, hg3, hg4⟩ := hO.at (by simp; omega)
   have e0 := Zo hb2 (show (w1.alloc (.cells #[.int .i64 1] 3)).cell? ⟨w.heap.size, 0, none⟩ = some (.int .i64 total) from Zo (Zc (Zf _) _) d0)
   have e1 := Zo hb2 (show (w1.alloc (.cells #[.int .i64 1] 3)).cell? ⟨w.heap.size + 1, 0, none⟩ = some (.slice A n c) from Zo (Zc (Zf _) _) d1)
   have e2 : w2.frozen? ⟨w.heap.size + 1, 0, none⟩ = false := ((Jc (w.heap.size + 1) (by simp; omega) hb2).2.1 0).trans (((Jc _ s1 (Zc (Zf w1) (.cells #[.int .i64 1] 3))).2.1 0).trans d2)
   have HO2 := Za hO
   have HB2 := Za (step (Zc HB1.out _) hb2)
   have hl1 : w.heap.size + 1 < w2.heap.size := by have := hb2.size; simp at this; omega
   have hl2 : w1.heap.size + 1 ≤ g := by simpa using hg1
   clear hO hb2 hg1 hg3 hg4
   simp only [List.length_replicate] at HO2 ⊢
   go_wp2_with fail
   go_meet
   refine ⟨g, 0, c', Yi HB2.out (by show w.heap.size ≤ w.heap.size + 1; omega) _, Zaa e0 (by simp), Zii e1, ?_, by simpa using hg2, by simpa using hl1⟩
   rw [HO.out, ← HN.out]
   exact (Zn.other HO2.out (by show w.heap.size + 1 ≠ g; omega) _).at_rd
  have hz1 : (s == 0) = false := by simp [hz]
  have HO := Za (Zmb (ws := ws) (by rw [HS.out]; exact hz))
  clear hz hS1
  have hr1 := HR.out.below HB1.out
  obtain ⟨b, o, e, hlb, _⟩ := hr1.2 (by intro e; have := HN.out; rw [e] at this; simp at this; omega)
  subst e
  have HR1 := Za hr1
  clear hr1
  go_wp2_with fail
  go_meet
  case rel => exact ⟨b, o, c, HB1.out, d0, d1, by rw [HO.out]; exact HR1.out, hlb, s1⟩
 case rest =>
 obtain ⟨b', o', c', hBc, cT, cW, hRc, hlb, hls⟩ := hcut
 have hvl : (Zd0 ws).length = n := by rw [Zfq, HN.out]
 have hvb := Zq0 HI.out.2.1
 obtain ⟨hp1, hp2⟩ := Zjt (ws := ws) (fun x hx => (HI.out.2.1 x hx).1) (by intro e; have := HN.out; rw [e] at this; simp at this; omega)
 have HSH : Hid (Ye total ws = Zgr total (Zd0 ws)) := rfl
 have ht := HI.out.1
 generalize Zd0 ws = vs at hRc hvl hvb hp1 HSH
 clear hp2 HR HI HS HB1 hS1 d0 d1 d2 s0 s1
 have hsb := Zdl (B := 100000) hvb vs.length
 rw [List.take_length, hvl] at hsb
 have hS2 := Zbm (some ⟨b', o', none⟩) c' vs wc hRc (fun x hx => by have := hvb x hx; omega) (by omega)
 rw [hvl] at hS2
 obtain ⟨S, hS⟩ : ∃ S, Zq vs = S := ⟨_, rfl⟩
 rw [hS] at hS2 hp1 hsb
 have hSle : S ≤ 100000000 := by have := hsb.2; omega
 have hmk := Zde (P := Tryz.prog) (z := .int .i64 0) (k := 1) (bytes := 8) Yl Yu n (by omega) (by omega)
 have q1 : w.heap.size + 1 < wc.heap.size + 1 := by omega
 have q2 : w.heap.size + 1 < wc.heap.size + 1 + 1 := by omega
 have q3 : w.heap.size < wc.heap.size := by omega
 have q4 : w.heap.size < wc.heap.size + 1 := by omega
 have q5 : w.heap.size < wc.heap.size + 1 + 1 := by omega
 have HBC := Za hBc
 have HRC := Za hRc
 have HSS := Za hS
 have HVL := Za hvl
 have HVB := Za hvb
 clear hBc hRc hS hvl hvb hsb
 go_upto_region 6 with (go_at_call 90; refine hS2.mono ?_; rintro e w9 ⟨rfl, hw9⟩; obtain rfl := hw9.symm)
 clear hS2
 go_wp2_with fail
 generalize hW3 : ((wc.alloc _).alloc _).alloc _ = W3
 obtain ⟨B, hB⟩ : ∃ B, B = wc.heap.size := ⟨_, rfl⟩
 have FW : Hid (Below wc.heap.size wc W3 ∧ W3.cell? ⟨B, 0, none⟩ = some (.int .i64 S) ∧ Zn W3 (B + 1) (.slice (some ⟨B + 1, 0, none⟩) n n) (List.replicate n 0) ∧ Zi7 W3 (B + 1) (B + 2) n n (List.replicate n 0) ∧ B + 2 < W3.heap.size) := by
  subst hW3; subst hB
  have e1 : (wc.alloc (.cells #[.int .i64 S] 3)).heap.size = wc.heap.size + 1 := by simp
  have e2 : ((wc.alloc (.cells #[.int .i64 S] 3)).alloc (.cells (madeCells (Value.int .i64 0).cells n) 3)).heap.size = wc.heap.size + 1 + 1 := by simp
  have m1 := Zb5 (wc.alloc (.cells #[.int .i64 S] 3)) (wc.heap.size + 1) n (Nat.le_of_eq e1.symm) (by omega)
  have m2 := Zq9 ((wc.alloc (.cells #[.int .i64 S] 3)).alloc (.cells (madeCells (Value.int .i64 0).cells n) 3)) (wc.heap.size + 1) n (by rw [e2]; omega) (by omega)
  rw [Nat.mul_one] at m1 m2
  rw [e1] at m1
  rw [e2] at m2
  exact ⟨Zc (Zc (Zc (Zf _) _) _) _, Zo (Zc (Zf _) _) (Zo (Zc (Zf _) _) (Zj wc _ _ _ 0 _ rfl)), m1.below (Zc (Zf _) _), m2, by simp⟩
 rw [← hB]
 have hB2 : B + 1 + 1 = B + 2 := rfl
 rw [hB2]
 have hBl1 : w.heap.size + 1 < B := by omega
 have hBl2 : b' < B := by omega
 have HBB := Za hB
 clear hW3 hB q1 q2 q3 q4 q5 hlb hls hmk hB2
 have fl0 : Hid (Zbq 0 (Qc total S vs) 0 = List.replicate n 0) := by show Zbq _ _ _ = _; unfold Zbq; rw [List.take_zero, List.nil_append, Nat.sub_zero, show (Qc total S vs).length = n by simp [Qc, HVL.out]]
 have fl1 : Hid (Zbq 0 (List.range n) 0 = List.replicate n 0) := by show Zbq _ _ _ = _; unfold Zbq; simp
 go_loopg [8, 9, 38] n (fun gg s8 s9 s38 wr => ∃ k : Nat, s38 = .int .i64 k ∧ k ≤ n ∧ n - k ≤ gg ∧ Aside (Below wc.heap.size wc wr) ∧ wr.cell? ⟨B, 0, none⟩ = some (.int .i64 S) ∧ Aside (Zn wr (B + 1) (.slice (some ⟨B + 1, 0, none⟩) n n) (Zbq 0 (Qc total S vs) k)) ∧ Aside (Zi7 wr (B + 1) (B + 2) n n (Zbq 0 (List.range n) k)) ∧ Aside (B + 2 < wr.heap.size))
 case atStart => exact ⟨0, rfl, Nat.zero_le _, by omega, FW.out.1, FW.out.2.1, by rw [fl0.out]; exact FW.out.2.2.1, by rw [fl1.out]; exact FW.out.2.2.2.1, FW.out.2.2.2.2⟩
 obtain ⟨k, rfl, hkn, hgg, BW, cS, HO, HP, HL⟩ := hrel
 clear FW fl0 fl1
 have cT1 := Zo BW.out cT
 have cW1 := Zo BW.out cW
 by_cases hlt : k < n
 ·
  have hltz : (k : Int) < (n : Int) := by omega
  have hHL := HL.out
  obtain ⟨b1, o1, e1, _, c1⟩ := Za3 HRC.out BW.out k (by rw [HVL.out]; exact hlt)
  injection e1 with e1; injection e1 with e1 e1'; subst e1; subst e1'
  have hpl : (Qc total S vs).length = n := by simp [Qc, HVL.out]
  have x1 := HO.out.cell (j := k) (by rw [Zm5 _ _ _ (by omega), hpl]; exact hlt)
  have x2 := HO.out.frozen k
  have y1 : wr.cell? ⟨B + 2, k, none⟩ = some (.int .i64 ((Zbq 0 (List.range n) k).getD k 0 : Nat)) := by
   have hl := HP.out.1
   have := World.ownsRow.cellAt HP.out.2 k (by omega)
   rw [this, List.getElem?_map, List.getElem?_eq_getElem (by omega), List.getD_eq_getElem?_getD, List.getElem?_eq_getElem (by omega)]
   rfl
  have y2 : wr.frozen? ⟨B + 2, k, none⟩ = false := World.ownsRow.frozenAt HP.out.2 k
  have hst1 := Zjr 0 0 (Qc total S vs) k (by omega)
  have hst2 := Zjr 0 0 (List.range n) k (by simpa using hlt)
  rw [Zh7] at hst1
  have hrg : (List.range n).getD k 0 = k := by rw [List.getD_eq_getElem?_getD, List.getElem?_range hlt]; rfl
  rw [hrg] at hst2
  have hv := Yn HVB.out k (by rw [HVL.out]; exact hlt)
  generalize vs.getD k 0 = v at c1 hst1 hv
  generalize (Zbq 0 (Qc total S vs) k).getD k 0 = ov at x1
  generalize (Zbq 0 (List.range n) k).getD k 0 = nv at y1
  obtain ⟨m1, m2⟩ := Zgz ht hv
  have r1 : (total * v).tdiv S = total * v / S := Int.tdiv_eq_ediv_of_nonneg m1
  have u1 : 0 ≤ total * v / S := Int.ediv_nonneg m1 (by omega)
  have u2 : total * v / S ≤ total * v := Int.ediv_le_self _ m1
  have t1 := IntWalk.i64_in (total * v) (by omega)
  generalize hP : total * v = P at *
  have t2 : IntKind.i64.wrap (P.tdiv S) = P / S := by rw [r1, IntKind.wrap_i64]; omega
  have hs0 : (S == 0) = false := by rw [beq_eq_false_iff_ne]; omega
  have n1 : ¬ B + 1 = B + 2 := by omega
  have n2 : ¬ B + 2 = B + 1 := by omega
  have HPP := Za hP
  have HS1 := Za hst1
  have HS2 := Za hst2
  have b1 : B + 1 < wr.heap.size := by omega
  have b2 : B + 2 < wr.heap.size := hHL
  clear m1 m2 u1 u2 r1 hv hst1 hst2 hrg hpl hHL
  go_wp2_with fail
  go_roundg (n - (k + 1))
  case measure => omega
  have e1 := HS1.out
  have e2 := HS2.out
  refine ⟨k + 1, by go_num, by omega, by omega, Yi (Yi BW.out (by have := HBB.out; show wc.heap.size ≤ B + 1; omega) _) (by have := HBB.out; show wc.heap.size ≤ B + 2; omega) _, Zaa (Zaa cS (by simp)) (by simp), ?_, ?_, (show Aside _ from by show B + 2 < _; simpa using HL.out)⟩
  · rw [← e1]
    exact Zn.other (Zn.store HO.out k _) (by show B + 2 ≠ B + 1; omega) _
  rw [← e2]
  exact Zi7.store (Zi7.other HP.out (by show B + 1 ≠ B + 2; omega) _) k k
 have hltz : ¬ (k : Int) < (n : Int) := by omega
 have hk : k = n := by omega
 subst hk
 have hO := HO.out
 have hP := HP.out
 rw [show Zbq 0 (Qc total S vs) k = Qc total S vs by have := Zl6 0 (Qc total S vs); rwa [show (Qc total S vs).length = k by simp [Qc, HVL.out]] at this] at hO
 rw [show Zbq 0 (List.range k) k = List.range k by have := Zl6 0 (List.range k); rwa [List.length_range] at this] at hP
 have hless := Zsj total S vs w.heap.size (w.heap.size + 1) B b' o' c' (B + 2) k wr ht HVB.out ⟨hp1, hSle⟩ HVL.out cT1 cW1 cS (HRC.out.below BW.out) (by omega) (by omega) (by omega) (by omega) (by omega)
 have hsrt := Zko wr (B + 1) (B + 2) k k 213 #[.pointer (some ⟨w.heap.size, 0, none⟩), .pointer (some ⟨w.heap.size + 1, 0, none⟩), .pointer (some ⟨B, 0, none⟩)] (Jx total S vs) (enters_of Tryz.func213 (by kernel_rfl) rfl) hless (by omega) wr (List.range k) ⟨hP, Jk _ _, fun x hx => List.mem_range.1 hx⟩
 obtain ⟨hsp1, hsp2⟩ := Zn4 (Jx total S vs) k
 have hlo : (Zcx (Jx total S vs) k (List.range k)).length = k := by rw [hsp2.length_eq, List.length_range]
 generalize Zcx (Jx total S vs) k (List.range k) = ord at hsrt hsp1 hsp2 hlo
 have HO2 := Za hO
 have HX := Za (And.intro hsp1 hsp2)
 have HLO := Za hlo
 have hmf := @Zhu Tryz.prog
 clear HO HP hO hP hless hsp1 hsp2 hlo
 go_wp2_with fail
 refine hsrt.mono ?_
 rintro _ w4 ⟨rfl, HS4⟩
 have hO4 := HO2.out.grow HS4.grow (by omega)
 have hpb : ∀ x ∈ Qc total S vs, 0 ≤ x ∧ x ≤ 1000000 := by
  intro x hx
  obtain ⟨y, hy, rfl⟩ := List.mem_map.1 hx
  have hv := HVB.out y hy
  obtain ⟨m1, m2⟩ := Zgz ht hv
  refine ⟨Int.ediv_nonneg m1 (by omega), ?_⟩
  -- a part is no more than the total
  have h1 := Zby (fun z hz => (HVB.out z hz).1) y hy
  rw [HSS.out] at h1
  have h2 : total * y ≤ total * S := Int.mul_le_mul_of_nonneg_left h1 ht.1
  have h3 : total * y / S ≤ total * S / S := Int.ediv_le_ediv hp1 h2
  rw [Int.mul_ediv_cancel _ (by omega)] at h3
  omega
 obtain ⟨rb1, rb2⟩ := Zc3 (total := total) (ws := vs) (by rw [HSS.out]; exact hp1)
 rw [HSS.out] at rb1 rb2
 rw [HVL.out] at rb2
 have hpl : (Qc total S vs).length = k := by simp [Qc, HVL.out]
 have hsw := Zgs (total := total) (ws := vs) (ord := ord) (by rw [HSS.out]; exact HX.out.1) (by rw [HVL.out]; exact HX.out.2) (by rw [HSS.out, HVL.out]; omega)
 rw [HSS.out] at hsw
 have hps0 := (Zdl (B := 1000000) hpb (Qc total S vs).length).1
 rw [List.take_length] at hps0
 have hsum := fun (q : Nat) => Zbm (some ⟨B + 1, 0, none⟩) k (Qc total S vs) (w4.drewN q) ((hO4.drewN q).at_rd) hpb (by omega)
 rw [hpl] at hsum
 generalize hPS : Zq (Qc total S vs) = ps at rb1 rb2 hsw hsum hps0
 obtain ⟨r, hr⟩ := Int.eq_ofNat_of_zero_le (show 0 ≤ total - ps by omega)
 rw [hr, Int.toNat_natCast] at hsw
 have t1 : IntKind.i64.wrap (total - ps) = (r : Int) := by rw [IntKind.wrap_i64]; omega
 have hrk : r ≤ k := by omega
 have hrk2 : (r : Int) ≤ (k : Int) := by omega
 have HSW := Za (HSH.out.trans hsw)
 have cT4 : w4.cell? ⟨w.heap.size, 0, none⟩ = some (.int .i64 total) := by
  have hlt := World.block_lt_of_cell? wr _ cT1
  rw [World.cell?_of_block (HS4.grow.block w.heap.size hlt (fun e => by injection e with e; omega))]
  exact cT1
 have HO4 := Za hO4
 have HB4 := Za (step HBC.out (BW.out.trans (Qg HS4.grow (by have := BW.out.size; omega) (fun q hq => by injection hq with hq; have := HBB.out; omega))))
 have HS5 := Za HS4
 have HPL := Za hpl
 have HLT := Za (fun x hx => List.mem_range.1 (HX.out.2.mem_iff.1 hx) : ∀ x ∈ ord, x < k)
 clear hsw hpl hps0 rb1 rb2 hPS hr hpb HS4 hO4 hsrt
 go_wp2_with fail
 go_quiet (first | (go_at_call 90; refine Calls.quiet_of_same (hsum _)))
 go_wp2_with fail
 have HS6 := Za (HS5.out.drewN nq)
 have HO6 : Hid (Zn (w4.drewN nq) (B + 1) (.slice (some ⟨B + 1, 0, none⟩) k k) (Qc total S vs)) := HO4.out.drewN nq
 have HB6 : Hid (Below w.heap.size w (w4.drewN nq)) := Zam HB4.out nq
 clear HS5 HO4 HB4 hsum cT4 t1
 generalize w4.drewN nq = w5 at HS6 HO6 HB6 ⊢
 go_loopg [11, 66] r (fun gg s11 s66 wx => ∃ j : Nat, s66 = .int .i64 j ∧ j ≤ r ∧ r - j ≤ gg ∧ Aside (w5.grownBy wx (some (B + 1))) ∧ Aside (Zn wx (B + 1) (.slice (some ⟨B + 1, 0, none⟩) k k) (Zat (Qc total S vs) (ord.take j))))
 case atStart => exact ⟨0, rfl, Nat.zero_le _, by omega, Jk _ _, HO6.out⟩
 obtain ⟨j, rfl, hjr, hgj, HG, HO⟩ := hrel
 by_cases hlt : j < r
 ·
  have hltz : (j : Int) < (r : Int) := by omega
  have hx1 := HS6.out.cell (j := j) (by omega)
  have hin := HS6.out.get (j := j) (by omega)
  have hpt := Zph (ord := ord) (j := j) (by have := HLO.out; omega) (Qc total S vs)
  have c1 : wr.cell? ⟨B + 2, j, none⟩ = some (.int .i64 (ord.getD j 0 : Nat)) := by
   have hl := World.block_lt_of_cell? w5 _ hx1
   rw [World.cell?_of_block (HG.out.block (B + 2) hl (fun e => by injection e with e; omega))]
   exact hx1
  generalize ord.getD j 0 = i at c1 hin hpt
  have hXl : (Zat (Qc total S vs) (ord.take j)).length = k := by rw [Zdb]; exact HPL.out
  have c2 := HO.out.cell (j := i) (by rw [hXl]; exact hin)
  have f2 := HO.out.frozen i
  have hle := Zok (ord.take j) (Qc total S vs) i
  have hge := Zjp (ord.take j) (Qc total S vs) i
  have hpi : 0 ≤ (Qc total S vs).getD i 0 ∧ (Qc total S vs).getD i 0 ≤ 10000000000 := by
   rw [Zh7]
   have hv := Yn HVB.out i (by rw [HVL.out]; exact hin)
   obtain ⟨m1, m2⟩ := Zgz ht hv
   exact ⟨Int.ediv_nonneg m1 (by omega), Int.le_trans (Int.ediv_le_self _ m1) m2⟩
  have htl : ((ord.take j).length : Int) ≤ 100 := by simp; omega
  generalize (Zat (Qc total S vs) (ord.take j)).getD i 0 = x at c2 hle hge hpt
  have t1 := IntWalk.i64_in (x + 1) (by omega)
  have z1 : (i : Int) < (k : Int) := by omega
  have HPT := Za hpt
  clear hle hge hpi htl hpt hx1
  go_wp2_with fail
  go_roundg (r - (j + 1))
  case measure => omega
  case rel => exact ⟨j + 1, by go_num, by omega, by omega, Zk HG.out (Qt _ rfl _), (show Aside _ from by rw [HPT.out]; exact Zn.store HO.out i _)⟩
 have hltz : ¬ (j : Int) < (r : Int) := by omega
 have hj : j = r := by omega
 subst hj
 go_wp2_with fail
 go_ret
 refine ⟨_, rfl, ?_, ?_⟩
 · rw [HSW.out]; exact HO.out.base (by omega)
 exact HB6.out.trans (Qg HG.out (by have := HB6.out.size; omega) (fun q hq => by injection hq with hq; omega))
theorem Ji {w : World} {ops : Array Oper} {rest : List Oper} {o : Oper} {a : Act} {Q : Exit → Act → World → Prop} (hgd : o.guard = none) (s x : Operand)
 (ho : o.op = .call { callee := .builtin .append, args := #[s, x], argTypes := #[29, 29] }) (base : Nat) (v : Value) (xs : List Int) (hs : a.eval s = v) (hown : Zn w base v xs)
 (ad : Addr) (c : Nat) (y : Int) (hx : a.eval x = .slice (some ad) 1 c) (hc : w.cell? ad = some (.int .i64 y)) (hn : xs.length ≤ 1000000) (hbase : base ≤ w.heap.size)
 (h : ∀ v' w', Hid (Zn w' base v' (xs ++ [y])) → Hid (w.grownBy w' v.ownBlock) → Hid (∀ b, v'.ownBlock = some b → v.ownBlock = some b ∨ w.heap.size ≤ b) → wpList Tryz.prog ops Q rest (a.put o.dst v') w') : wpList Tryz.prog ops Q (o :: rest) a w := by
 obtain ⟨i0, hi, hz0, hz1, hz2⟩ := info_parts Yu
 refine Zeo hgd s x 29 ho base 3 i0 _ 1 8 Yl hi hz0 hz1 hz2 rfl (by decide) v xs.length (xs.flatMap Zc5) hs hown ad 1 c [.int .i64 y] hx rfl (fun j u hj => ?_) (fun u hu => by rw [List.mem_singleton.1 hu]; rfl) (by unfold maxLen; omega) (by omega) hbase fun v' w' h1 h2 h3 => h v' w' (show Zn _ _ _ _ from ?_) h2 h3
 · have : j = 0 := by have := (List.getElem?_eq_some_iff.1 hj).1; simp at this; omega
   subst this; simp at hj; subst hj
   obtain ⟨b, o, sp⟩ := ad
   simpa [Addr.add] using hc
 unfold Zn
 rw [List.length_append, List.flatMap_append]
 exact h1
def Zoc (b : Bool) : List Value := [.bool b]
def Ztp : Rep Bool := Zg9 1 Zoc (fun _ => rfl)
theorem Zum {w W : World} {A : Option Addr} {xs : List Bool} (h : Rd Ztp w A xs) (hb : Below w.heap.size w W) (k : Nat) (hk : k < xs.length) : ∃ b o, A = some ⟨b, o, none⟩ ∧ b < w.heap.size ∧ W.cell? ⟨b, o + k, none⟩ = some (.bool (xs.getD k false)) := by
 obtain ⟨b, o, c0, e, hlt, hK, hc⟩ := h.at1 rfl hb k hk
 have q : [c0] = [.bool xs[k]] := hK
 simp only [List.cons.injEq, and_true] at q
 subst q
 exact ⟨b, o, e, hlt, by rw [hc, List.getD_eq_getElem?_getD, List.getElem?_eq_getElem hk]; rfl⟩
theorem Zps (left : List Int) (got : List Bool) (i : Nat) (k : Int) (h : i < left.length) : Zhp left got (left.length - i) i k = Zhp left got (left.length - (i + 1)) (i + 1) (if got.getD i false = false ∧ (k < 0 ∨ left.getD i 0 > left.getD k.toNat 0) then i else k) := by
 rw [show left.length - i = (left.length - (i + 1)) + 1 by omega, Zhp]
theorem Zoa (A : Option Addr) (c : Nat) (A' : Option Addr) (c' : Nat) (left : List Int) (got : List Bool) (w : World) (hr : Rd Za4 w A left) (hg : Rd Ztp w A' got) (hl : got.length = left.length) (hn : left.length ≤ 1000) :
 Calls Tryz.prog 193 #[.slice A left.length c, .slice A' left.length c'] w fun e w' => e = .returned (.int .i64 (next left got)) ∧ ∃ q, w' = w.drewN q := by
 have HR := Za hr
 have HG := Za hg
 have HL := Za hl
 clear hr hg hl
 go_enter Tryz.func193, Tryz.ntmps193
 go_wp2_with fail
 go_loopg [5, 6] left.length (fun gg s5 s6 wr => ∃ (i : Nat) (k : Int), s5 = .int .i64 k ∧ s6 = .int .i64 i ∧ i ≤ left.length ∧ left.length - i ≤ gg ∧ (k = -1 ∨ (0 ≤ k ∧ k < left.length)) ∧ Aside (∃ q, wr = w.drewN q) ∧ Aside (Zhp left got (left.length - i) i k = next left got))
 case atStart => exact ⟨0, -1, rfl, rfl, Nat.zero_le _, by omega, .inl rfl, ⟨0, rfl⟩, (show Aside _ from rfl)⟩
 obtain ⟨i, k, rfl, rfl, hi, hgg, hk, HQ, HX⟩ := hrel
 by_cases hlt : i < left.length
 ·
  have hltz : (i : Int) < (left.length : Int) := by omega
  have hx := HX.out
  rw [Zps _ _ _ _ hlt] at hx
  obtain ⟨q0, hq0⟩ := HQ.out
  have HB : Hid (Below w.heap.size w wr) := by show Below _ _ _; rw [hq0]; exact Zam (Zf w) q0
  obtain ⟨b2, o2, e2, _, c2⟩ := Zum HG.out HB.out i (by rw [HL.out]; exact hlt)
  subst e2
  obtain ⟨b1, o1, e1, _, c1⟩ := Za3 HR.out HB.out i hlt
  subst e1
  have HQ0 := Za hq0
  clear HX hq0
  cases hb : got.getD i false with
  | true =>
   rw [hb] at c2 hx
   rw [if_neg (by simp)] at hx
   have HX2 := Za hx
   clear hx hb c1
   go_wp2_with fail
   go_quiet (fail)
   go_wp2_with fail
   go_roundg (left.length - (i + 1))
   case measure => omega
   case rel => exact ⟨i + 1, k, rfl, by go_num, by omega, by omega, hk, ⟨_, by rw [HQ0.out, World.drewN_drewN]⟩, HX2.out⟩
  | false =>
   rw [hb] at c2 hx
   rcases hk with rfl | ⟨hk0, hk1⟩
   ·
    rw [if_pos ⟨rfl, .inl (by decide)⟩] at hx
    have HX2 := Za hx
    clear hx hb c1
    go_wp2_with fail
    go_quiet (fail)
    go_wp2_with fail
    go_roundg (left.length - (i + 1))
    case measure => omega
    case rel => exact ⟨i + 1, i, rfl, by go_num, by omega, by omega, .inr ⟨by omega, by omega⟩, ⟨_, by rw [HQ0.out, World.drewN_drewN]⟩, HX2.out⟩
   obtain ⟨m, rfl⟩ := Int.eq_ofNat_of_zero_le hk0
   have hml : m < left.length := by omega
   obtain ⟨b3, o3, e3, _, c3⟩ := Za3 HR.out HB.out m hml
   injection e3 with e3; injection e3 with e3 e3'; subst e3; subst e3'
   rw [Int.toNat_natCast] at hx
   generalize left.getD i 0 = x at c1 hx
   generalize left.getD m 0 = y at c3 hx
   by_cases hxy : y < x
   ·
    rw [if_pos ⟨rfl, .inr hxy⟩] at hx
    have HX2 := Za hx
    have d1 : decide ((m : Int) < 0) = false := decide_eq_false (by omega)
    have d2 : decide (y < x) = true := decide_eq_true hxy
    clear hx hb
    go_wp2_with fail
    go_quiet (fail)
    go_wp2_with fail
    go_roundg (left.length - (i + 1))
    case measure => omega
    case rel => exact ⟨i + 1, i, rfl, by go_num, by omega, by omega, .inr ⟨by omega, by omega⟩, ⟨_, by rw [HQ0.out, World.drewN_drewN]⟩, HX2.out⟩
   rw [if_neg (fun h => by rcases h.2 with h | h <;> omega)] at hx
   have HX2 := Za hx
   have d1 : decide ((m : Int) < 0) = false := decide_eq_false (by omega)
   have d2 : decide (y < x) = false := decide_eq_false hxy
   clear hx hb
   go_wp2_with fail
   go_quiet (fail)
   go_wp2_with fail
   go_roundg (left.length - (i + 1))
   case measure => omega
   case rel => exact ⟨i + 1, m, rfl, by go_num, by omega, by omega, .inr ⟨by omega, by omega⟩, ⟨_, by rw [HQ0.out, World.drewN_drewN]⟩, HX2.out⟩
 have hltz : ¬ (i : Int) < (left.length : Int) := by omega
 have hx := HX.out
 rw [show left.length - i = 0 by omega] at hx
 have HX2 := Za hx
 clear hx HX
 go_wp2_with fail
 go_ret
 exact ⟨by rw [← HX2.out]; rfl, HQ.out⟩
end Go.Proofs.YtgdmcmicfoamlaaGreatDoor
