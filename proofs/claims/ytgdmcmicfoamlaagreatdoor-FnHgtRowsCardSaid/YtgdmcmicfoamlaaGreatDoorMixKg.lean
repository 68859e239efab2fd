import Derived.Test.YtgdmcmicfoamlaaGreatDoorMixTd
import Derived.Deep.AppendLies
import Derived.Deep.RegionHeldLaw
import Derived.Lib.SliceRun
import Derived.Lib.AppendZerosOnto
import Derived.Laws.NewBlocks
import Derived.Laws.AppendOwnNone
import Derived.Laws.CopyOwn
set_option linter.unusedVariables false
set_option linter.unusedSimpArgs false
set_option maxHeartbeats 4000000
set_option maxRecDepth 100000
namespace Go.Proofs.YtgdmcmicfoamlaaGreatDoor
open Go.RowKit
theorem Own.rd {α : Type} {enc : α → List Value} {k : Nat} {hk : ∀ x, (enc x).length = k} {w : World} {lo hi : Nat} {E : TypeId} {A : Option Addr} {n c : Nat} {xs : List α} (h : Own w lo hi E k (.slice A n c) xs.length (xs.flatMap enc)) : Rd (Zg9 k enc hk) w A xs := by
 rcases h with ⟨h0, _⟩ | ⟨hn, g, c', e, h1, h2, h3⟩
 · obtain rfl : xs = [] := List.eq_nil_of_length_eq_zero h0
   exact Rd.nil _ _ _
 obtain ⟨A1, c1, e1, _, hr⟩ := Zdz (enc := enc) (hk := hk) h3
 injection e1 with e1 _ _
 rw [e1]; exact hr
theorem Zt9 {w : World} {A : Option Addr} {xs : List Qi} (h : Rd (Zg9 11 Qv (fun _ => rfl)) w A xs) (hs : ∀ x ∈ xs, x.t.size ≤ 1048576) : Rd Zq6 w A xs := by
 refine ⟨h.1, fun hn => ?_⟩
 obtain ⟨b, o, e, hlt, hc⟩ := h.2 hn
 refine ⟨b, o, e, hlt, fun i hi => ?_⟩
 obtain ⟨cs, hK, hcell⟩ := hc i hi
 exact ⟨cs, ⟨hK, hs _ (List.getElem_mem hi)⟩, hcell⟩
def Zv1 (rows : List Jv) : Prop := ∀ r ∈ rows, ∀ x ∈ r.cs, x.t.size ≤ 1048576
theorem Own.cap {w : World} {lo hi : Nat} {E : TypeId} {k : Nat} {v : Value} {n : Nat} {xs : List Value} (h : Own w lo hi E k v n xs) : ∃ A c, v = .slice A n c ∧ n ≤ c := by
 rcases h with ⟨rfl, _, A, c, rfl⟩ | ⟨_, g, c, rfl, _, _, h3⟩
 · exact ⟨A, c, rfl, Nat.zero_le _⟩
 rcases h3.2 with ⟨e, _⟩ | ⟨g', cap, cur, e, _, _, h4, _⟩
 · cases e
 injection e with _ _ e; subst e; exact ⟨_, _, rfl, h4⟩
theorem Yd.rd {w : World} {lo hi n c : Nat} {A : Option Addr} {vs : List Value} {rows : List Jv} (h : Yd w lo hi (.slice A n c) vs rows) (hs : Zv1 rows) (hl : rows.length ≤ 9223372036854775807) : Rd Zbp w A rows := by
 obtain ⟨h1, h2, h3, h4⟩ := h
 rcases h1 with ⟨h0, _⟩ | ⟨hn, g, c', e, b1, b2, b3⟩
 · obtain rfl : rows = [] := List.eq_nil_of_length_eq_zero h0
   exact Rd.nil _ _ _
 ·
  injection e with e e2 _
  subst e
  subst e2
  refine ⟨hl, fun hne => ⟨g, 0, rfl, (Qo b3 (b := g) rfl).2, fun j hj => ?_⟩⟩
  have hv : j < vs.length := by omega
  obtain ⟨g0, g1⟩ := Zcg vs rows j hv hj
  have h5 := h3 j hv hj
  obtain ⟨A1, c1, e1, e2⟩ := h5.cap
  rw [e1] at h5
  have hrd := Zt9 h5.rd (hs _ (List.getElem_mem hj))
  refine ⟨[vs[j], .bool rows[j].wh], ⟨vs[j], rfl, A1, c1, e1, e2, hrd⟩, fun i u hu => ?_⟩
  have hl := b3.1
  have e0 := b3.cellAt (j * 2) (by omega)
  have e1 := b3.cellAt (j * 2 + 1) (by omega)
  rw [g0] at e0
  rw [g1] at e1
  match i, hu with
  | 0, hu => simp at hu; subst hu; simpa [Zbp] using e0
  | 1, hu => simp at hu; subst hu; simpa [Zbp] using e1
def Zkz {α : Type} (enc : α → List Value) (w : World) (v : Value) (xs : List α) : Prop :=
 (v = .slice none 0 0 ∧ xs = []) ∨ ∃ b o c, v = .slice (some ⟨b, o, none⟩) xs.length c ∧ b < w.heap.size ∧ ∀ j u, (xs.flatMap enc)[j]? = some u → w.cell? ((⟨b, o, none⟩ : Addr).add j) = some u
theorem Zkz.below {α : Type} {enc : α → List Value} {w w' : World} {v : Value} {xs : List α} (h : Zkz enc w v xs) (hb : Below w.heap.size w w') : Zkz enc w' v xs := by
 rcases h with h | ⟨b, o, c, rfl, hlt, hc⟩
 · exact .inl h
 exact .inr ⟨b, o, c, rfl, Nat.lt_of_lt_of_le hlt hb.size, fun j u hj => Zg hb (hc j u hj)⟩
theorem Zkz.of {α : Type} {enc : α → List Value} {k : Nat} {w : World} {base : Nat} {E : TypeId} {v : Value} {xs : List α} (h : w.ownsRow base E k v xs.length (xs.flatMap enc)) : Zkz enc w v xs := by
 rcases h.2 with ⟨rfl, h0⟩ | ⟨g, cap, cur, rfl, hb, hh, r⟩
 · exact .inl ⟨rfl, List.eq_nil_of_length_eq_zero h0⟩
 refine .inr ⟨g, 0, cap, rfl, (Qo h (b := g) rfl).2, fun j u hj => h.cells (g := g) rfl j u hj⟩
theorem Zkz.form {α : Type} {enc : α → List Value} {w : World} {v : Value} {xs : List α} (h : Zkz enc w v xs) : ∃ A c, v = .slice A xs.length c := by
 rcases h with ⟨rfl, rfl⟩ | ⟨b, o, c, rfl, _⟩
 · exact ⟨none, 0, rfl⟩
 exact ⟨_, c, rfl⟩
section
variable {P : Program} (w : World)
end
theorem Zfb : (Tryz.prog.info? 105).map (fun i => (i.zero, i.size, i.bytes)) = some (some (.agg #[.string ⟨#[]⟩, .int .i64 0, .int .i64 0, .int .i64 0, .int .i64 0, .int .i64 0, .int .i64 0, .int .i64 0, .int .i64 0, .int .i64 0, .int .i64 0]), 11, 96) := by kernel_rfl
theorem Zfs : Tryz.prog.underlying 82 = some (.slice 105) := by kernel_rfl
theorem Zdw : (Tryz.prog.info? 100).map (fun i => (i.zero, i.size, i.bytes)) = some (some (.agg #[.int .i64 0, .int .i64 0]), 2, 16) := by kernel_rfl
theorem Zee : Tryz.prog.underlying 23 = some (.slice 100) := by kernel_rfl
end Go.Proofs.YtgdmcmicfoamlaaGreatDoor
namespace Go.Proofs
open Go.Shelf
def Tryz.lays264_ren : Go.Shelf.Ren := ⟨fun | 264 => 218 | n => n, fun | 53 => 179 | 46 => 180 | n => n, fun | n => n⟩
theorem Tryz.lays264 : Go.Proofs.Lays.n264 Tryz.prog Tryz.lays264_ren := {
 mixed := by kernel_rfl
 f264 := Tryz.func218.trans (congrArg some (by kernel_rfl))
 t46 := Tryz.underlying180
 a46 := Tryz.isAgg180
 z46 := Tryz.sizeOf180
 v46 := Tryz.zeroValue180
 t53 := Tryz.underlying179
 a53 := Tryz.isAgg179
 z53 := Tryz.sizeOf179
 v53 := Tryz.zeroValue179 }
end Go.Proofs
namespace Go.Proofs.YtgdmcmicfoamlaaGreatDoor
open Go.RowKit
theorem Zoq (xs : List Int) (k : Nat) (h : k < xs.length) : Zq (xs.take (k + 1)) = Zq (xs.take k) + xs.getD k 0 := by
 rw [List.take_succ_eq_append_getElem h, Zc1, Qy, Jz, List.getD_eq_getElem?_getD, List.getElem?_eq_getElem h]
 simp
theorem Zdl {xs : List Int} {B : Int} (h : ∀ x ∈ xs, 0 ≤ x ∧ x ≤ B) (k : Nat) : 0 ≤ Zq (xs.take k) ∧ Zq (xs.take k) ≤ B * xs.length := by
 have h1 : ∀ x ∈ xs.take k, 0 ≤ x ∧ x ≤ B := fun x hx => h x (List.mem_of_mem_take hx)
 refine ⟨Zaj fun x hx => (h1 x hx).1, ?_⟩
 have h2 := Zd4 (l := xs.take k) (m := B) fun x hx => (h1 x hx).2
 rcases Nat.eq_zero_or_pos xs.length with z | z
 · have : xs = [] := List.eq_nil_of_length_eq_zero z
   subst this; simp [Jz]
 have hB : 0 ≤ B := by
  have := h xs[0] (List.getElem_mem z)
  omega
 have h3 : B * ((xs.take k).length : Int) ≤ B * xs.length := Int.mul_le_mul_of_nonneg_left (by simp; omega) hB
 omega
theorem Yn {xs : List Int} {P : Int → Prop} (h : ∀ x ∈ xs, P x) (k : Nat) (hk : k < xs.length) : P (xs.getD k 0) := by
 rw [List.getD_eq_getElem?_getD, List.getElem?_eq_getElem hk]
 exact h _ (List.getElem_mem hk)
theorem Zbm (A : Option Addr) (c : Nat) (xs : List Int) (w : World) (hr : Rd Za4 w A xs) (hb : ∀ x ∈ xs, 0 ≤ x ∧ x ≤ 1000000) (hn : xs.length ≤ 1000000) :
 Calls Tryz.prog 90 #[.slice A xs.length c] w (fun e w' => e = .returned (.int .i64 (Zq xs)) ∧ w' = w) := by
 have HR := Za hr
 have HB := Za hb
 clear hr hb
 go_enter Tryz.func90, Tryz.ntmps90
 go_wp2_with fail
 go_loopg [3, 5, 8] xs.length (fun gg s3 s5 s8 wr => ∃ kk : Nat, kk ≤ xs.length ∧ xs.length - kk ≤ gg ∧ s3 = .int .i64 (Zq (xs.take kk)) ∧ s8 = .int .i64 kk ∧ wr = w)
 case atStart => exact ⟨0, Nat.zero_le _, by omega, by simp [Jz], rfl, rfl⟩
 obtain ⟨kk, hkk, hg, rfl, rfl, rfl⟩ := hrel
 by_cases hlt : kk < xs.length
 ·
  have hltz : (kk : Int) < (xs.length : Int) := by omega
  obtain ⟨b, o, rfl, hlb, hcell⟩ := Za3 HR.out (Zf _) kk hlt
  have hs := Za (Zoq xs kk hlt)
  have hb1 := Zdl HB.out kk
  have hb2 := Yn HB.out kk hlt
  generalize Zq (xs.take kk) = s at hs hb1 ⊢
  generalize xs.getD kk 0 = y at hs hcell hb2
  have t1 := IntWalk.i64_in (s + y) (by omega)
  go_wp2_with fail
  go_roundg (xs.length - (kk + 1))
  case measure => omega
  case rel => exact ⟨kk + 1, by omega, by omega, by rw [hs.out], by go_num, rfl⟩
 have hltz : ¬ (kk : Int) < (xs.length : Int) := by omega
 have hk : kk = xs.length := by omega
 have hs := Za (show Zq (xs.take kk) = Zq xs by rw [hk, List.take_length])
 clear hk
 go_wp2_with fail
 go_ret
 exact ⟨by rw [hs.out]; rfl, rfl⟩
theorem Zay (A : Option Addr) (c : Nat) (xs : List Int) (w : World) (hr : Rd Za4 w A xs) (hb : ∀ x ∈ xs, 0 ≤ x ∧ x ≤ 1000000) (hn : xs.length ≤ 1000000) :
 Calls Tryz.prog 96 #[.slice A xs.length c] w (fun e w' => e = .returned (.int .i64 (Zq xs)) ∧ w' = w) := by
 have HR := Za hr
 have HB := Za hb
 clear hr hb
 go_enter Tryz.func96, Tryz.ntmps96
 go_wp2_with fail
 go_loopg [3, 4] xs.length (fun gg s3 s4 wr => ∃ kk : Nat, kk ≤ xs.length ∧ xs.length - kk ≤ gg ∧ s3 = .int .i64 (Zq (xs.take kk)) ∧ s4 = .int .i64 kk ∧ wr = w)
 case atStart => exact ⟨0, Nat.zero_le _, by omega, by simp [Jz], rfl, rfl⟩
 obtain ⟨kk, hkk, hg, rfl, rfl, rfl⟩ := hrel
 by_cases hlt : kk < xs.length
 ·
  have hltz : (kk : Int) < (xs.length : Int) := by omega
  obtain ⟨b, o, rfl, hlb, hcell⟩ := Za3 HR.out (Zf _) kk hlt
  have hs := Za (Zoq xs kk hlt)
  have hb1 := Zdl HB.out kk
  have hb2 := Yn HB.out kk hlt
  generalize Zq (xs.take kk) = s at hs hb1 ⊢
  generalize xs.getD kk 0 = y at hs hcell hb2
  have t1 := IntWalk.i64_in (s + y) (by omega)
  go_wp2_with fail
  go_roundg (xs.length - (kk + 1))
  case measure => omega
  case rel => exact ⟨kk + 1, by omega, by omega, by rw [hs.out], by go_num, rfl⟩
 have hltz : ¬ (kk : Int) < (xs.length : Int) := by omega
 have hk : kk = xs.length := by omega
 have hs := Za (show Zq (xs.take kk) = Zq xs by rw [hk, List.take_length])
 clear hk
 go_wp2_with fail
 go_ret
 exact ⟨by rw [hs.out]; rfl, rfl⟩
def Zoi (total : Int) (ws : List Int) : Prop := (0 ≤ total ∧ total ≤ 100000) ∧ (∀ x ∈ ws, 0 ≤ x ∧ x ≤ 100000) ∧ ws.length ≤ 100
theorem Znw (w : World) : Zi5 Tryz.prog 238 #[] Za4 one (fun x => !inB x 0 100000) w := by
 rintro W x cs hb rfl
 show Calls _ _ #[.int .i64 x] W _
 go_enter Tryz.func238, Tryz.ntmps238
 go_wp2_with (go_at_call 122; refine (Zbx _ _ _ _).mono ?_; rintro e w' ⟨rfl, rfl⟩)
 go_ret
 exact ⟨rfl, Zf _⟩
theorem Zj7 (total : Int) (A : Option Addr) (c : Nat) (ws : List Int) (w : World) (hr : Rd Za4 w A ws) (h : Zoi total ws) :
 Calls Tryz.prog 209 #[.int .i64 total, .slice A ws.length c] w fun e w' => e = .returned (.bool true) ∧ Below w.heap.size w w' := by
 have hany := Zu0 Za4 rfl (fun x => !inB x 0 100000) 238 #[] (enters_of Tryz.func238 (by kernel_rfl) rfl) A c ws w (Znw w) hr
 have hno : (ws.any fun x => !inB x 0 100000) = false := by
  rw [List.any_eq_false]
  intro x hx
  have := h.2.1 x hx
  simp [inB]; omega
 rw [hno] at hany
 have hin1 : inB total 0 100000 = true := by simp [inB]; exact h.1
 have hl : ((ws.length : Nat) : Int) ≤ 100 := by have := h.2.2; omega
 clear hr h hno
 go_enter Tryz.func209, Tryz.ntmps209
 go_wp2_with (go_at_call 122; refine (Zbx _ _ _ _).mono ?_; rintro e w' ⟨rfl, rfl⟩)
 refine hany.mono ?_
 rintro e w' ⟨rfl, hb⟩
 go_wp2_with fail
 go_ret
 exact ⟨rfl, hb⟩
theorem Zgq (x : Int) (w : World) : Calls Tryz.prog 240 #[.int .i64 x] w fun e w' => e = .returned (.bool false) ∧ w' = w := by
 go_enter Tryz.func240, Tryz.ntmps240
 go_wp2_with fail
 go_ret
 exact ⟨by simp, rfl⟩
theorem Zm6 (x y : Int) (w : World) : Calls Tryz.prog 214 #[.int .i64 x, .int .i64 y] w fun e w' => e = .returned (.int .i64 (if x < y then -1 else if y < x then 1 else 0)) ∧ w' = w := by
 go_enter Tryz.func214, Tryz.ntmps214
 by_cases h1 : x < y
 · rw [if_pos h1]
   go_wp2_with (go_at_call 240; refine (Zgq _ _).mono ?_; rintro e w' ⟨rfl, rfl⟩)
   go_ret
   exact ⟨rfl, rfl⟩
 rw [if_neg h1]
 by_cases h2 : y < x
 · rw [if_pos h2]
   go_wp2_with (go_at_call 240; refine (Zgq _ _).mono ?_; rintro e w' ⟨rfl, rfl⟩)
   go_ret
   exact ⟨rfl, rfl⟩
 rw [if_neg h2]
 go_wp2_with (go_at_call 240; refine (Zgq _ _).mono ?_; rintro e w' ⟨rfl, rfl⟩)
 go_ret
 exact ⟨rfl, rfl⟩
theorem Zlc {P : Program} (w : World) (base : Nat) (t ty e : TypeId) (i : TypeInfo) (z : Value) (size bytes : Nat) (ht : P.underlying t = some (.slice e)) (hi : P.info? e = some i) (hz : i.zero = some z)
 (hsize : i.size = size) (hby : i.bytes = bytes) (hzs : z.cells.size = size) (hsz : 0 < size)
 (v : Value) (n : Nat) (xs : List Value) (hown : w.ownsRow base e size v n xs)
 (a : Addr) (m c : Nat) (news : List Value) (hl : news.length = m * size) (hnews : ∀ j u, news[j]? = some u → w.cell? (a.add j) = some u) (h1 : ∀ u ∈ news, u.oneCell' = true)
 (h63 : n + m ≤ maxLen) (hbytes : (n + m) * bytes ≤ 140737488355328) (hbase : base ≤ w.heap.size) :
 ∃ v' w', (Builtin.append_ #[t, t] ty #[v, .slice (some a) m c]).run P w = .ok v' w' ∧ w'.ownsRow base e size v' (n + m) (xs ++ news) ∧ w.grownBy w' v.ownBlock ∧ ∀ b, v'.ownBlock = some b → v.ownBlock = some b ∨ w.heap.size ≤ b := by
 obtain ⟨v', w', hr, ho, hg, _⟩ := run_append_own (P := P) w base t ty e i z size bytes ht hi hz hsize hby hzs hsz v n xs hown a m c news hl hnews h1 h63 hbytes hbase
 refine ⟨v', w', hr, ho, hg, fun b hb => ?_⟩
 have h63' : n + m ≤ 9223372036854775807 := by unfold maxLen at h63; omega
 rcases hown.2 with ⟨rfl, rfl⟩ | ⟨g, cap, cur, rfl, hbg, hh, hn, hcm, hcs, htk⟩
 ·
  have hx : xs = [] := List.eq_nil_of_length_eq_zero (by have := hown.1; omega)
  subst hx
  obtain ⟨v2, w2, hr2, ho2, _, _⟩ := run_append_own (P := P) w w.heap.size t ty e i z size bytes ht hi hz hsize hby hzs hsz (.slice none 0 0) 0 [] (World.ownsRow_nil _ _ _ _) a m c news hl hnews h1 h63 hbytes (Nat.le_refl _)
  rw [hr] at hr2
  injection hr2 with e1 e2
  subst e1; subst e2
  exact .inr (ho2.lt b hb).1
 subst hsize
 by_cases hroom : n + m ≤ cap
 ·
  have := run_append_room (P := P) w t ty e i ht hi g n cap cur hh a m c news hl hnews h1 hroom (by
   rw [hl, hcs, ← Nat.add_mul]
   exact Nat.mul_le_mul_right _ hroom)
  rw [hr] at this
  injection this with e1 _
  subst e1
  exact .inl hb
 have := run_append_grow (P := P) w t ty e i z ht hi hz ⟨g, 0, none⟩ n cap xs hown.1 (hown.cells (g := g) rfl) a m c news hl hnews (by omega) (by omega) (by rw [hby]; exact growslice_fits (by omega) hbytes)
 rw [hr] at this
 injection this with e1 _
 subst e1
 right
 have : w.heap.size = b := by simpa [Value.ownBlock] using hb
 omega
theorem Zeo {P : Program} {w : World} {ops : Array Oper} {rest : List Oper} {o : Oper} {a : Act} {Q : Exit → Act → World → Prop} (hgd : o.guard = none) (s x : Operand) (t : TypeId)
 (ho : o.op = .call { callee := .builtin .append, args := #[s, x], argTypes := #[t, t] })
 (base : Nat) (e : TypeId) (i : TypeInfo) (z : Value) (size bytes : Nat) (ht : P.underlying t = some (.slice e)) (hi : P.info? e = some i) (hz : i.zero = some z)
 (hsize : i.size = size) (hby : i.bytes = bytes) (hzs : z.cells.size = size) (hsz : 0 < size)
 (v : Value) (n : Nat) (xs : List Value) (hs : a.eval s = v) (hown : w.ownsRow base e size v n xs)
 (ad : Addr) (m c : Nat) (news : List Value) (hx : a.eval x = .slice (some ad) m c) (hl : news.length = m * size) (hnews : ∀ j u, news[j]? = some u → w.cell? (ad.add j) = some u) (h1 : ∀ u ∈ news, u.oneCell' = true)
 (h63 : n + m ≤ maxLen) (hbytes : (n + m) * bytes ≤ 140737488355328) (hbase : base ≤ w.heap.size)
 (h : ∀ v' w', w'.ownsRow base e size v' (n + m) (xs ++ news) → w.grownBy w' v.ownBlock → (∀ b, v'.ownBlock = some b → v.ownBlock = some b ∨ w.heap.size ≤ b) → wpList P ops Q rest (a.put o.dst v') w') : wpList P ops Q (o :: rest) a w := by
 refine wpList_plain hgd fun K hK => ?_
 obtain ⟨v', w', hr, h2, h3, h4⟩ := Zlc (P := P) w base t o.type e i z size bytes ht hi hz hsize hby hzs hsz v n xs hown ad m c news hl hnews h1 h63 hbytes hbase
 unfold Oper.wp
 simp [execOp, ho, resolve, invoke, builtin, hs, hx, hr, Result.andThen]
 exact hK _ _ (h _ _ h2 h3 h4)
theorem Zcu.snoc {w : World} {lo hi hi' : Nat} {vs : List Value} {rows : List Jv} {v : Value} {r : Jv} (h : Zcu w lo hi vs rows) (hv : w.ownsRow hi 105 11 v r.cs.length (r.cs.flatMap Qv)) (h1 : lo ≤ hi) (h2 : hi ≤ hi') (h3 : w.heap.size ≤ hi') :
 Zcu w lo hi' (vs ++ [v]) (rows ++ [r]) := by
 have hO := (Own.of hv h3).mono h1 (Nat.le_refl _)
 refine ⟨by simp [h.1], fun j a b => ?_, ?_⟩
 ·
  rcases Nat.lt_or_ge j vs.length with hj | hj
  · have hj' : j < rows.length := by rw [← h.1]; exact hj
    rw [List.getElem_append_left hj, List.getElem_append_left hj']
    exact (h.2.1 j hj hj').mono (Nat.le_refl _) h2
  have e : j = vs.length := by simp at a; omega
  have e' : j = rows.length := by rw [← h.1]; exact e
  have g1 : (vs ++ [v])[j] = v := by rw [List.getElem_append_right (by omega)]; simp
  have g2 : (rows ++ [r])[j] = r := by rw [List.getElem_append_right (by omega)]; simp
  rw [g1, g2]; exact hO
 rw [List.pairwise_append]
 refine ⟨h.2.2, List.pairwise_singleton _ _, fun a ha b hb => ?_⟩
 rw [List.mem_singleton.1 hb]
 obtain ⟨i, hi1, rfl⟩ := List.getElem_of_mem ha
 intro g n c g' n' c' e1 e2 hn hn' e
 subst e
 have hA := h.2.1 i hi1 (by rw [← h.1]; exact hi1)
 rcases hA with ⟨h0, _, A, c0, e3⟩ | ⟨_, g1, c1, e3, b1, b2, _⟩
 · rw [e3] at e1; injection e1 with _ e1 _; omega
 rw [e3] at e1; injection e1 with e1 _ _; injection e1 with e1; injection e1 with e1; subst e1
 have := Qo hv (b := g1) (by rw [e2]; rfl)
 omega
theorem Zu5 {w : World} {b : Nat} {u0 u1 : Value} (h0 : w.cell? ⟨b, 0, none⟩ = some u0) (h1 : w.cell? ⟨b, 1, none⟩ = some u1) : ∀ j u, [u0, u1][j]? = some u → w.cell? ((⟨b, 0, none⟩ : Addr).add j) = some u := by
 intro j u hj
 have hadd : ∀ k, (⟨b, 0, none⟩ : Addr).add k = ⟨b, k, none⟩ := fun k => by rw [Addr.add_lit, Nat.zero_add]
 rw [hadd]
 match j, hj with
 | 0, hj => simp at hj; subst hj; exact h0
 | 1, hj => simp at hj; subst hj; exact h1
theorem Zq2 (A : Option Addr) (n c : Nat) (b : Bool) : ∀ u ∈ [Value.slice A n c, .bool b], u.oneCell' = true := by
 intro u hu
 simp only [List.mem_cons, List.not_mem_nil, or_false] at hu
 rcases hu with rfl|rfl <;> rfl
theorem Yd.mono {w : World} {lo hi lo' hi' : Nat} {v : Value} {vs : List Value} {rows : List Jv} (h : Yd w lo hi v vs rows) (hl : lo' ≤ lo) (hh : hi ≤ hi') : Yd w lo' hi' v vs rows := ⟨h.1.mono hl hh, h.2.mono hl hh⟩
theorem Zu8 : (Tryz.prog.info? 84).map (fun i => (i.zero, i.size, i.bytes)) = some (some (.agg #[.slice none 0 0, .bool false]), 2, 32) := by kernel_rfl
theorem Zv9 : Tryz.prog.underlying 24 = some (.slice 84) := by kernel_rfl
section
variable {P : Program} {ops : Array Oper} {Q : Exit → Act → World → Prop} {md : Region.Mode} {S : World → Prop} {L : Nat}
def Zcm (P : Program) (md : Region.Mode) (ops : Array Oper) (Q : Exit → Act → World → Prop) (S : World → Prop) (L : Nat) : Nat → Array Bool → Act → World → Prop
 | 0, listed, a, w => Region.ready md ops listed = [] ∧ Q .normal a w
 | fuel + 1, listed, a, w =>
  (Region.ready md ops listed = [] → Q .normal a w) ∧
  ∀ i ∈ Region.ready md ops listed, wpOp P ops Q i (fun a' w' => (i ≠ L → S w') ∧ Zcm P md ops Q S L fuel (listed.setIfInBounds i true) a' w') a w
theorem Zkb : ∀ (fuel : Nat) (listed : Array Bool) (a : Act) (w : World), Zcm P md ops Q S L fuel listed a w → wpAny P md ops Q fuel listed a w
 | 0, _, _, _, h => h
 | fuel + 1, _, _, _, h => ⟨h.1, fun i hi => wpOp_mono (fun a' w' h' => Zkb fuel _ a' w' h'.2) (h.2 i hi)⟩
def Zjg (md : Region.Mode) (ops : Array Oper) (L i : Nat) : Bool := match ops[L]? with
 | some o => o.after.any fun e => Region.binds md e && e.on == i
 | none => false
theorem Zmt {i : Nat} (h : Zjg md ops L i = true) : ∃ oL, ops[L]? = some oL ∧ ∃ e ∈ oL.after, Region.binds md e = true ∧ e.on = i := by
 unfold Zjg at h
 split at h
 ·
  rename_i o ho
  rw [Array.any_eq_true'] at h
  obtain ⟨e, he, h⟩ := h
  simp only [Bool.and_eq_true, beq_iff_eq] at h
  exact ⟨o, ho, e, he, h.1, h.2⟩
 cases h
def Zkn (md : Region.Mode) (ops : Array Oper) : Nat → List Nat → Bool
 | _, [] => true
 | p, q :: r => Zjg md ops q p && Zkn md ops q r
theorem Zra {listed : Array Bool} {j p : Nat} (hj : j ∈ Region.ready md ops listed) (hw : Zjg md ops j p = true) (hp : listed.getD p true = false) : False := by
 obtain ⟨oj, hoj, e, he, hb, heq⟩ := Zmt hw
 obtain ⟨_, oj', hoj', hall⟩ := mem_ready.1 hj
 rw [hoj] at hoj'
 injection hoj' with e'
 subst e'
 have h1 := hall e he hb
 rw [heq] at h1
 rcases Nat.lt_or_ge p listed.size with h' | h'
 · simp [h'] at hp h1; rw [hp] at h1; cases h1
 simp [Array.getElem?_eq_none h'] at h1
theorem Zg6 {listed : Array Bool} {j : Nat} (hj : j ∈ Region.ready md ops listed) : ∀ (p : Nat) (r : List Nat), Zkn md ops p r = true → listed.getD p true = false → (∀ q ∈ r, listed.getD q true = false) → j ∉ r
 | _, [], _, _, _ => by simp
 | p, q :: r, h, hp, hr => by
  unfold Zkn at h
  rw [Bool.and_eq_true] at h
  intro hm
  rcases List.mem_cons.1 hm with rfl | hm
  · exact Zra hj h.1 hp
  exact Zg6 hj q r h.2 (hr q (List.mem_cons_self ..)) (fun x hx => hr x (List.mem_cons_of_mem _ hx)) hm
theorem Zmy {i : Nat} {oi : Oper} {v : Value} {path : List Nat} (hi : ops[i]? = some oi) (hch : Zkn md ops i path = true) (hLp : L ∈ path) (hsel : ∀ (j : Nat) (o : Oper) cs b, ops[j]? = some o → o.op ≠ .select cs b)
 (hQ : ∀ c a w, Q (.panic c) (a.put oi.dst v) w → Q (.panic c) a w) :
 ∀ (fuel : Nat) (listed : Array Bool) (a : Act) (w : World),
  (∀ j oj, ops[j]? = some oj → j ≠ i → listed.getD j true = false → (∀ e ∈ oj.after, Region.binds md e = true → e.on ≠ i) → oi.apart ops oj = true) →
  i ∈ Region.ready md ops listed → (∀ q ∈ path, listed.getD q true = false) → YieldsIf P ops S oi v a → S w →
  Zcm P md ops Q S L fuel (listed.setIfInBounds i true) (a.put oi.dst v) w → Zcm P md ops Q S L (fuel + 1) listed a w := by
 intro fuel
 induction fuel with
 | zero =>
  intro listed a w _ hr _ hy hS H
  refine ⟨fun h => (by rw [h] at hr; cases hr), fun j hj => ?_⟩
  by_cases hji : j = i
  · subst hji; exact hy.wpOp hi hS ⟨fun _ => hS, H⟩
  have := ready_mono hj hji
  rw [H.1] at this
  cases this
 | succ fuel ih =>
  intro listed a w hfree hr hpa hy hS H
  refine ⟨fun h => (by rw [h] at hr; cases hr), fun j hj => ?_⟩
  by_cases hji : j = i
  · subst hji; exact hy.wpOp hi hS ⟨fun _ => hS, H⟩
  have h1 := H.2 j (ready_mono hj hji)
  obtain ⟨hjun, oj, hoj, hall⟩ := mem_ready.1 hj
  have hnot : ∀ e ∈ oj.after, Region.binds md e = true → e.on ≠ i := fun e he hb heq => by
   have h1 := hall e he hb
   have h0 := (mem_ready.1 hr).1
   rw [heq] at h1
   rcases Nat.lt_or_ge i listed.size with h' | h'
   · simp [h'] at h0 h1; rw [h0] at h1; cases h1
   simp [Array.getElem?_eq_none h'] at h1
  have hjp : j ∉ path := Zg6 hj i path hch (mem_ready.1 hr).1 hpa
  have hjL : j ≠ L := fun e => hjp (e ▸ hLp)
  have hpa' : ∀ q ∈ path, (listed.setIfInBounds j true).getD q true = false := fun q hq => by
   have hne : j ≠ q := by rintro rfl; exact hjp hq
   rw [getD_set_ne true hne]; exact hpa q hq
  have h2 := wpOp_putIf hoj (hfree j oj hoj hji hjun hnot) (fun cs b => hsel i oi cs b hi) (fun cs b => hsel j oj cs b hoj) hQ hy h1
  have hfree' : ∀ k ok, ops[k]? = some ok → k ≠ i → (listed.setIfInBounds j true).getD k true = false →
   (∀ e ∈ ok.after, Region.binds md e = true → e.on ≠ i) → oi.apart ops ok = true := fun k ok hk hki hun hno => by
   refine hfree k ok hk hki ?_ hno
   by_cases hjk : j = k
   · subst hjk; exact hjun
   rw [getD_set_ne true hjk] at hun; exact hun
  refine wpOp_mono (fun a' w' h3 => ⟨fun _ => h3.2.1 hjL, ih (listed.setIfInBounds j true) a' w' hfree' (ready_mono hr (Ne.symm hji)) hpa' h3.1 (h3.2.1 hjL) ?_⟩) h2
  rw [Array.setIfInBounds_comm _ _ hji]
  exact h3.2.2
theorem Zm {i : Nat} {oi : Oper} {v : Value} {fuel : Nat} {listed : Array Bool} {a : Act} {w : World} (path : List Nat) (hi : ops[i]? = some oi)
 (hs : Region.noSelect ops = true) (hf : Region.free md ops listed i = true) (hr : (Region.ready md ops listed).contains i = true) (hch : Zkn md ops i path = true) (hLp : path.contains L = true) (hpa : (path.all fun q => !listed.getD q true) = true)
 (hQ : ∀ c a w, Q (.panic c) (a.put oi.dst v) w → Q (.panic c) a w) (hy : YieldsIf P ops S oi v a) (hS : S w)
 (h : Zcm P md ops Q S L fuel (listed.setIfInBounds i true) (a.put oi.dst v) w) : Zcm P md ops Q S L (fuel + 1) listed a w :=
 Zmy (path := path) hi hch (by simpa using hLp) (Region.noSelect_spec hs) hQ fuel listed a w (Region.free_spec hi hf) (by simpa using hr) (fun q hq => by have := List.all_eq_true.1 hpa q hq; simpa using this) hy hS h
theorem Zfg {listed : Array Bool} {a : Act} {w : World} (hr : Region.ready md ops listed = []) (h : Q .normal a w) :
 ∀ fuel, Zcm P md ops Q S L fuel listed a w
 | 0 => ⟨hr, h⟩
 | _ + 1 => ⟨fun _ => h, by rw [hr]; simp⟩
theorem Yg {i : Nat} {o : Oper} {fuel : Nat} {listed : Array Bool} {a : Act} {w : World} (hr : Region.ready md ops listed = [i]) (ho : ops[i]? = some o)
 (h : ∀ K' : Act → World → Prop, Shut (∀ a w, (i ≠ L → S w) → Zcm P md ops Q S L fuel (listed.setIfInBounds i true) a w → K' a w) → if Region.wanted o (yielded ops a.tmps) = true then Oper.wp P o a w K' Q else K' (a.put o.dst undef) w) :
 Zcm P md ops Q S L (fuel + 1) listed a w := by
 refine And.intro (fun h0 => absurd (hr.symm.trans h0) (List.cons_ne_nil _ _)) ?_
 intro j hj
 rw [hr, List.mem_singleton] at hj
 subst hj
 exact wpOp_step ho (fun K' hK => h K' (fun a w h1 h2 => hK a w ⟨h1, h2⟩))
theorem Zi0 {id : Nat} {a : Act} {w : World} (hm : P.follows .mixedOrders = true)
 (h : Zcm P .any ops Q S L ops.size (Array.replicate ops.size false) a w.drew) : (Code.region id ops true).wp P Q a w := wp_region_any hm (Zkb _ _ _ _ h)
end
section
variable {P : Program} (w : World)
end
theorem Zvn (w : World) (cs : Array Value) (T : TypeId) (X : Nat) (hX : w.heap.size = X) : (w.alloc (.cells cs T)).heap[X]? = some (.cells cs T (0, 0)) := by
 subst hX; exact heap_alloc_new w _
theorem Zv3 (w : World) (o : Obj) {X : Nat} {u : Obj} (h : w.heap[X]? = some u) : (w.alloc o).heap[X]? = some u := by
 show (w.heap.push o)[X]? = some u
 rw [Array.getElem?_push_lt (Array.getElem?_eq_some_iff.1 h).1]
 exact (Array.getElem?_eq_getElem _).symm.trans h
theorem Zuz {base : Nat} {e : TypeId} {size : Nat} (w : World) (H : Nat) (hH : w.heap.size = H) (hb : base ≤ H := by omega) : (w.alloc (.cells #[] e)).ownsRow base e size (.slice (some ⟨H, 0, none⟩) 0 0) 0 [] := by
 subst hH
 exact World.ownsRow_made w #[] 0 hb (Nat.zero_le _) (by simp)
theorem Zs {w : World} {a b : Addr} {u v : Value} (h : w.cell? b = some v) (hne : a ≠ b) : (w.setCell a u).cell? b = some v := by rw [World.cell?_setCell_other (h := hne)]; exact h
theorem Zdq {w : World} {a : Addr} {u v : Value} (h : w.cell? a = some u) : (w.setCell a v).cell? a = some v := by rw [World.cell?_setCell_same (h := h)]
def Zv8 (w : World) (b0 i0 b1 i1 i2 : Nat) (u0 u1 u2 : Value) : Prop := w.cell? ⟨b0, i0, none⟩ = some u0 ∧ w.cell? ⟨b1, i1, none⟩ = some u1 ∧ w.cell? ⟨b1, i2, none⟩ = some u2
theorem Zv8.keep {w w' : World} {b0 i0 b1 i1 i2 : Nat} {u0 u1 u2 : Value} (h : Zv8 w b0 i0 b1 i1 i2 u0 u1 u2) (hb : Below w.heap.size w w') : w'.cell? ⟨b0, i0, none⟩ = some u0 ∧ w'.cell? ⟨b1, i1, none⟩ = some u1 ∧ w'.cell? ⟨b1, i2, none⟩ = some u2 :=
 ⟨Zg hb h.1, Zg hb h.2.1, Zg hb h.2.2⟩
theorem Zsb (n : Nat) (hn : n < 18446744073709551616) (w : World) : Calls Tryz.prog 218 #[.int .u64 1, .int .u64 n] w fun e w' => e = .returned (.tuple #[.int .u64 0, .int .u64 n]) ∧ w' = w := by
 have h := Any.bits_Mul64 Tryz.lays264 1 n (by decide) hn w
 rw [Nat.one_mul, Nat.div_eq_of_lt hn, Nat.mod_eq_of_lt hn] at h
 exact h
theorem Zux (n : Nat) (hn : n < 18446744073709551616) (w : World) : Calls Tryz.prog 172 #[.int .u64 1, .int .u64 n] w fun e w' => e = .returned (.tuple #[.int .u64 0, .int .u64 n]) ∧ w' = w := by
 have h := Zsb n hn w
 go_enter Tryz.func172, Tryz.ntmps172
 go_wp2_with (go_at_call 218; refine h.mono ?_; rintro e w' ⟨rfl, rfl⟩)
 exact bodyPost_ret (v := .tuple #[.int .u64 0, .int .u64 n]) (by simp [results, Tryz.results172, go_sem]) rfl ⟨rfl, rfl⟩
def Zbg (k n : Nat) : List Value := List.replicate k (.int .i64 1) ++ List.replicate (n - k) (.int .i64 0)
theorem Zhh {k n j : Nat} (h : k + j ≤ n) : splice (Zbg k n) k (List.replicate j (.int .i64 1)) = Zbg (k + j) n := by
 unfold splice Zbg
 rw [List.take_append_of_le_length (by simp), List.take_of_length_le (by simp), List.length_replicate, List.drop_append, List.drop_of_length_le (by simp), List.length_replicate, show k + j - k = j by omega, List.drop_replicate, List.nil_append, ← List.append_assoc, List.replicate_append_replicate, Nat.sub_sub]
theorem Yl : Tryz.prog.underlying 29 = some (.slice 3) := by kernel_rfl
theorem Yu : (Tryz.prog.info? 3).map (fun i => (i.zero, i.size, i.bytes)) = some (some (.int .i64 0), 1, 8) := by kernel_rfl
theorem Zmf : (Tryz.prog.info? 3).map (·.size) = some 1 := by kernel_rfl
theorem Zsv {w : World} {base g n : Nat} {X : List Value} (hb : base ≤ g) (hh : w.heap[g]? = some (.cells X.toArray 3 (0, 0))) (hl : X.length = n) (hn : n ≤ 1000000) : w.ownsRow base 3 1 (.slice (some ⟨g, 0, none⟩) n n) n X :=
 ⟨by rw [hl, Nat.mul_one], .inr ⟨g, n, X.toArray, rfl, hb, hh, Nat.le_refl _, by unfold maxLen; omega, by simp; omega, by simp [← hl]⟩⟩
theorem Zs3 (b n : Nat) (w : World) (hc : w.cell? ⟨b, 0, none⟩ = some (.int .i64 1)) (h1 : 1 ≤ n) (hn : n ≤ 1000000) :
 Calls Tryz.prog 211 #[.slice (some ⟨b, 0, none⟩) 1 1, .int .i64 n] w fun e w' => ∃ v, e = .returned v ∧ Zn w' w.heap.size v (List.replicate n 1) ∧ Below w.heap.size w w' := by
 have hmul := Zux n (by omega) w
 have hmk := Zde (P := Tryz.prog) (z := .int .i64 0) (k := 1) (bytes := 8) Yl Yu n (by omega) (by omega)
 have t1 : IntKind.u64.wrap (n : Int) = (n : Int) := by rw [IntKind.wrap_u64]; omega
 have t2 := IntWalk.i64_in (n : Int) (by omega)
 have e0 : madeCells (Value.int .i64 0).cells (n * 1) = (Zbg 0 n).toArray := by
  unfold Zbg madeCells
  refine Array.ext (by simp) fun i h1 h2 => ?_
  simp [Value.cells, Nat.mod_one]
 rw [e0] at hmk
 go_enter Tryz.func211, Tryz.ntmps211
 have e1 : splice (Zbg 0 n) 0 [.int .i64 1] = Zbg 1 n := Zhh (k := 0) (j := 1) (by omega)
 have E1 := Za e1
 have hgF : ∀ W : World, Hid ((W.alloc (.cells (Zbg 0 n).toArray 3)).heap[W.heap.size]? = some (.cells (Zbg 0 n).toArray 3 (0, 0))) := fun W => by show (W.heap.push _)[_]? = _; rw [Array.getElem?_push_size]
 clear e0 e1
 go_upto_region 7 with (go_at_call 172; refine hmul.mono ?_; rintro e w' ⟨rfl, rfl⟩)
 go_wp2_with (refine wpList_copy_splice rfl (.tmp 31) (.tmp 32) 29 29 rfl 3 Yl Zmf (some ⟨w'.heap.size, 0, none⟩) (some ⟨b, 0, none⟩) n n 1 1 rfl rfl w'.heap.size 0 (Zbg 0 n) 3 ?qg [.int .i64 1] ?qn ?qp ?qf ?q1 w'.heap.size w' (Zc (Zf _) _) (Nat.le_refl _) ?_)
 case qg => exact (hgF _).out
 case qn => simp only [List.length_singleton, Nat.min_def]; split <;> omega
 case qp =>
  intro j v hj
  have : j = 0 := by have := (List.getElem?_eq_some_iff.1 hj).1; simp at this; omega
  subst this; simp at hj; subst hj
  exact Zo (Zc (Zf _) _) hc
 case qf => simp [Zbg]; omega
 case q1 => intro v hv; rw [List.mem_singleton.1 hv]; rfl
 intro w2 HG2 hB2
 have HG3 := HG2.out
 rw [E1.out] at HG3
 have HG4 := Za HG3
 clear HG2 HG3 hmul hmk E1 t1 t2
 obtain ⟨g, hg⟩ : ∃ g, g = w'.heap.size := ⟨_, rfl⟩
 rw [← hg] at HG4 hB2 ⊢
 have HGG := Za hg
 have HB2 := Za hB2
 clear hg hB2 hgF
 go_wp2_with fail
 go_loopg [8] n (fun gg s8 wr => ∃ k : Nat, s8 = .int .i64 k ∧ 1 ≤ k ∧ k ≤ n ∧ n - k ≤ gg ∧ Aside (wr.heap[g]? = some (.cells (Zbg k n).toArray 3 (0, 0))) ∧ Aside (Below g w' wr))
 case atStart => exact ⟨1, rfl, Nat.le_refl _, h1, by omega, HG4.out, HB2.out⟩
 obtain ⟨k, rfl, hk1, hkn, hgg, HG, HB⟩ := hrel
 by_cases hlt : k < n
 ·
  have hltz : (k : Int) < (n : Int) := by omega
  obtain ⟨m, hm⟩ : ∃ m, m = Nat.min k (n - k) := ⟨_, rfl⟩
  have hm1 : 1 ≤ m ∧ k + m ≤ n := by rw [hm]; simp only [Nat.min_def]; split <;> omega
  have s1 : Hid (wr.drew.heap[g]? = some (.cells (Zbg k n).toArray 3 (0, 0))) := HG.out
  have s2 : Hid ((List.replicate m (Value.int .i64 1)).length = Nat.min k (n - k)) := by show _ = _; rw [List.length_replicate]; exact hm
  have hcell : ∀ j, j < k → wr.drew.cell? ⟨g, j, none⟩ = some (.int .i64 1) := fun j hj => by
   have e := s1.out
   unfold World.cell?
   simp only [e]
   have : (Zbg k n)[j]? = some (.int .i64 1) := by unfold Zbg; rw [List.getElem?_append_left (by simpa using hj)]; simp [hj]
   simpa using this
  have s3 : Hid (∀ j v, (List.replicate m (Value.int .i64 1))[j]? = some v → wr.drew.cell? ⟨g, j, none⟩ = some v) := fun j v hj => by
   have hjm : j < m := by have := (List.getElem?_eq_some_iff.1 hj).1; simpa using this
   rw [List.getElem?_replicate, if_pos hjm] at hj
   injection hj with hj
   subst hj
   exact hcell j (by have : m ≤ k := by rw [hm]; exact Nat.min_le_left _ _
                     omega)
  have s4 : Hid (k + (List.replicate m (Value.int .i64 1)).length ≤ (Zbg k n).length) := by show _ ≤ _; simp [Zbg]; omega
  have s5 : Hid (∀ v ∈ List.replicate m (Value.int .i64 1), v.oneCell' = true) := fun v hv => by rw [List.eq_of_mem_replicate hv]; rfl
  have s6 : Hid (Below g w' wr.drew) := HB.out.drew
  have s7 : Hid (splice (Zbg k n) k (List.replicate m (.int .i64 1)) = Zbg (k + m) n) := Zhh hm1.2
  have t3 : IntKind.i64.wrap ((k : Int) + (m : Int)) = ((k + m : Nat) : Int) := by rw [IntKind.wrap_i64]; omega
  have hkc : ¬ n = k := by omega
  have hm2 := hm1.1
  have hm3 := hm1.2
  clear hm hm1 HG HB hcell
  go_wp2_with fail
  go_region_law (refine step_copy_splice rfl (.tmp 41) (.tmp 44) 29 29 rfl 3 Yl Zmf (some ⟨g, k, none⟩) (some ⟨g, 0, none⟩) (n - k) (n - k) k n (by simp [Act.eval, Act.put, *]) (by simp [Act.eval, Act.put, *]) g k (Zbg k n) 3 s1.out (List.replicate m (.int .i64 1)) s2.out (fun _ => ⟨rfl, _, rfl, fun j v hj => by rw [Addr.add_lit, Nat.zero_add]; exact s3.out j v hj⟩) s4.out s5.out g w' s6.out (Nat.le_refl _) ?_; intro w4 hg4 hb4)
  clear s1 s2 s3 s4 s5 s6
  have HG5 := hg4.out
  rw [s7.out] at HG5
  have HG6 := Za HG5
  have HB6 := Za hb4
  clear hg4 hb4 HG5 s7
  go_wp2_with fail
  go_roundg (n - (k + m))
  case measure => omega
  case rel => exact ⟨k + m, by first | rfl | go_num, by omega, by omega, by omega, HG6.out, HB6.out⟩
 have hltz : ¬ (k : Int) < (n : Int) := by omega
 have hk : k = n := by omega
 subst hk
 go_wp2_with fail
 go_ret
 refine ⟨_, rfl, ?_, ?_⟩
 · have e : (List.replicate k (1 : Int)).flatMap Zc5 = Zbg k k := by rw [Zfh]; simp [Zbg]
   unfold Zn
   rw [e, List.length_replicate]
   exact Zsv (by have := HGG.out; omega) HG.out (by simp [Zbg]) (by omega)
 have := HB.out; rw [HGG.out] at this; exact this
end Go.Proofs.YtgdmcmicfoamlaaGreatDoor
