/-
  DiskPlays.
-/
import Derived.Test.YtkgnaabmcboffaaDoorDvX
import Derived.Test.YtkgnaabmcboffaaDoorDkU
import Derived.Test.YtkgnaabmcboffaaDoorDvO
set_option linter.unusedSimpArgs false
set_option linter.unusedVariables false
namespace Go.Proofs.YtkgnaabmcboffaaDoor
open Go.RowKit Go.Cv Go.Cv.Dk
theorem Dsk.low {w : World} {B B' d : Nat} {S : DS} {bs : List Nat} (h : Dsk w B d S bs) (hb : B' ≤ B) : Dsk w B' d S bs := by
  obtain ⟨mb, L, h, rfl⟩ := h
  refine ⟨mb, L, ⟨h.row, h.map, fun g hg => ?_, h.sep, h.ls, ⟨Nat.le_trans hb h.ge.1, Nat.le_trans hb h.ge.2⟩, h.ok⟩, rfl⟩
  have hf := h.fl g hg
  exact ⟨hf.row, hf.rd, hf.nc, hf.cm, hf.sy, hf.own.imp (fun ho => own_base ho hb) id, hf.nil, hf.len, Nat.le_trans hb hf.ge.1, fun x hx => ⟨Nat.le_trans hb (hf.ge.2 x hx).1, (hf.ge.2 x hx).2⟩⟩
theorem rnew {w : World} {B : Nat} {room : Int} (h0 : 0 ≤ room) (h1 : room ≤ 9223372036854775807) (hB : B ≤ w.heap.size) :
    Rsk (w.alloc (.cells #[.int .i64 room, .slice none 0 0, .bool false, .bool false, .int .i64 0, .int .i64 0] 43)) B w.heap.size (newD room) [w.heap.size] := by
  refine ⟨none, 0, [], ⟨⟨0, fun h => by have h : (0 : Int) ≤ -1 := h; omega, ?_⟩, ⟨World.ownsRow_nil _ _ _ _, by simp, by simp⟩, rfl, by simp [tfoot, rowOf], hB, ⟨h0, h1, by show (-1 : Int) ≤ -1; omega, by show (-1 : Int) ≤ 9223372036854775807; omega, by simpa [newD, used] using h0, by simp [newD], by simp [newD], List.Pairwise.nil⟩⟩, by simp [rfoot, tfoot, rowOf]⟩
  exact Row.alloc w [.int .i64 room, .slice none 0 0, .bool false, .bool false, .int .i64 0, .int .i64 0] _
set_option maxRecDepth 20000 in
set_option maxHeartbeats 3200000 in
theorem plays_neg (room : Int) (A0 : Option Addr) (n0 c0 : Nat) (w : World) (h : room < 0) :
    Calls Tryd.prog 4 #[.int .i64 room, .slice A0 n0 c0] w fun e w' => e = .returned (.bool true) ∧ Ext w w' := by
  refine calls_hid fun G hG => ?_
  have hg : ∀ w', Ext w w' → G (.returned (.bool true)) w' := fun w' hx => hG.out _ _ ⟨rfl, hx⟩
  replace hg := Lib.hid hg
  have hU := up_any w
  have hN := fun w1 => new_neg room w1 h
  clear hG
  go_enter Tryd.func4, Tryd.ntmps4
  go_wp2_with (first
    | (go_at_call 5; (with_reducible refine hU.mono ?_); rintro e' w1 ⟨rfl, hx1⟩)
    | (go_at_call 6; (with_reducible refine (hN _).mono ?_); rintro e' w2 ⟨rfl, rfl⟩))
  exact hg.out _ hx1
theorem opcells_len (O : List OpV) : (O.flatMap OpV.cells).length = O.length * 5 := by
  induction O with
  | nil => rfl
  | cons e r ih => rw [List.flatMap_cons, List.length_append, ih, List.length_cons]; simp [OpV.cells]; omega
theorem opcells_at {O : List OpV} {k j : Nat} {o : OpV} (h : O[k]? = some o) (hj : j < 5) : (O.flatMap OpV.cells)[k * 5 + j]? = o.cells[j]? := by
  have hk : k < O.length := by
    rcases Nat.lt_or_ge k O.length with h1 | h1
    · exact h1
    · rw [List.getElem?_eq_none h1] at h; cases h
  obtain ⟨l1, x, l2, hL, hl, _, _⟩ := split_at hk
  rw [hL, List.getElem?_append_right (by omega), hl, Nat.sub_self] at h
  injection h with h
  have h : x = o := h
  subst h
  rw [hL, List.flatMap_append, List.flatMap_cons, List.getElem?_append_right (by rw [opcells_len, hl]; omega), opcells_len, hl, Nat.add_sub_cancel_left, List.getElem?_append_left (by simpa [OpV.cells] using hj)]
theorem nine_app {B d : Nat} {S : DS} {bs : List Nat} {w : World} (h : Dsk w B d S bs) (hc : (cont S [97]).length + 1 ≤ 140737488355328) (hL : S.l.length < 281474976710656) :
    Calls Tryd.prog 7 #[.pointer (some ⟨d, 0, none⟩), .string ⟨#[97]⟩, .slice (some ⟨w.heap.size, 0, none⟩) 1 1] (w.alloc (.cells #[.int .u8 1] 5)) fun e w' => e = .returned (errV (app wrap64 S [97] [1]).1) ∧ DN w B d bs (app wrap64 S [97] [1]).2 w' := by
  have hx := ext_alloc w (.cells #[.int .u8 1] 5)
  have h1 := append_dk (w := w.alloc (.cells #[.int .u8 1] 5)) ⟨#[97]⟩ (some ⟨w.heap.size, 0, none⟩) 1 1 [1] (h.ext hx) (by decide) rfl (rd_alloc w [1] _) (ap_fresh fun x hx => (h.lt x hx).2) hc hL
  exact h1.mono fun e w' x => ⟨x.1, x.2.after hx⟩
theorem two_ge {w : World} {B d r : Nat} {S S' : DS} {bs cs : List Nat} (h : Two w B d r S S' bs cs) : ∀ x ∈ bs ++ cs, B ≤ x := fun x hx => by
  rcases List.mem_append.1 hx with hx | hx
  · exact (h.d.lt x hx).1
  · exact (h.r.lt x hx).1
theorem nine_ap {w0 w : World} {B d r : Nat} {S S' : DS} {bs cs : List Nat} {A : Option Addr} {b : List UInt8} (hr : Rd w0 A (b.map bv)) (h : Two w B d r S S' bs cs) (hw : w0.heap.size ≤ B) : Ap A b (bs ++ cs) :=
  Ap.of_lt hr fun x hx => Nat.le_trans hw (two_ge h x hx)
theorem nine_two {w0 w w3 w5 : World} {B d r : Nat} {S : DS} {bs cs bs9 bs5 : List Nat} (hT : Two w B d r S S bs cs) (hE : Ext w0 w) (hB : B ≤ w.heap.size) (hge : ∀ x ∈ bs ++ cs, w0.heap.size ≤ x) (hw : w0.heap.size ≤ B) (hx3 : Ext w w3)
    (hD9 : Dsk w3 w.heap.size w.heap.size S bs9) (hS : Stp bs bs5 w3 w5) : Two w5 B w.heap.size r S S bs9 cs ∧ Ext w0 w5 ∧ B ≤ w5.heap.size := by
  refine ⟨⟨(hD9.low hB).keep hS.k fun x hx hm => ?_, (hT.r.ext hx3).keep hS.k fun x hx hm => hT.ap x hm hx, fun x hx hm => ?_⟩, ext_keep (hE.trans hx3) hS.k fun x hx => hge x (by simp [hx]), Nat.le_trans hB (Nat.le_trans hx3.size hS.k.size)⟩
  · have h1 := (hD9.lt x hx).1
    have h2 := (hT.d.lt x hm).2
    omega
  · have h1 := (hD9.lt x hx).1
    have h2 := (hT.r.lt x hm).2
    omega
set_option maxRecDepth 20000 in
set_option maxHeartbeats 6400000 in
theorem plays_any (room : Int) (A0 : Option Addr) (n0 c0 : Nat) (O : List OpV) (w : World) (h0 : 0 ≤ room) (h1 : room ≤ 9223372036854775807) (hn : O.length = n0) (hb : n0 ≤ 1048576) (hr : Rd w A0 (O.flatMap OpV.cells)) (hO : ∀ o ∈ O, o.At w) :
    Calls Tryd.prog 4 #[.int .i64 room, .slice A0 n0 c0] w fun e w' => e = .returned (.bool true) ∧ Ext w w' := by
  refine calls_hid fun G hG => ?_
  have hg : ∀ w', Ext w w' → G (.returned (.bool true)) w' := fun w' hx => hG.out _ _ ⟨rfl, hx⟩
  replace hg := Lib.hid hg
  have hU := up_any w
  have hN := fun w1 => new_dk room w1 h0 h1
  have hneg : decide (room < 0) = false := decide_eq_false (by omega)
  replace hn := Lib.hid hn
  clear hG
  go_enter Tryd.func4, Tryd.ntmps4
  go_wp2_with (first
    | (go_at_call 5; (with_reducible refine hU.mono ?_); rintro e' w1 ⟨rfl, hx1⟩)
    | (go_at_call 6; (with_reducible refine (hN _).mono ?_); rintro e' w2 ⟨d, bs, rfl, hD2, hx2⟩))
  obtain ⟨r, hrr⟩ : ∃ r, r = w2.heap.size := ⟨_, rfl⟩
  obtain ⟨B, hBB⟩ : ∃ B, B = w1.heap.size := ⟨_, rfl⟩
  rw [← hBB] at hD2
  have hxW := ext_alloc w2 (.cells #[.int .i64 room, .slice none 0 0, .bool false, .bool false, .int .i64 0, .int .i64 0] 43)
  have hR2 := rnew (w := w2) (B := B) h0 h1 (by rw [hBB]; exact hx2.size)
  have hT0 : Two (w2.alloc (.cells #[.int .i64 room, .slice none 0 0, .bool false, .bool false, .int .i64 0, .int .i64 0] 43)) B d r (newD room) (newD room) bs [r] := ⟨hD2.ext hxW, by rw [hrr]; exact hR2, fun x hx hm => by have := (hD2.lt x hx).2; rw [List.mem_singleton.1 hm] at this; omega⟩
  have hE0 : Ext w (w2.alloc (.cells #[.int .i64 room, .slice none 0 0, .bool false, .bool false, .int .i64 0, .int .i64 0] 43)) := hx1.trans (hx2.trans hxW)
  have hwB : w.heap.size ≤ B := by rw [hBB]; exact hx1.size
  have hB0 : B ≤ (w2.alloc (.cells #[.int .i64 room, .slice none 0 0, .bool false, .bool false, .int .i64 0, .int .i64 0] 43)).heap.size := by rw [hBB]; exact Nat.le_trans hx2.size hxW.size
  rw [← hrr]
  generalize (w2.alloc (.cells #[.int .i64 room, .slice none 0 0, .bool false, .bool false, .int .i64 0, .int .i64 0] 43)) = W at *
  clear hU hN hD2 hR2 hxW hrr hBB hx1 hx2
  go_loopw [6, 9] (fun dp i wr => ∃ (k dd : Nat) (S : DS) (bs cs : List Nat), k ≤ n0 ∧ dp = .pointer (some ⟨dd, 0, none⟩) ∧ i = .int .i64 k ∧ Hid (Two wr B dd r S S bs cs) ∧ Hid (used S.l ≤ k * 1048576 ∧ S.l.length ≤ k) ∧ Ext w wr ∧ B ≤ wr.heap.size) (fun dp i _ => n0 - (intOf i).toNat)
  case atStart => exact ⟨0, d, newD room, bs, [r], Nat.zero_le _, rfl, rfl, Lib.hid hT0, Lib.hid ⟨by simp [newD, used], by simp [newD]⟩, hE0, hB0⟩
  case round =>
    obtain ⟨k, dd, S, bs', cs', hk, rfl, rfl, hT, hbd, hE, hBr⟩ := hrel
    by_cases hlt : k < n0
    · have hkO : k < O.length := by rw [hn.out]; exact hlt
      obtain ⟨o, hok⟩ : ∃ o, O[k]? = some o := ⟨_, List.getElem?_eq_getElem hkO⟩
      have hoA := (hO o (List.mem_of_getElem? hok)).ext hE
      have hP := fun w0 => pick_any o.k 10 w0 hoA.k (by omega)
      have hcell : ∀ w', Ext w w' → ∀ j v, o.cells[j]? = some v → ∃ ad, A0 = some ad ∧ w'.cell? (ad.add (k * 5 + j)) = some v := fun w' hx j v hv => hr.ext hx _ v (by
        have hj : j < 5 := by
          rcases Nat.lt_or_ge j 5 with h | h
          · exact h
          · rw [List.getElem?_eq_none (by simpa [OpV.cells] using h)] at hv; cases hv
        rw [opcells_at hok hj]; exact hv)
      obtain ⟨ad, rfl, _⟩ := hcell wr hE 0 _ rfl
      have hpt : ∀ w', Ext w w' → w'.cell? (ad.add (k * 5)) = some (.int .i64 o.k) ∧ w'.cell? ⟨(ad.add (k * 5)).block, (ad.add (k * 5)).off + 1, none⟩ = some (.string o.x) ∧ w'.cell? ⟨(ad.add (k * 5)).block, (ad.add (k * 5)).off + 2, none⟩ = some (.string o.y) ∧
          w'.cell? ⟨(ad.add (k * 5)).block, (ad.add (k * 5)).off + 3, none⟩ = some (.int .i64 o.n) ∧ w'.cell? ⟨(ad.add (k * 5)).block, (ad.add (k * 5)).off + 4, none⟩ = some (.slice o.A o.m o.cb) := fun w' hx => by
        have key : ∀ j v, o.cells[j]? = some v → w'.cell? ((ad.add (k * 5)).add j) = some v := fun j v hv => by
          obtain ⟨ad', e, h⟩ := hcell w' hx j v hv
          injection e with e
          subst e
          rw [Cv.add_add]; exact h
        exact ⟨key 0 _ rfl, key 1 _ rfl, key 2 _ rfl, key 3 _ rfl, key 4 _ rfl⟩
      obtain ⟨p0, p1, p2, p3, p4⟩ := hpt wr hE
      replace hpt := Lib.hid hpt
      clear hcell
      have hoa0 := hO o (List.mem_of_getElem? hok)
      have hge : ∀ x ∈ bs' ++ cs', w.heap.size ≤ x := fun x hx => by
        rcases List.mem_append.1 hx with hx | hx
        · exact Nat.le_trans hwB (hT.out.d.lt x hx).1
        · exact Nat.le_trans hwB (hT.out.r.lt x hx).1
      have hap : Ap o.A o.b (bs' ++ cs') := Ap.of_lt hoa0.rd hge
      by_cases h9 : pickI o.k 10 = 9
      · have hq9 : (pickI o.k 10 == 9) = true := by simpa using h9
        have hC := clone_dk hT.out.d (by have := hbd.out.2; omega)
        have hcu : (cont S [97]).length + 1 ≤ 140737488355328 := by have := cont_used S [97]; have := hbd.out.1; omega
        have hSl : S.l.length < 281474976710656 := by have := hbd.out.2; omega
        have hop : opS S o = S := by
          unfold opS
          rw [h9]
          simp
        replace hge := Lib.hid hge
        replace hap := Lib.hid hap
        replace hcu := Lib.hid hcu
        replace hSl := Lib.hid hSl
        replace hop := Lib.hid hop
        go_wp2_with (first
        | (go_at_call 10; (with_reducible refine (hP _).mono ?_); rintro e' w6 ⟨rfl, rfl⟩)
        | (go_at_call 14; (with_reducible refine hC.mono ?_); rintro e' w3 ⟨bs9, rfl, hD9, hx3⟩; have hA9 := nine_app ((hT.out.d).ext hx3) hcu.out hSl.out; replace hD9 := Lib.hid hD9)
        | (go_at_call 7; (with_reducible refine hA9.mono ?_); rintro e' w4 ⟨rfl, bs4, hD4, hS4⟩; have hP9 := power_dk 1 hD4 (by omega); replace hD4 := Lib.hid hD4)
        | (go_at_call 11; (with_reducible refine hP9.mono ?_); rintro e' w5 ⟨rfl, bs5, hD5, hS5⟩; obtain ⟨hT9, hE9, hB9⟩ := nine_two hT.out hE hBr hge.out hwB hx3 hD9.out (hS4.trans hS5); have hStep := step_all B _ r S bs9 cs' o w5 hT9 (hoa0.ext hE9) (nine_ap hoa0.rd hT9 hwB) (by have := hbd.out.2; omega) hB9 (by have := hbd.out.1; omega); replace hT9 := Lib.hid hT9; obtain ⟨q0, q1, q2, q3, q4⟩ := hpt.out w5 hE9; clear hD5)
        | (go_at_call 15; (with_reducible refine (hStep).mono ?_); rintro e' w7 ⟨rfl, bs7, cs7, hT7, hS7⟩; have hx7 := ext_keep hE9 hS7.k (fun x hx => Nat.le_trans hwB (two_ge hT9.out x hx)); have hV7 := stands_any B _ r _ bs7 cs7 w7 hT7 (by rw [hop.out]; have := hbd.out.2; omega) (Nat.le_trans hB9 hS7.k.size); replace hT7 := Lib.hid hT7)
        | (go_at_call 16; (with_reducible refine hV7.mono ?_); rintro e' w8 ⟨rfl, hx8⟩))
        have hbd2 : Hid (used (opS S o).l ≤ (k + 1) * 1048576 ∧ (opS S o).l.length ≤ k + 1) := Lib.hid ⟨by have e : used (opS S o).l = used S.l := congrArg (fun s => used s.l) hop.out; have := hbd.out.1; omega, by have e : (opS S o).l.length = S.l.length := congrArg (fun s => s.l.length) hop.out; have := hbd.out.2; omega⟩
        go_roundw
        case rel => exact ⟨k + 1, _, opS S o, bs7, cs7, hlt, rfl, by simp, Lib.hid (hT7.out.ext hx8), hbd2, hx7.trans hx8, Nat.le_trans hB9 (Nat.le_trans hS7.k.size hx8.size)⟩
        case measure => exact meas hlt
      · have hq9 : (pickI o.k 10 == 9) = false := by simpa using h9
        have hStep := step_all B dd r S bs' cs' o wr hT.out hoA hap (by have := hbd.out.2; omega) hBr (by have := hbd.out.1; omega)
        replace hge := Lib.hid hge
        replace hap := Lib.hid hap
        go_wp2_with (first
        | (go_at_call 10; (with_reducible refine (hP _).mono ?_); rintro e' w6 ⟨rfl, rfl⟩)
        | (go_at_call 15; (with_reducible refine (hStep).mono ?_); rintro e' w7 ⟨rfl, bs7, cs7, hT7, hS7⟩; have hx7 := ext_keep hE hS7.k hge.out; have hV7 := stands_any B dd r _ bs7 cs7 w7 hT7 (by have := (op_bd hT.out.d.ok o hoA.m hoA.l).2; have := hbd.out.2; omega) (Nat.le_trans hBr hS7.k.size); replace hT7 := Lib.hid hT7)
        | (go_at_call 16; (with_reducible refine hV7.mono ?_); rintro e' w8 ⟨rfl, hx8⟩))
        have hop := op_bd hT.out.d.ok o hoA.m hoA.l
        have hbd2 : Hid (used (opS S o).l ≤ (k + 1) * 1048576 ∧ (opS S o).l.length ≤ k + 1) := Lib.hid ⟨by have := hop.1; have := hbd.out.1; omega, by have := hop.2; have := hbd.out.2; omega⟩
        go_roundw
        case rel => exact ⟨k + 1, dd, opS S o, bs7, cs7, hlt, rfl, by simp, Lib.hid (hT7.out.ext hx8), hbd2, hx7.trans hx8, Nat.le_trans hBr (Nat.le_trans hS7.k.size hx8.size)⟩
        case measure => exact meas hlt
    · clear hT
      go_wp2
      exact hg.out _ hE
theorem plays_w (room : Int) (A : Option Addr) (n c : Nat) (O : List OpV) (w : World) (_ : True) (hr : (Lit.int .i64 room).wf = true) (hO : O.length = n ∧ Rd w A (O.flatMap OpV.cells) ∧ n ≤ 1048576 ∧ ∀ o ∈ O, o.At w) :
    Calls Tryd.prog 4 #[.int .i64 room, .slice A n c] w fun e w' => e = .returned (.bool true) ∧ Below w.heap.size w w' := by
  obtain ⟨h1, h2, h3, h4⟩ := hO
  by_cases h : room < 0
  · exact plays_neg room A n c w h
  · exact plays_any room A n c O w (by omega) (wf_i64 hr).2 h1 h3 h2 h4
end Go.Proofs.YtkgnaabmcboffaaDoor
