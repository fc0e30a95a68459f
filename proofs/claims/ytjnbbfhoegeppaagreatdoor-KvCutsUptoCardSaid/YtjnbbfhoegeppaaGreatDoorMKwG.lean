/-
  Texts of the lemmas below the claim, put together: WalR KwG KwH.
-/
import Derived.Test.YtjnbbfhoegeppaaGreatDoorMWoA
import Derived.Test.YtjnbbfhoegeppaaGreatDoorMKwF
import Derived.Test.YtjnbbfhoegeppaaGreatDoorMKvY
import Derived.Test.YtjnbbfhoegeppaaGreatDoorMKvL
section
/-
  Walks of the reference's Scan and Same.
-/
set_option linter.unusedSimpArgs false
set_option linter.unusedVariables false
namespace Go.Proofs.YtjnbbfhoegeppaaGreatDoor
open Go.RowKit Go.Cv Go.Cv.Wal

/-- In the block to which A leads. -/
def InA (A : Option Addr) (_ : World) (ad : Addr) : Prop := ∃ a0, A = some a0 ∧ ad.block = a0.block
theorem InA.cut {A : Option Addr} {w : World} {l m s : Nat} : ∀ ad, cutA A l m s = some ad → InA A w ad := by
  intro ad h
  unfold cutA at h
  split at h
  · exact ⟨ad, h, rfl⟩
  · rcases A with _ | a0
    · cases h
    · simp at h
      exact ⟨a0, rfl, by rw [← h, add_block]⟩

set_option maxHeartbeats 400000 in
theorem rscan_any (A : Option Addr) (n cap : Nat) (l : List UInt8) (w : World) (hl : l.length = n) (hc : n ≤ cap) (hcm : cap ≤ maxLen) (hr : Rd w A (l.map bv)) (hm : n ≤ 35184372088832) :
    Calls Tryz.prog 59 #[.slice A n cap] w (RetScan (InA A) w l) := by
  go_enter Tryz.func59, Tryz.ntmps59
  go_wp2
  go_loopw [4, 5, 6, 7, 8, 9] (fun o u _ _ _ _ wr => ∃ (A4 : Option Addr) (c4 : Nat) (vs : List Value) (R : List (List UInt8)) (k : Nat), k ≤ n ∧ u = .int .i64 k ∧ o = .slice A4 R.length c4 ∧ Ext w wr ∧
    wr.ownsRow w.heap.size 43 1 (.slice A4 R.length c4) R.length vs ∧ AllB (InA A) wr vs R ∧ (R.map frame).flatten = l.take k ∧ (∀ r ∈ R, r.length ≤ 2097152) ∧ 8 * R.length ≤ k) (fun _ u _ _ _ _ _ => n - (intOf u).toNat)
  case atStart => exact ⟨none, 0, [], [], 0, by omega, rfl, rfl, Ext.refl _, World.ownsRow_nil _ _ _ _, trivial, by simp, by simp, by simp⟩
  case round =>
    obtain ⟨A4, c4, vs, R, k, hk, rfl, rfl, hx, ho, ha, he, hs, h8⟩ := hrel
    by_cases hge : 8 ≤ n - k
    · obtain ⟨a, b, c, d, e, f, g, i, r, hd⟩ := eight (l := l.drop k) (by rw [List.length_drop]; omega)
      have hrl : r.length + 8 = n - k := by
        have := congrArg List.length hd
        rw [List.length_drop] at this
        simp only [List.length_cons] at this
        omega
      have hrl4 : Rd wr (cutA A k cap 1) (([a, b, c, d] : List UInt8).map bv) := by
        have := ((hr.ext hx).cutA_ (l := k) (m := cap) (by simp; omega)).take 4
        rw [← List.map_drop, hd] at this
        exact this
      have HD := Lib.hid hd
      clear hd
      go_wp2_with fail
      rw [show k + 4 - k = 4 from by omega]
      refine (number_any a b c d [] _ _ _ _ (by omega) hrl4).mono ?_
      rintro _ _ ⟨rfl, m, rfl⟩
      have hwq := hx
      replace hx := hx.drewN m
      replace ho : (wr.drewN m).ownsRow w.heap.size 43 1 (.slice A4 R.length c4) R.length vs := ho
      replace ha : AllB (InA A) (wr.drewN m) vs R := ha.ext ((Ext.refl wr).drewN m) (fun _ h => h)
      generalize wr.drewN m = wq at *
      clear hwq hrl4
      have hn4 := num4_lt a b c d
      have HS1 := Lib.hid (scan1_frame_eq a b c d e f g i r)
      have HS2 := Lib.hid (show (num4 a b c d > 2097152 ∨ num4 a b c d > r.length) → scan1 (a :: b :: c :: d :: e :: f :: g :: i :: r) = none from fun h => if_pos h)
      generalize num4 a b c d = sz at *
      by_cases hbig : 2097152 < sz
      · have hbig' : (2097152 : Int) < (sz : Int) := by omega
        go_wp2
        go_ret2
        exact RetScan.mk_ (by omega) hx ho ha he hs (by rw [HD.out, HS2.out (by omega)])
      · have hbig' : ¬ (2097152 : Int) < (sz : Int) := by omega
        by_cases hfit : n - k - 8 < sz
        · have hfit' : (n : Int) - (k : Int) - 8 < (sz : Int) := by omega
          go_wp2
          go_ret2
          exact RetScan.mk_ (by omega) hx ho ha he hs (by rw [HD.out, HS2.out (by omega)])
        · have hfit' : ¬ (n : Int) - (k : Int) - 8 < (sz : Int) := by omega
          replace HS1 := Lib.hid (HS1.out (by omega) (by omega))
          have hd8 : l.drop (k + 8) = r := by
            have := congrArg (List.drop 8) HD.out
            rw [List.drop_drop] at this
            simpa using this
          have hrr : Rd wq (cutA A (k + 8) cap 1) ((r.take sz).map bv) := by
            have := ((hr.ext hx).cutA_ (l := k + 8) (m := cap) (by simp; omega)).take sz
            rw [← List.map_drop, ← List.map_take, hd8] at this
            exact this
          have hrw : Rd wq (cutA A k cap 1) ((a :: b :: c :: d :: e :: f :: g :: i :: r.take sz).map bv) := by
            have := ((hr.ext hx).cutA_ (l := k) (m := cap) (by simp; omega)).take (8 + sz)
            rw [← List.map_drop, ← List.map_take, HD.out, Nat.add_comm 8 sz] at this
            exact this
          clear hd8
          have hrt := Lib.hid (show (r.take sz).length = sz by rw [List.length_take]; omega)
          go_wp2_with fail
          rw [show k + 8 + sz - (k + 8) = sz from by omega]
          refine (rframe_any _ _ _ (r.take sz) _ hrt.out hrr (by omega)).mono ?_
          rintro _ w3 ⟨A3, c3, rfl, hx3, _, _, _, hr3⟩
          replace ho := own_ext ho hx3
          replace ha : AllB (InA A) w3 vs R := ha.ext hx3 (fun _ h => h)
          replace hrr := hrr.ext hx3
          replace hrw := hrw.ext hx3
          replace hx := hx.trans hx3
          clear hx3
          have hcv1 : ∀ q, (convert 43 9 (.slice A3 (8 + sz) c3)).run Tryz.prog (w3.drewN q) = .ok (.string ⟨(frame (r.take sz)).toArray⟩) (w3.drewN q) := fun q =>
            run_convert_rd (P := Tryz.prog) (w3.drewN q) 43 9 5 Tryz.underlying43 Tryz.underlying5 Tryz.underlying9 A3 (8 + sz) c3 _ (by rw [frame_length, hrt.out]) (hr3.drewN q)
          have hcv2 : ∀ q C, (convert 43 9 (.slice (cutA A k cap 1) (k + 8 + sz - k) C)).run Tryz.prog (w3.drewN q) = .ok (.string ⟨(a :: b :: c :: d :: e :: f :: g :: i :: r.take sz).toArray⟩) (w3.drewN q) := fun q C =>
            run_convert_rd (P := Tryz.prog) (w3.drewN q) 43 9 5 Tryz.underlying43 Tryz.underlying5 Tryz.underlying9 (cutA A k cap 1) (k + 8 + sz - k) C _ (by simp only [List.length_cons]; rw [hrt.out]; omega) (hrw.drewN q)
          clear hr3 hrw
          have hi1 : (k : Int) ≤ (k : Int) + 8 + (sz : Int) := by omega
          have hi2 : (k : Int) + 8 + (sz : Int) ≤ (cap : Int) := by omega
          rcases hck : (!frame (r.take sz) == a :: b :: c :: d :: e :: f :: g :: i :: r.take sz) with _ | _
          · have HSm : Hid (scan1 (l.drop k) = some (r.take sz)) := by
              show scan1 (l.drop k) = _
              rw [HD.out, HS1.out, if_pos]
              simpa using hck
            go_wp2_with fail
            go_quiet (fail)
            clear hcv1 hcv2
            go_wp2_with (at_builtin; refine wpList_app rfl (.tmp 60) (.tmp 62) 97 43 24 rfl rowrow w.heap.size _ R.length vs rfl (own_ext (own_ext ho ((Ext.refl w3).drewN nq)) (ext_alloc _ _)) _ 1 1 [.slice (cutA A (k + 8) cap 1) sz (cap - (k + 8))] rfl rfl (rd_new_one _ _ _) (one_slice _ _ _) (by unfold maxLen; omega) (by omega) (by have := hx.size; simp; omega) ?_; intro A10 c10 w10 ho10 hc10 hm10 hr10 hE10 hg10)
            have hxa := ((Ext.refl w3).drewN nq).trans (ext_alloc (w3.drewN nq) (.cells #[.slice (cutA A (k + 8) cap 1) sz (cap - (k + 8))] 43))
            have hx10 : Ext w w10 := hE10 w (hx.trans hxa) (Nat.le_refl _)
            have hne : ∀ ad, InA A w3 ad → some ad.block ≠ (Value.slice A4 R.length c4).ownBlock := by
              rintro ad ⟨a0, rfl, hb⟩ he
              obtain ⟨ad', h1, hlt⟩ := hr.some_ (by simp; omega)
              injection h1 with h1
              subst h1
              have := (ho.lt ad.block he.symm).1
              omega
            go_roundw
            case rel =>
              obtain ⟨t1, t2, t3⟩ := take_frame (by omega) HSm.out
              rw [hrt.out] at t1 t2 t3
              refine ⟨A10, c10, vs ++ [.slice (cutA A (k + 8) cap 1) sz (cap - (k + 8))], R ++ [r.take sz], k + (8 + sz), by omega, by go_num, by rw [List.length_append]; rfl, hx10, by rw [List.length_append]; exact ho10, ?_, ?_, ?_, by simp; omega⟩
              · exact AllB.snoc ⟨_, sz, _, rfl, hrt.out, by omega, by omega, (hrr.ext hxa).grown hg10 fun ad e => hne ad (InA.cut (w := w3) ad e), fun ad e => InA.cut (w := w3) ad e⟩ ((ha.ext hxa fun _ h => h).imp_ (fun _ _ h hf => h.grown hg10 fun ad e => hne ad (hf ad e)) fun _ h => h)
              · rw [List.map_append, List.flatten_append, he, t1]; simp
              · intro x hx
                rcases List.mem_append.1 hx with h | h
                · exact hs x h
                · rw [List.mem_singleton.1 h, hrt.out]; exact t3
            case measure => simp [intOf]; omega
          · have HSm : Hid (scan1 (l.drop k) = none) := by
              show scan1 (l.drop k) = _
              rw [HD.out, HS1.out, if_neg]
              simpa using hck
            go_wp2_with fail
            go_quiet (fail)
            go_wp2
            go_ret2
            exact RetScan.mk_ (by omega) (hx.drewN nq) ho (ha.ext ((Ext.refl w3).drewN nq) fun _ h => h) he hs HSm.out
    · go_wp2
      go_ret2
      exact RetScan.mk_ (by omega) hx ho ha he hs (scan1_short (by rw [List.length_drop]; omega))
end Go.Proofs.YtjnbbfhoegeppaaGreatDoor
end
section
/-
  Walks of the answer's store: its opening (memory and plain parts).
-/
set_option linter.unusedSimpArgs false
set_option linter.unusedVariables false
namespace Go.Cv.Kv
open Go Go.Cv.Dk Go.Cv.Wal
/-- The answer's opening of two files' bytes. -/
noncomputable def openR (sb : List UInt8) (has : Bool) (lb : List UInt8) : Option KS := ((if has then snpF sb else some emptyK) : Option KS).bind fun K => opnR none K (scR lb)
/-- The count that the answer remembers. -/
def lr (last : Option Nat) : Nat := last.getD 0
theorem brk_none {n c : Nat} (h : c < 9223372036854775808) : brk none n c ↔ (c < 1 ∨ n + 1 < c) := by
  unfold brk seqB
  simp
  omega
theorem brk_some {l n c : Nat} (h : c < 9223372036854775808) : brk (some l) n c ↔ c ≠ l + 1 := by
  unfold brk seqB
  simp
  omega
end Go.Cv.Kv
namespace Go.Proofs.YtjnbbfhoegeppaaGreatDoor
open Go.RowKit Go.Cv Go.Cv.Dk Go.Cv.Wal Go.Cv.Kv
/-- What the answer's opening gives. -/
def ROpens (w : World) (bs : List Nat) (o : Option KS) (e : Ending) (w' : World) : Prop :=
  Ext w w' ∧ match o with
    | some K => ∃ r, e = .returned (.tuple #[.pointer (some ⟨r, 0, none⟩), .int .i64 0]) ∧ Rto w' r K bs ∧ w.heap.size ≤ r
    | none => e = .returned (.tuple #[.pointer none, .int .i64 13])
theorem scans_ne {l : List UInt8} {R : List (List UInt8)} {u k : Nat} (h : Scans l R u) (hk : k < R.length) : l ≠ [] := fun e => by
  subst e
  have := (h.unique scans_empty).1
  subst this
  simp at hk
/-- A record of the answer's scan, where its store turned. -/
theorem rrecs_get {w2 w3 : World} {A A2 : Option Addr} {n c r : Nat} {R : List (List UInt8)} {vs : List Value} (ho : w3.ownsRow w2.heap.size 43 1 (.slice A n c) n vs) (ha : AllB (InA A2) w3 vs R) (hr : r < w2.heap.size) (hb : 0 < R.length → ∀ x ∈ rowOf A2, x ≠ r) :
    ∀ wr, Keep [r] w3 wr → ∀ k (hk : k < R.length), ∃ ad A' n c', A = some ad ∧ wr.cell? (ad.add k) = some (.slice A' n c') ∧ R[k].length = n ∧ n ≤ c' ∧ c' ≤ maxLen ∧ Rd wr A' (R[k].map bv) ∧ ∀ x ∈ rowOf A', x ∈ rowOf A2 := fun wr hkp k hk => by
  have hkv : k < vs.length := by rw [ha.len]; exact hk
  obtain ⟨ad, rfl, hc⟩ := rd_own ho k vs[k] (List.getElem?_eq_getElem hkv)
  obtain ⟨A', n', c', e, h1, h2, h3, h4, h5⟩ := AllB.get ha k hkv hk
  rw [e] at hc
  have hge := base_le ho ad.block (by simp [rowOf])
  have hin : ∀ x ∈ rowOf A', x ∈ rowOf A2 := fun x hx => by
    rcases A' with _ | a'
    · cases hx
    · obtain ⟨a0, e0, e1⟩ := h5 a' rfl
      simp [rowOf] at hx
      rw [e0]
      simp [rowOf, hx, e1]
  refine ⟨ad, A', n', c', rfl, hkp.cell hc (by rw [add_block]; simp; omega), h1, h2, h3, ?_, hin⟩
  refine h4.keep hkp fun a' e' hm => ?_
  have := hb (by omega) a'.block (hin _ (by simp [rowOf, e']))
  exact this (List.mem_singleton.1 hm)
end Go.Proofs.YtjnbbfhoegeppaaGreatDoor
end
section
/-
  Walks of the answer's store: its opening.
-/
set_option linter.unusedSimpArgs false
set_option linter.unusedVariables false
namespace Go.Proofs.YtjnbbfhoegeppaaGreatDoor
open Go.RowKit Go.Cv Go.Cv.Dk Go.Cv.Wal Go.Cv.Kv
theorem doB_len (K : KS) (W : List PW) : (doB K W).l.length ≤ K.l.length + W.length := by
  show (W.foldl doW K.l).length ≤ _
  generalize K.l = l
  induction W generalizing l with
  | nil => simp
  | cons x r ih =>
    rw [List.foldl_cons, List.length_cons]
    have h1 := ih (doW l x)
    have h2 : (doW l x).length ≤ l.length + 1 := by
      unfold doW
      split
      · have := delK_len l x.k; omega
      · exact setK_len l x.k x.v
    omega
set_option maxRecDepth 4000 in
set_option maxHeartbeats 12800000 in
theorem ropen_no (bs : List Nat) (v1 : Value) (A2 : Option Addr) (n2 c2 : Nat) (lb : List UInt8) (w : World) (hl2 : lb.length = n2) (hc2 : n2 ≤ c2) (hm2 : c2 ≤ maxLen) (hr2 : Rd w A2 (lb.map bv)) (hA2 : lb ≠ [] → ∀ x ∈ rowOf A2, x ∉ bs ∧ x < w.heap.size) (hbs : ∀ x ∈ bs, x < w.heap.size) (hb2 : n2 ≤ 134217728) :
    Calls Tryz.prog 25 #[v1, .bool false, .slice A2 n2 c2] w (ROpens w bs (openR [] false lb)) := by
  refine calls_hid fun G hG => ?_
  have hx0 := ext_alloc w (.cells #[.slice none 0 0, .int .i64 0] 31)
  have hrow0 : Row (w.alloc (.cells #[.slice none 0 0, .int .i64 0] 31)) w.heap.size 31 [.slice none 0 0, .int .i64 0] := Row.alloc w _ _
  have hK1 : Rto (w.alloc (.cells #[.slice none 0 0, .int .i64 0] 31)) w.heap.size emptyK bs := ⟨none, 0, [], ⟨hrow0, Rd.nil_, by simp, rfl, List.Pairwise.nil⟩, ⟨fun hm => by have := hbs _ hm; omega, .inl rfl, by simp⟩⟩
  have hSc := rscan_any A2 n2 c2 lb (w.alloc (.cells #[.slice none 0 0, .int .i64 0] 31)) hl2 hc2 hm2 (hr2.ext hx0) (by omega)
  go_enter Tryz.func25, Tryz.ntmps25
  go_wp2_with (go_at_call 59; (with_reducible refine hSc.mono ?_); rintro e w3 ⟨A3, c3, vs, R, u, hsc, rfl, hx3, ho3, hc3, hm3, hr3, ha3⟩)
  have hE3 := Lib.hid (hx0.trans hx3)
  have hK3 := hK1.ext hx3
  have hrlt : w.heap.size < (w.alloc (.cells #[.slice none 0 0, .int .i64 0] 31)).heap.size := by simp
  have hrge : w.heap.size ≤ w.heap.size := Nat.le_refl _
  have hRb : R.length ≤ 16777216 := by have := hsc.count; omega
  have hOR : openR [] false lb = opnR none emptyK R := by
    unfold openR
    rw [(sc_eq hsc).1]
    rfl
  obtain ⟨K0, hK0⟩ : ∃ K0, K0 = emptyK := ⟨_, rfl⟩
  have hK0l : K0.l.length ≤ 4294967296 ∧ K0.n ≤ 4611686018427387904 := by rw [hK0]; exact ⟨Nat.zero_le _, Nat.zero_le _⟩
  rw [← hK0] at hK3 hOR
  replace hK0 := Lib.hid hK0
  generalize (w.alloc (.cells #[.slice none 0 0, .int .i64 0] 31)) = w1 at *
  have hR0 : Rdo w w3 w.heap.size K0 bs (K0.l.length) ∨ True := .inr trivial
  have hA3 : Hid (∀ k, k < R.length → ∀ x ∈ rowOf A2, x ∉ bs ∧ x < w.heap.size) := Lib.hid fun k hk => hA2 (scans_ne hsc hk)
  clear hA2
  have hget := Lib.hid (rrecs_get ho3 ha3 hrlt (fun h0 x hx e => by have := (hA3.out 0 h0 x hx).2; omega))
  have hRl : R.length ≤ 16777216 := hRb
  have hgs : Hid (∀ wr K', opnR none K0 R = some K' → Rto wr w.heap.size K' bs → Ext w wr → G (.returned (.tuple #[.pointer (some ⟨w.heap.size, 0, none⟩), .int .i64 0])) wr) := Lib.hid fun wr K' ho hk hx => hG.out _ _ ⟨hx, by rw [hOR, ho]; exact ⟨w.heap.size, rfl, hk, hrge⟩⟩
  have hgb : Hid (∀ wr, opnR none K0 R = none → Ext w wr → G (.returned (.tuple #[.pointer none, .int .i64 13])) wr) := Lib.hid fun wr ho hx => hG.out _ _ ⟨hx, by rw [hOR, ho]⟩
  clear hG hr3 ho3 ha3 hOR hR0
  go_loopw [15, 16] (fun la i wr => ∃ (k : Nat) (last : Option Nat) (K : KS), k ≤ R.length ∧ i = .int .i64 k ∧ la = .int .i64 (lr last : Nat) ∧ Hid (Rto wr w.heap.size K bs) ∧ Hid (Keep [w.heap.size] w3 wr) ∧ Hid (OProg K0 R k last K) ∧ Hid (K.l.length ≤ K0.l.length + 4096 * k) ∧ (k = 0 ↔ last = none)) (fun _ i _ => R.length - (intOf i).toNat)
  case atStart => exact ⟨0, none, K0, Nat.zero_le _, rfl, rfl, Lib.hid hK3, Lib.hid (Keep.refl _ _), Lib.hid (OProg.start _ _), Lib.hid (by omega), by simp⟩
  case round =>
    obtain ⟨k, last, K, hk, rfl, rfl, hst, hkp, hOP, hKl, hkl⟩ := hrel
    have hEw : Ext w wr := ext_keep hE3.out hkp.out (fun x hx => by rw [List.mem_singleton.1 hx]; exact hrge)
    by_cases hlt : k < R.length
    · have hA2 := hA3.out k hlt
      obtain ⟨ad, A', n', c', hAd, p0, hl', hnc, hcm, hrd, hin⟩ := hget.out wr hkp.out k hlt
      subst hAd
      obtain ⟨src, hs1, hs2⟩ : ∃ src : List Nat, (∀ x ∈ src, x ∈ rowOf A2) ∧ (A' = none → c' = 0 ∨ src = []) ∧ ∀ x ∈ rowOf A', x ∈ src := by
        rcases A' with _ | a'
        · exact ⟨[], by simp, fun _ => .inr rfl, by simp [rowOf]⟩
        · exact ⟨rowOf (some a'), hin, fun e => (by cases e), fun x hx => hx⟩
      have hW0 := rbatch_any src A' n' c' R[k] wr hl' hrd hnc hcm hs2.1 (.inr hs2.2) (fun x hx => by have h1 := (hA2 x (hs1 x hx)).2; have h2 := hEw.size; omega)
      have hnb := hOP.out.n
      replace hEw := Lib.hid hEw
      by_cases hbt : ∃ z, batD R[k] = some z ∧ z.1 < 9223372036854775808
      · obtain ⟨z, hbt, hzl⟩ := hbt
        have hWr : Calls Tryz.prog 61 #[.slice A' n' c'] wr fun e w' => Ext wr w' ∧ ∃ T cT LW, z.2 = LW.map WV.pw ∧ e = .returned (.tuple #[.int .i64 (z.1 : Nat), .slice T LW.length cT, .bool true]) ∧ WsAt w' T LW ∧ ∀ x ∈ LW, x.v = [] ∨ ∀ y ∈ rowOf x.A, y ∈ src := hW0.mono fun e w' x => ⟨x.1, by
          rcases x.2 with ⟨z', h1, _, T, cT, LW, h2, h3, h4, _, h5⟩ | ⟨h1, _⟩
          · rw [hbt] at h1
            injection h1 with h1
            subst h1
            exact ⟨T, cT, LW, h2, h3, h4, h5⟩
          · have := h1 z hbt; omega⟩
        have hbl := bat_l hbt
        obtain ⟨ci, hci⟩ : ∃ ci : Int, ci = ((z.1 : Nat) : Int) := ⟨_, rfl⟩
        rw [← hci] at hWr
        have hcz := Lib.hid hci
        have hstep := fun hb => hOP.out.step hlt hbt hb
        have hno := fun hb : brk last K.n z.1 => (show opnR none K0 R = none by rw [hOP.out.next hlt, opn1_brk hbt hb]; rfl)
        obtain ⟨T', cT', LS, hSat, hSap⟩ := hst.out
        have r1 : wr.cell? ⟨w.heap.size, 1, none⟩ = some (.int .i64 K.n) := hSat.row.cell (i := 1) (by simp)
        have hcells : ∀ w', Ext wr w' → w'.cell? ⟨w.heap.size, 1, none⟩ = some (.int .i64 K.n) := fun w' hx => hx.cell r1
        clear hW0 hSat hSap r1
        have hbrk : ∀ b, decide (brk last K.n z.1) = b → decide (brk last K.n z.1) = b := fun _ h => h
        by_cases hbr : brk last K.n z.1
        · have hgo := Lib.hid fun w' hx => hgb.out w' (hno hbr) (hEw.out.trans hx)
          clear hstep hno
          rcases last with _ | l
          · have hk0 : k = 0 := hkl.2 rfl
            have g1 : ¬ 0 < k := (by omega)
            have g2 : ((k : Int) == 0) = true := by rw [hk0]; rfl
            have e0 : wrap64 (ci - 1) = ci - 1 := IntWalk.wrap64_in _ (by omega)
            have hbr2 := (brk_none hzl).1 hbr
            replace hk0 := Lib.hid hk0
            replace hbr := Lib.hid hbr
            replace hkl := Lib.hid hkl
            by_cases h3 : z.1 < 1
            · have g3 : decide (ci < 1) = true := decide_eq_true (by omega)
              replace hbr2 := Lib.hid hbr2
              clear hci; go_wp2_with (go_at_call 61; (with_reducible refine hWr.mono ?_); rintro e w7 ⟨hx7, T, cT, LW, hLW, rfl, hWs, hva⟩; have q7 := hcells w7 hx7)
              exact hgo.out _ hx7
            · have g3 : decide (ci < 1) = false := decide_eq_false (by omega)
              have g4 : decide (ci - 1 > (K.n : Int)) = true := decide_eq_true (by omega)
              replace hbr2 := Lib.hid hbr2
              clear hci; go_wp2_with (go_at_call 61; (with_reducible refine hWr.mono ?_); rintro e w7 ⟨hx7, T, cT, LW, hLW, rfl, hWs, hva⟩; have q7 := hcells w7 hx7)
              exact hgo.out _ hx7
          · have hk0 : ¬ k = 0 := fun h => by have := hkl.1 h; cases this
            have g1 : 0 < k := (by omega)
            have e0 : wrap64 (ci - 1) = ci - 1 := IntWalk.wrap64_in _ (by omega)
            have hbr2 := (brk_some hzl).1 hbr
            have g4 : (ci - 1 != ((lr (some l) : Nat) : Int)) = true := by
              have : lr (some l) = l := rfl
              rw [this]
              simp
              omega
            replace hk0 := Lib.hid hk0
            replace hbr := Lib.hid hbr
            replace hkl := Lib.hid hkl
            replace hbr2 := Lib.hid hbr2
            clear hci; go_wp2_with (go_at_call 61; (with_reducible refine hWr.mono ?_); rintro e w7 ⟨hx7, T, cT, LW, hLW, rfl, hWs, hva⟩; have q7 := hcells w7 hx7)
            exact hgo.out _ hx7
        · have hst2 := Lib.hid (hstep hbr)
          clear hno
          have gd : Hid (¬ brk last K.n z.1) := Lib.hid hbr
          have gA : Hid ((k = 0 ∧ last = none) ∨ (¬ k = 0 ∧ ∃ l, last = some l)) := Lib.hid (by
            rcases last with _ | l
            · exact .inl ⟨hkl.2 rfl, rfl⟩
            · exact .inr ⟨fun h => (by have := hkl.1 h; cases this), l, rfl⟩)
          have e0 : wrap64 (ci - 1) = ci - 1 := IntWalk.wrap64_in _ (by omega)
          replace hkl := Lib.hid hkl
          clear hbr hbrk
          rcases gA.out with ⟨hk0, hln⟩ | ⟨hk0, l, hln⟩
          · have hbr2 := gd.out
            rw [hln, brk_none hzl] at hbr2
            have g1 : ¬ 0 < k := (by omega)
            have g2 : ((k : Int) == 0) = true := by rw [hk0]; rfl
            have g3 : decide (ci < 1) = false := decide_eq_false (by omega)
            have g4 : decide (ci - 1 > (K.n : Int)) = false := decide_eq_false (by omega)
            replace hk0 := Lib.hid hk0
            replace hln := Lib.hid hln
            replace hbr2 := Lib.hid hbr2
            by_cases h5 : K.n < z.1
            · have g5 : decide (ci > (K.n : Int)) = true := decide_eq_true (by omega)
              have hsp := hst2.out
              rw [if_pos h5] at hsp
              replace hsp := Lib.hid hsp
              replace h5 := Lib.hid h5
              clear hci; go_wp2_with (first
                | (go_at_call 61; (with_reducible refine hWr.mono ?_); rintro e w7 ⟨hx7, T, cT, LW, hLW, rfl, hWs, hva⟩; have q7 := hcells w7 hx7; have hDo := rdo_any w.heap.size K bs T cT LW w7 (hst.out.ext hx7) (fun x hx => (by have h1 := hbs x hx; have h2 := hEw.out.size; have h3 := hx7.size; omega)) hWs (fun x hx => (hva x hx).imp id fun h y hy => (hA2 y (hs1 y (h y hy))).1) (by have h1 := hbl.1; rw [hLW, List.length_map] at h1; omega) (by have := hKl.out; omega) (by omega))
                | (go_at_call 14; (with_reducible refine hDo.mono ?_); rintro e w8 ⟨rfl, hR8, hK8⟩))
              go_roundw
              case rel => exact ⟨k + 1, some z.1, _, hlt, by go_num, by rw [hcz.out]; rfl, Lib.hid hR8, Lib.hid ((hkp.out.ext hx7).same hK8), Lib.hid (by rw [hLW] at hsp; exact hsp.out), Lib.hid (by have h1 := doB_len K (LW.map WV.pw); have h2 := hKl.out; have h3 := hbl.1; rw [hLW] at h3; omega), by simp⟩
              case measure => simp [intOf]; omega
            · have g5 : decide (ci > (K.n : Int)) = false := decide_eq_false (by omega)
              have hsp := hst2.out
              rw [if_neg h5] at hsp
              replace hsp := Lib.hid hsp
              replace h5 := Lib.hid h5
              clear hci; go_wp2_with (go_at_call 61; (with_reducible refine hWr.mono ?_); rintro e w7 ⟨hx7, T, cT, LW, hLW, rfl, hWs, hva⟩; have q7 := hcells w7 hx7)
              go_roundw
              case rel => exact ⟨k + 1, some z.1, K, hlt, by go_num, by rw [hcz.out]; rfl, Lib.hid (hst.out.ext hx7), Lib.hid (hkp.out.ext hx7), hsp, Lib.hid (by have := hKl.out; omega), by simp⟩
              case measure => simp [intOf]; omega
          · have hbr2 := gd.out
            rw [hln, brk_some hzl] at hbr2
            have g1 : 0 < k := (by omega)
            have g2 : ((k : Int) == 0) = false := beq_false_of_ne (by omega)
            have g4 : (ci - 1 != ((lr last : Nat) : Int)) = false := by
              have : lr last = l := by rw [hln]; rfl
              rw [this]
              simp
              omega
            replace hk0 := Lib.hid hk0
            replace hln := Lib.hid hln
            replace hbr2 := Lib.hid hbr2
            by_cases h5 : K.n < z.1
            · have g5 : decide (ci > (K.n : Int)) = true := decide_eq_true (by omega)
              have hsp := hst2.out
              rw [if_pos h5] at hsp
              replace hsp := Lib.hid hsp
              replace h5 := Lib.hid h5
              clear hci; go_wp2_with (first
                | (go_at_call 61; (with_reducible refine hWr.mono ?_); rintro e w7 ⟨hx7, T, cT, LW, hLW, rfl, hWs, hva⟩; have q7 := hcells w7 hx7; have hDo := rdo_any w.heap.size K bs T cT LW w7 (hst.out.ext hx7) (fun x hx => (by have h1 := hbs x hx; have h2 := hEw.out.size; have h3 := hx7.size; omega)) hWs (fun x hx => (hva x hx).imp id fun h y hy => (hA2 y (hs1 y (h y hy))).1) (by have h1 := hbl.1; rw [hLW, List.length_map] at h1; omega) (by have := hKl.out; omega) (by omega))
                | (go_at_call 14; (with_reducible refine hDo.mono ?_); rintro e w8 ⟨rfl, hR8, hK8⟩))
              go_roundw
              case rel => exact ⟨k + 1, some z.1, _, hlt, by go_num, by rw [hcz.out]; rfl, Lib.hid hR8, Lib.hid ((hkp.out.ext hx7).same hK8), Lib.hid (by rw [hLW] at hsp; exact hsp.out), Lib.hid (by have h1 := doB_len K (LW.map WV.pw); have h2 := hKl.out; have h3 := hbl.1; rw [hLW] at h3; omega), by simp⟩
              case measure => simp [intOf]; omega
            · have g5 : decide (ci > (K.n : Int)) = false := decide_eq_false (by omega)
              have hsp := hst2.out
              rw [if_neg h5] at hsp
              replace hsp := Lib.hid hsp
              replace h5 := Lib.hid h5
              clear hci; go_wp2_with (go_at_call 61; (with_reducible refine hWr.mono ?_); rintro e w7 ⟨hx7, T, cT, LW, hLW, rfl, hWs, hva⟩; have q7 := hcells w7 hx7)
              go_roundw
              case rel => exact ⟨k + 1, some z.1, K, hlt, by go_num, by rw [hcz.out]; rfl, Lib.hid (hst.out.ext hx7), Lib.hid (hkp.out.ext hx7), hsp, Lib.hid (by have := hKl.out; omega), by simp⟩
              case measure => simp [intOf]; omega
      · have hWr : Calls Tryz.prog 61 #[.slice A' n' c'] wr fun e w' => Ext wr w' ∧ ∃ v1 v2, e = .returned (.tuple #[v1, v2, .bool false]) := hW0.mono fun e w' x => ⟨x.1, by
          rcases x.2 with ⟨z', h1, h1b, _⟩ | ⟨_, h2⟩
          · exact absurd ⟨z', h1, h1b⟩ hbt
          · exact h2⟩
        have hno : opnR none K0 R = none := by
          rw [hOP.out.next hlt]
          rcases hq : batD R[k] with _ | z
          · rw [opn1_none hq]; rfl
          · rw [opn1_brk hq (.inr (.inl (by
              rcases Nat.lt_or_ge z.1 9223372036854775808 with h | h
              · exact absurd ⟨z, hq, h⟩ hbt
              · exact h)))]
            rfl
        have hgo := Lib.hid fun w' hx => hgb.out w' hno (hEw.out.trans hx)
        clear hW0
        go_wp2_with (go_at_call 61; (with_reducible refine hWr.mono ?_); rintro e w7 ⟨hx7, v1, v2, rfl⟩)
        exact hgo.out _ hx7
    · obtain rfl : k = R.length := by omega
      have hd := hOP.out.done
      have hgg := Lib.hid (hgs.out wr K hd hst.out hEw)
      go_wp2
      exact hgg.out
end Go.Proofs.YtjnbbfhoegeppaaGreatDoor
end
