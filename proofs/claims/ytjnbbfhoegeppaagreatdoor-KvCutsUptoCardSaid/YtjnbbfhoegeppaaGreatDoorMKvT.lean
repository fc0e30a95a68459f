/-
  Texts of the lemmas below the claim, put together: KvT KvU KvV.
-/
import Derived.Test.YtjnbbfhoegeppaaGreatDoorMKvR
section
/-
  The answer's store in memory; a pair is set, or dropped.
-/
set_option linter.unusedSimpArgs false
set_option linter.unusedVariables false
namespace Go.Cv.Kv
open Go Go.Cv.Dk
/-- A key that is not below another. -/
def leK (a b : List UInt8) : Bool := bytesBefore a b || a == b
theorem leK_not {a b : List UInt8} : leK a b = !bytesBefore b a := by
  unfold leK
  by_cases e : a = b
  · subst e; simp [bb_irrefl]
  · have : (a == b) = false := by simpa using e
    rw [this, Bool.or_false]
    rcases hq : bytesBefore b a with _ | _
    · exact bb_total (fun h => e h.symm) hq
    · exact bb_asym hq
/-- What the answer's loop has laid down behind the pairs P. -/
def setOut (P : List PP) (k v : List UInt8) : List PP := if P.any (fun z => leK k z.k) then setK P k v else P
theorem delK_all {P : List PP} {k : List UInt8} (h : ∀ z ∈ P, bytesBefore z.k k = true) : delK P k = P := by
  unfold delK
  exact filter_all_ fun z hz => by
    have h1 := h z hz
    have : z.k ≠ k := fun e => by rw [e, bb_irrefl] at h1; cases h1
    simpa using this
theorem ins_app_gt {x y : PP} (h : bytesBefore x.k y.k = true) : ∀ {l : List PP}, ins PP.k x (l ++ [y]) = ins PP.k x l ++ [y]
  | [] => by simp [ins, h]
  | z :: r => by
    simp only [List.cons_append, ins]
    split
    · rfl
    · rw [ins_app_gt h]; rfl
theorem any_false_all {P : List PP} {k : List UInt8} (h : P.any (fun z => leK k z.k) = false) : ∀ z ∈ P, bytesBefore z.k k = true := fun z hz => by
  have := List.any_eq_false.1 h z hz
  rw [leK_not] at this
  simpa using this
theorem setOut_snoc {P : List PP} {y : PP} {k v : List UInt8} (hr : Ris PP.k (P ++ [y])) : (P ++ [y]).any (fun z => leK k z.k) = (P.any (fun z => leK k z.k) || leK k y.k) ∧
    setOut (P ++ [y]) k v = (if P.any (fun z => leK k z.k) then setOut P k v else if leK k y.k then setOut P k v ++ [⟨k, v⟩] else setOut P k v) ++ (if y.k = k then [] else [y]) := by
  have h1 : (P ++ [y]).any (fun z => leK k z.k) = (P.any (fun z => leK k z.k) || leK k y.k) := by simp
  refine ⟨h1, ?_⟩
  unfold setOut
  rw [h1]
  rcases hp : P.any (fun z => leK k z.k) with _ | _
  · have hall := any_false_all hp
    rcases hy : leK k y.k with _ | _
    · have hb : bytesBefore y.k k = true := by rw [leK_not] at hy; simpa using hy
      have hne : y.k ≠ k := fun e => by rw [e, bb_irrefl] at hb; cases hb
      simp [hne]
    · simp only [Bool.or_true, if_true, Bool.false_eq_true, if_false]
      by_cases e : y.k = k
      · have hd : delK (P ++ [y]) k = P := by
          have := delK_all hall
          unfold delK at this ⊢
          rw [List.filter_append, this]
          simp [e]
        unfold setK
        rw [hd, ins_end (fun z hz => hall z hz)]
        simp [e]
      · have hb : bytesBefore k y.k = true := by
          unfold leK at hy
          have : (k == y.k) = false := by simpa using fun h => e h.symm
          rw [this, Bool.or_false] at hy
          exact hy
        have hd : delK (P ++ [y]) k = P ++ [y] := by
          have := delK_all hall
          unfold delK at this ⊢
          rw [List.filter_append, this]
          simp [e]
        unfold setK
        rw [hd, ins_app_gt (x := ⟨k, v⟩) hb, ins_end (fun z hz => hall z hz)]
        simp [e]
  · simp only [Bool.true_or, if_true]
    obtain ⟨z, hz, hzk⟩ := List.any_eq_true.1 hp
    have hzy : bytesBefore z.k y.k = true := (List.pairwise_append.1 hr).2.2 z hz y (by simp)
    have hb : bytesBefore k y.k = true := by
      unfold leK at hzk
      rcases hq : bytesBefore k z.k with _ | _
      · rw [hq, Bool.false_or] at hzk
        rw [show k = z.k from by simpa using hzk]
        exact hzy
      · exact bb_trans hq hzy
    have hne : y.k ≠ k := fun e => by rw [e, bb_irrefl] at hb; cases hb
    have hd : delK (P ++ [y]) k = delK P k ++ [y] := by
      unfold delK
      rw [List.filter_append]
      simp [hne]
    unfold setK
    rw [hd, ins_app_gt (x := ⟨k, v⟩) hb]
    simp [hne]
theorem setOut_all {P : List PP} {k v : List UInt8} : (if P.any (fun z => leK k z.k) then setOut P k v else setOut P k v ++ [⟨k, v⟩]) = setK P k v := by
  unfold setOut
  rcases hp : P.any (fun z => leK k z.k) with _ | _
  · have hall := any_false_all hp
    unfold setK
    rw [delK_all hall, ins_end (fun z hz => hall z hz)]
    simp
  · simp
end Go.Cv.Kv
namespace Go.Proofs.YtjnbbfhoegeppaaGreatDoor
open Go.RowKit Go.Cv Go.Cv.Dk Go.Cv.Wal Go.Cv.Kv
/-- A pair of the answer's. -/
structure PV where
  k : ByteArray
  A : Option Addr
  c : Nat
  v : List UInt8
def PV.cells (x : PV) : List Value := [.string x.k, .slice x.A x.v.length x.c]
def PV.pp (x : PV) : PP := ⟨x.k.data.toList, x.v⟩
theorem pcells_len (L : List PV) : (L.flatMap PV.cells).length = L.length * 2 := by
  induction L with
  | nil => rfl
  | cons e r ih => rw [List.flatMap_cons, List.length_append, ih, List.length_cons]; simp [PV.cells]; omega
theorem pcells_at {L : List PV} {k j : Nat} (h : k < L.length) (hj : j < 2) : (L.flatMap PV.cells)[k * 2 + j]? = (L[k].cells)[j]? := by
  obtain ⟨l1, x, l2, hL, hl, _, _⟩ := split_at h
  have e : L[k] = x := by
    have h1 : L[k]? = some x := by rw [hL, List.getElem?_append_right (by omega), hl, Nat.sub_self]; rfl
    rw [List.getElem?_eq_getElem h] at h1
    injection h1
  rw [e, hL, List.flatMap_append, List.flatMap_cons, List.getElem?_append_right (by rw [pcells_len, hl]; omega), pcells_len, hl, Nat.add_sub_cancel_left, List.getElem?_append_left (by simpa [PV.cells] using hj)]
/-- The answer's store. -/
structure RtoAt (w : World) (r : Nat) (K : KS) (T : Option Addr) (c : Nat) (L : List PV) : Prop where
  row : Row w r 31 [.slice T L.length c, .int .i64 K.n]
  rd : Rd w T (L.flatMap PV.cells)
  val : ∀ x ∈ L, Rd w x.A (x.v.map bv)
  ls : K.l = L.map PV.pp
  ris : Ris PP.k K.l
structure RAp (r : Nat) (T : Option Addr) (L : List PV) (bs : List Nat) : Prop where
  r : r ∉ bs
  t : L = [] ∨ ∀ y ∈ rowOf T, y ∉ bs
  v : ∀ x ∈ L, Ap x.A x.v bs
theorem RtoAt.keep {w w' : World} {r c : Nat} {K : KS} {T : Option Addr} {L : List PV} {bs : List Nat} (h : RtoAt w r K T c L) (ha : RAp r T L bs) (hk : Keep bs w w') : RtoAt w' r K T c L := by
  refine ⟨h.row.keep hk ha.r, ?_, fun x hx => (ha.v x hx).keep (h.val x hx) hk fun _ h => h, h.ls, h.ris⟩
  rcases ha.t with h0 | h0
  · subst h0; exact Rd.nil_
  · exact h.rd.keep hk fun ad e => h0 _ (by simp [rowOf, e])
theorem RtoAt.ext {w w' : World} {r c : Nat} {K : KS} {T : Option Addr} {L : List PV} (h : RtoAt w r K T c L) (hx : Ext w w') : RtoAt w' r K T c L :=
  h.keep (bs := []) ⟨by simp, .inr (by simp), fun x _ => .inr (by simp)⟩ (Keep.of_ext hx)
theorem RtoAt.tlt {w : World} {r c : Nat} {K : KS} {T : Option Addr} {L : List PV} (h : RtoAt w r K T c L) : L = [] ∨ ∀ y ∈ rowOf T, y < w.heap.size := by
  rcases hL : L with _ | ⟨x, l⟩
  · exact .inl rfl
  · have hr := h.rd
    rw [hL] at hr
    obtain ⟨ad, rfl, hlt⟩ := hr.some_ (by simp [PV.cells])
    exact .inr (by simp [rowOf, hlt])
theorem RAp.step {w w' : World} {r c : Nat} {K : KS} {T : Option Addr} {L : List PV} {bs cs : List Nat} (ha : RAp r T L bs) (h : RtoAt w r K T c L) (hs : Stp bs cs w w') : RAp r T L cs := by
  refine ⟨hs.not h.row.lt ha.r, ?_, fun x hx => ((ha.v x hx).step (h.val x hx) hs).1⟩
  rcases h.tlt with h0 | h0
  · exact .inl h0
  · rcases ha.t with h1 | h1
    · exact .inl h1
    · exact .inr fun y hy => hs.not (h0 y hy) (h1 y hy)
/-- The answer's store at block r stands so, apart from these blocks. -/
def Rto (w : World) (r : Nat) (K : KS) (bs : List Nat) : Prop := ∃ T c L, RtoAt w r K T c L ∧ RAp r T L bs
theorem Rto.step {w w' : World} {r : Nat} {K : KS} {bs cs : List Nat} (h : Rto w r K bs) (hs : Stp bs cs w w') : Rto w' r K cs := by
  obtain ⟨T, c, L, h, ha⟩ := h
  exact ⟨T, c, L, h.keep ha hs.k, ha.step h hs⟩
theorem Rto.ext {w w' : World} {r : Nat} {K : KS} {bs : List Nat} (h : Rto w r K bs) (hx : Ext w w') : Rto w' r K bs := h.step (Stp.of_ext hx)
theorem Rto.lt {w : World} {r : Nat} {K : KS} {bs : List Nat} (h : Rto w r K bs) : r < w.heap.size ∧ r ∉ bs := by
  obtain ⟨T, c, L, h, ha⟩ := h
  exact ⟨h.row.lt, ha.r⟩
theorem pairRow : RowS Tryz.prog 29 87 2 40 := RowS.of (z := .agg #[.string ⟨#[]⟩, .slice none 0 0]) (by omega) Tryz.underlying29 (by kernel_rfl) rfl
theorem RtoAt.at {w : World} {r c : Nat} {K : KS} {T : Option Addr} {L : List PV} (h : RtoAt w r K T c L) {k : Nat} (hk : k < L.length) : ∃ ad, T = some ad ∧ w.cell? (ad.add (k * 2)) = some (.string L[k].k) ∧
    w.cell? ⟨(ad.add (k * 2)).block, (ad.add (k * 2)).off + 1, none⟩ = some (.slice L[k].A L[k].v.length L[k].c) := by
  obtain ⟨ad, rfl, h0⟩ := h.rd (k * 2 + 0) (.string L[k].k) (by rw [pcells_at hk (by omega)]; rfl)
  refine ⟨ad, rfl, h0, ?_⟩
  obtain ⟨ad', e, h1⟩ := h.rd (k * 2 + 1) (.slice L[k].A L[k].v.length L[k].c) (by rw [pcells_at hk (by omega)]; rfl)
  injection e with e
  subst e
  rw [← Cv.add_add] at h1
  exact h1
end Go.Proofs.YtjnbbfhoegeppaaGreatDoor
end
section
/-
  Walks of the answer's store: a pair is set, or dropped; a batch is done.
-/
set_option linter.unusedSimpArgs false
set_option linter.unusedVariables false
namespace Go.Cv.Kv
open Go Go.Cv.Dk
theorem delK_ris {l : List PP} {k : List UInt8} (h : Ris PP.k l) : Ris PP.k (delK l k) := h.filter _
theorem setK_ris {l : List PP} {k v : List UInt8} (h : Ris PP.k l) : Ris PP.k (setK l k v) :=
  Ris.ins (delK_ris h) fun z hz => by
    have := (List.mem_filter.1 hz).2
    simpa using this
theorem setK_len (l : List PP) (k v : List UInt8) : (setK l k v).length ≤ l.length + 1 := by
  unfold setK delK
  rw [ins_length]
  have := List.length_filter_le (fun p : PP => !(p.k == k)) l
  omega
end Go.Cv.Kv
namespace Go.Proofs.YtjnbbfhoegeppaaGreatDoor
open Go.RowKit Go.Cv Go.Cv.Dk Go.Cv.Wal Go.Cv.Kv
theorem ap_row {w : World} {r : Nat} {T : TypeId} {cs : List Value} {A : Option Addr} {v : List UInt8} (hrow : Row w r T cs) (hc : ∀ b, bv b ∉ cs) (hr : Rd w A (v.map bv)) : Ap A v [r] := by
  rcases v with _ | ⟨x, y⟩
  · exact .inl rfl
  · obtain ⟨ad, rfl, h0⟩ := hr 0 (bv x) rfl
    refine .inr fun z hz hm => ?_
    simp [rowOf] at hz hm
    have h1 := cell_not_row hrow h0 (hc x)
    rw [add_block] at h1
    omega
theorem RtoAt.apr {w : World} {r c : Nat} {K : KS} {T : Option Addr} {L : List PV} (h : RtoAt w r K T c L) : RAp r T L [] ∧ (L = [] ∨ ∀ y ∈ rowOf T, y ∉ [r]) ∧ ∀ x ∈ L, Ap x.A x.v [r] := by
  refine ⟨⟨by simp, .inr (by simp), fun x _ => .inr (by simp)⟩, ?_, fun x hx => ap_row h.row (by intro b; simp [bv]) (h.val x hx)⟩
  rcases hL : L with _ | ⟨x, l⟩
  · exact .inl rfl
  · have hr := h.rd
    rw [hL] at hr
    obtain ⟨ad, rfl, h0⟩ := hr 0 (.string x.k) rfl
    refine .inr fun z hz hm => ?_
    simp [rowOf] at hz hm
    have h1 := cell_not_row h.row h0 (by simp)
    rw [add_block] at h1
    omega
def NewP (L : List PV) (A : Option Addr) (v : List UInt8) (x : PV) : Prop := x ∈ L ∨ (x.A = A ∧ x.v = v)
theorem new_x {L : List PV} {A : Option Addr} {v : List UInt8} {M : List PV} {x : PV} (h : ∀ y ∈ M, NewP L A v y) (hx : NewP L A v x) : ∀ y ∈ M ++ [x], NewP L A v y := fun y hy => by
  rcases List.mem_append.1 hy with hy | hy
  · exact h y hy
  · rw [List.mem_singleton.1 hy]; exact hx
/-- What a turn of the answer's store leaves. -/
def Rset (w : World) (r : Nat) (K : KS) (L : List PV) (A : Option Addr) (v : List UInt8) (e : Ending) (w' : World) : Prop :=
  e = .returned (.tuple #[]) ∧ ∃ T' c' L', RtoAt w' r K T' c' L' ∧ Keep [r] w w' ∧ (∀ y ∈ rowOf T', w.heap.size ≤ y) ∧ (∀ x ∈ L', NewP L A v x) ∧ L'.length ≤ L.length + 1
theorem RtoAt.laid {w w1 : World} {r c q c' : Nat} {K : KS} {T T' : Option Addr} {L M : List PV} {l' : List PP} {A : Option Addr} {v : List UInt8} (h : RtoAt w r K T c L) (hv : Rd w A (v.map bv))
    (ho : w1.ownsRow w.heap.size 87 2 (.slice T' q c') q (M.flatMap PV.cells)) (hE : Ext w w1) (hM : M.map PV.pp = l') (hris : Ris PP.k l') (hn : ∀ x ∈ M, NewP L A v x) :
    RtoAt (w1.setCell ⟨r, 0, none⟩ (.slice T' q c')) r ⟨l', K.n⟩ T' c' M ∧ Keep [r] w (w1.setCell ⟨r, 0, none⟩ (.slice T' q c')) ∧ ∀ y ∈ rowOf T', w.heap.size ≤ y := by
  have hq : M.length = q := by
    have := ho.1
    rw [pcells_len] at this
    omega
  subst hq
  have hT' : ∀ x ∈ rowOf T', w.heap.size ≤ x := fun x hx => (ho.lt x (by
    rcases T' with _ | ad
    · cases hx
    · simp [rowOf] at hx; simp [Value.ownBlock, hx])).1
  have hrl := h.row.lt
  have hk := Keep.setCell w1 ⟨r, 0, none⟩ (.slice T' M.length c')
  have hk2 : Keep [r] w (w1.setCell ⟨r, 0, none⟩ (.slice T' M.length c')) := (Keep.of_ext (bs := [r]) hE).same hk
  refine ⟨⟨(h.row.ext hE).set 0 _, ?_, fun x hx => ?_, hM.symm, hris⟩, hk2, hT'⟩
  · refine (rd_own ho).keep hk fun ad e hm => ?_
    have := hT' ad.block (by simp [rowOf, e])
    have e2 : ad.block = r := List.mem_singleton.1 hm
    omega
  · rcases hn x hx with hx | ⟨e1, e2⟩
    · exact (h.apr.2.2 x hx).keep (h.val x hx) hk2 fun _ h => h
    · rw [e1, e2]
      exact (ap_row h.row (by intro b; simp [bv]) hv).keep hv hk2 fun _ h => h
theorem RtoAt.laid_set {w w1 : World} {r c q c' : Nat} {K : KS} {T T' : Option Addr} {L M : List PV} {k v : List UInt8} {A : Option Addr} (h : RtoAt w r K T c L) (hris : Ris PP.k (L.map PV.pp)) (hv : Rd w A (v.map bv))
    (ho : w1.ownsRow w.heap.size 87 2 (.slice T' q c') q (M.flatMap PV.cells)) (hE : Ext w w1) (hM : M.map PV.pp = setK K.l k v) (hn : ∀ x ∈ M, NewP L A v x) :
    Rset w r ⟨setK K.l k v, K.n⟩ L A v (.returned (.tuple #[])) (w1.setCell ⟨r, 0, none⟩ (.slice T' q c')) := by
  obtain ⟨h1, h2, h3⟩ := h.laid hv ho hE hM (setK_ris (by rw [h.ls]; exact hris)) hn
  refine ⟨rfl, T', c', M, h1, h2, h3, hn, ?_⟩
  have h4 : M.length = (setK K.l k v).length := by rw [← hM, List.length_map]
  have h5 : K.l.length = L.length := by rw [h.ls, List.length_map]
  have h6 := setK_len K.l k v
  omega
theorem take_pp {L : List PV} {k : Nat} (h : k < L.length) : (L.take (k + 1)).map PV.pp = (L.take k).map PV.pp ++ [L[k].pp] := by
  rw [List.take_succ_eq_append_getElem h, List.map_append]
  rfl
set_option maxRecDepth 4000 in
set_option maxHeartbeats 6400000 in
theorem rset_any (r : Nat) (K : KS) (T : Option Addr) (c : Nat) (L : List PV) (k : ByteArray) (A : Option Addr) (cv : Nat) (v : List UInt8) (w : World) (h : RtoAt w r K T c L) (hv : Rd w A (v.map bv)) (hL : L.length ≤ 1099511627776) :
    Calls Tryz.prog 40 #[.pointer (some ⟨r, 0, none⟩), .string k, .slice A v.length cv] w (Rset w r ⟨setK K.l k.data.toList v, K.n⟩ L A v) := by
  refine calls_hid fun G hG => ?_
  have hrlt := h.row.lt
  have hris : Ris PP.k (L.map PV.pp) := by rw [← h.ls]; exact h.ris
  obtain ⟨N, hN⟩ : ∃ N, N = L.length := ⟨_, rfl⟩
  have hNL := Lib.hid hN
  have hNb : N ≤ 1099511627776 := by omega
  have hcells : ∀ wr, Ext w wr → wr.cell? ⟨r, 0, none⟩ = some (.slice T N c) := fun wr hx => by rw [hN]; exact (h.ext hx).row.cell (i := 0) (by simp)
  have hfro : ∀ wr, Ext w wr → wr.frozen? ⟨r, 0, none⟩ = false := fun wr hx => (h.ext hx).row.fro 0
  clear hN
  go_enter Tryz.func40, Tryz.ntmps40
  go_wp2
  go_loopw [6, 7, 8] (fun o dn i wr => ∃ (j q c' : Nat) (T' : Option Addr) (M : List PV), j ≤ N ∧ i = .int .i64 j ∧ o = .slice T' q c' ∧ dn = .bool (((L.take j).map PV.pp).any fun z => leK k.data.toList z.k) ∧ wr.ownsRow w.heap.size 87 2 (.slice T' q c') q (M.flatMap PV.cells) ∧ Hid (M.map PV.pp = setOut ((L.take j).map PV.pp) k.data.toList v) ∧ Hid (∀ x ∈ M, NewP L A v x) ∧ Hid (Ext w wr) ∧ q ≤ 2 * j) (fun _ _ i _ => N - (intOf i).toNat)
  case atStart => exact ⟨0, 0, 0, none, [], Nat.zero_le _, rfl, rfl, rfl, World.ownsRow_nil _ _ _ _, Lib.hid rfl, Lib.hid (by simp), Lib.hid (Ext.refl w), by omega⟩
  case round =>
    obtain ⟨j, q, c', T', M, hj, rfl, rfl, rfl, ho, hM, hnw, hE, hqj⟩ := hrel
    have m0 := hcells wr hE.out
    by_cases hlt : j < N
    · have hjL : j < L.length := by rw [← hNL.out]; exact hlt
      obtain ⟨ad, rfl, p0, p1⟩ := (h.ext hE.out).at hjL
      have hpt : Hid (∀ wr, Ext w wr → wr.cell? (ad.add (j * 2)) = some (.string L[j].k) ∧ wr.cell? ⟨(ad.add (j * 2)).block, (ad.add (j * 2)).off + 1, none⟩ = some (.slice L[j].A L[j].v.length L[j].c)) := Lib.hid fun wr hx => by
        obtain ⟨ad', e, h1, h2⟩ := (h.ext hx).at hjL
        injection e with e
        subst e
        exact ⟨h1, h2⟩
      have hsn := setOut_snoc (P := (L.take j).map PV.pp) (y := L[j].pp) (k := k.data.toList) (v := v) (by rw [← take_pp hjL, List.map_take]; exact hris.sublist (List.take_sublist _ _))
      rw [← take_pp hjL] at hsn
      have hxm := List.getElem_mem hjL
      generalize L[j] = x at *
      obtain ⟨hany, hout⟩ := hsn
      have hkl : k.toList = k.data.toList := Lib.toList_data k
      have hxl : x.k.toList = x.k.data.toList := Lib.toList_data x.k
      have hle : leK k.data.toList x.pp.k = (Op.bytesLess k.toList x.k.toList || (k.toList == x.k.toList)) := by rw [bl_eq, hkl, hxl]; rfl
      have hne : (x.pp.k = k.data.toList) ↔ (k.toList == x.k.toList) = true := by
        rw [hkl, hxl]
        exact ⟨fun e => by rw [show x.k.data.toList = k.data.toList from e]; simp, fun e => (beq_iff_eq.1 e).symm⟩
      rw [hle] at hany hout
      generalize ((L.take j).map PV.pp).any (fun z => leK k.data.toList z.k) = dn at *
      clear hkl hxl hle
      have hns : (x.k.toList == k.toList) = (k.toList == x.k.toList) := by
        rcases hq : (k.toList == x.k.toList) with _ | _
        · exact beq_false_of_ne fun e => by rw [e] at hq; simp at hq
        · rw [beq_iff_eq.1 hq]; simp
      have hxq : NewP L A v x := .inl hxm
      replace hnw := hnw
      rcases hb2 : (k.toList == x.k.toList) with _ | _
      · have hnk : ¬ x.pp.k = k.data.toList := fun e => by rw [hne.1 e] at hb2; cases hb2
        rw [hb2] at hany hout hns
        rw [if_neg hnk] at hout
        replace hany := Lib.hid hany
        replace hout := Lib.hid hout
        clear hne hnk
        rcases hb1 : Op.bytesLess k.toList x.k.toList with _ | _ <;> rcases dn with _ | _
        all_goals rw [hb1] at hany hout
        · obtain ⟨z0, z1⟩ := hpt.out wr hE.out
          go_wp2_with (at_builtin; refine wpList_appfam rfl (.tmp 48) (.tmp 56) 29 87 2 40 rfl pairRow w.heap.size _ q _ _ rfl (own_ext ho (ext_alloc _ _)) ⟨_, 0, none⟩ 1 1 [.string x.k, .slice x.A x.v.length x.c] rfl rfl (rd_list _ _ _) (by intro u hu; simp at hu; rcases hu with rfl | rfl <;> rfl) (by unfold maxLen; omega) (by omega) (by have := hE.out.size; simp; omega) ?_; intro T5 c5 w5 ho5 hk5 hn5; have hE5 : Ext w w5 := ext_keep (hE.out.trans (ext_alloc _ _)) hk5 (base_le ho))
          go_roundw
          case rel => exact ⟨j + 1, q + 1, c5, T5, M ++ [x], hlt, by go_num, rfl, by rw [hany.out]; rfl, by rw [List.flatMap_append]; simpa [PV.cells] using ho5, Lib.hid (by rw [hout.out, List.map_append, hM.out]; simp), Lib.hid (new_x hnw.out (.inl hxm)), Lib.hid hE5, by omega⟩
          case measure => simp [intOf]; omega
        · obtain ⟨z0, z1⟩ := hpt.out wr hE.out
          go_wp2_with (at_builtin; refine wpList_appfam rfl (.tmp 48) (.tmp 56) 29 87 2 40 rfl pairRow w.heap.size _ q _ _ rfl (own_ext ho (ext_alloc _ _)) ⟨_, 0, none⟩ 1 1 [.string x.k, .slice x.A x.v.length x.c] rfl rfl (rd_list _ _ _) (by intro u hu; simp at hu; rcases hu with rfl | rfl <;> rfl) (by unfold maxLen; omega) (by omega) (by have := hE.out.size; simp; omega) ?_; intro T5 c5 w5 ho5 hk5 hn5; have hE5 : Ext w w5 := ext_keep (hE.out.trans (ext_alloc _ _)) hk5 (base_le ho))
          go_roundw
          case rel => exact ⟨j + 1, q + 1, c5, T5, M ++ [x], hlt, by go_num, rfl, by rw [hany.out]; rfl, by rw [List.flatMap_append]; simpa [PV.cells] using ho5, Lib.hid (by rw [hout.out, List.map_append, hM.out]; simp), Lib.hid (new_x hnw.out (.inl hxm)), Lib.hid hE5, by omega⟩
          case measure => simp [intOf]; omega
        · obtain ⟨z0', z1'⟩ := hpt.out wr hE.out
          go_wp2_with first
            | (at_builtin; refine wpList_appfam rfl (.tmp 32) (.tmp 36) 29 87 2 40 rfl pairRow w.heap.size _ q _ _ rfl (own_ext ho (ext_alloc _ _)) ⟨_, 0, none⟩ 1 1 [.string k, .slice A v.length cv] rfl rfl (rd_list _ _ _) (by intro u hu; simp at hu; rcases hu with rfl | rfl <;> rfl) (by unfold maxLen; omega) (by omega) (by have := hE.out.size; simp; omega) ?_; intro T4 c4 w4 ho4 hk4 hn4; have hE4 : Ext w w4 := ext_keep (hE.out.trans (ext_alloc _ _)) hk4 (base_le ho); have m0' := hcells w4 hE4; obtain ⟨z0, z1⟩ := hpt.out w4 hE4)
            | (at_builtin; refine wpList_appfam rfl (.tmp 48) (.tmp 56) 29 87 2 40 rfl pairRow w.heap.size _ (q + 1) _ _ rfl (own_ext ho4 (ext_alloc _ _)) ⟨_, 0, none⟩ 1 1 [.string x.k, .slice x.A x.v.length x.c] rfl rfl (rd_list _ _ _) (by intro u hu; simp at hu; rcases hu with rfl | rfl <;> rfl) (by unfold maxLen; omega) (by omega) (by have := hE4.size; simp; omega) ?_; intro T5 c5 w5 ho5 hk5 hn5; have hE5 : Ext w w5 := ext_keep (hE4.trans (ext_alloc _ _)) hk5 (base_le ho4))
          go_roundw
          case rel => exact ⟨j + 1, q + 2, c5, T5, M ++ [⟨k, A, cv, v⟩] ++ [x], hlt, by go_num, rfl, by rw [hany.out]; rfl, by rw [List.flatMap_append, List.flatMap_append]; simpa [PV.cells] using ho5, Lib.hid (by rw [hout.out, List.map_append, List.map_append, hM.out]; simp [PV.pp]), Lib.hid (new_x (new_x hnw.out (.inr ⟨rfl, rfl⟩)) (.inl hxm)), Lib.hid hE5, by omega⟩
          case measure => simp [intOf]; omega
        · obtain ⟨z0, z1⟩ := hpt.out wr hE.out
          go_wp2_with (at_builtin; refine wpList_appfam rfl (.tmp 48) (.tmp 56) 29 87 2 40 rfl pairRow w.heap.size _ q _ _ rfl (own_ext ho (ext_alloc _ _)) ⟨_, 0, none⟩ 1 1 [.string x.k, .slice x.A x.v.length x.c] rfl rfl (rd_list _ _ _) (by intro u hu; simp at hu; rcases hu with rfl | rfl <;> rfl) (by unfold maxLen; omega) (by omega) (by have := hE.out.size; simp; omega) ?_; intro T5 c5 w5 ho5 hk5 hn5; have hE5 : Ext w w5 := ext_keep (hE.out.trans (ext_alloc _ _)) hk5 (base_le ho))
          go_roundw
          case rel => exact ⟨j + 1, q + 1, c5, T5, M ++ [x], hlt, by go_num, rfl, by rw [hany.out]; rfl, by rw [List.flatMap_append]; simpa [PV.cells] using ho5, Lib.hid (by rw [hout.out, List.map_append, hM.out]; simp), Lib.hid (new_x hnw.out (.inl hxm)), Lib.hid hE5, by omega⟩
          case measure => simp [intOf]; omega
      · have hyk : x.pp.k = k.data.toList := hne.2 hb2
        rw [hb2] at hany hout hns
        rw [if_pos hyk] at hout
        replace hany := Lib.hid hany
        replace hout := Lib.hid hout
        clear hne hyk
        rcases hb1 : Op.bytesLess k.toList x.k.toList with _ | _ <;> rcases dn with _ | _
        all_goals rw [hb1] at hany hout
        · obtain ⟨z0', z1'⟩ := hpt.out wr hE.out
          go_wp2_with (at_builtin; refine wpList_appfam rfl (.tmp 32) (.tmp 36) 29 87 2 40 rfl pairRow w.heap.size _ q _ _ rfl (own_ext ho (ext_alloc _ _)) ⟨_, 0, none⟩ 1 1 [.string k, .slice A v.length cv] rfl rfl (rd_list _ _ _) (by intro u hu; simp at hu; rcases hu with rfl | rfl <;> rfl) (by unfold maxLen; omega) (by omega) (by have := hE.out.size; simp; omega) ?_; intro T4 c4 w4 ho4 hk4 hn4; have hE4 : Ext w w4 := ext_keep (hE.out.trans (ext_alloc _ _)) hk4 (base_le ho); have m0' := hcells w4 hE4; obtain ⟨z0, z1⟩ := hpt.out w4 hE4)
          go_roundw
          case rel => exact ⟨j + 1, q + 1, c4, T4, M ++ [⟨k, A, cv, v⟩], hlt, by go_num, rfl, by rw [hany.out]; rfl, by rw [List.flatMap_append]; simpa [PV.cells] using ho4, Lib.hid (by rw [hout.out, List.map_append, hM.out]; simp [PV.pp]), Lib.hid (new_x hnw.out (.inr ⟨rfl, rfl⟩)), Lib.hid hE4, by omega⟩
          case measure => simp [intOf]; omega
        · obtain ⟨z0, z1⟩ := hpt.out wr hE.out
          go_wp2
          go_roundw
          case rel => exact ⟨j + 1, q, c', T', M, hlt, by go_num, rfl, by rw [hany.out]; rfl, ho, Lib.hid (by rw [hout.out, hM.out]; simp), hnw, hE, by omega⟩
          case measure => simp [intOf]; omega
        · obtain ⟨z0', z1'⟩ := hpt.out wr hE.out
          go_wp2_with (at_builtin; refine wpList_appfam rfl (.tmp 32) (.tmp 36) 29 87 2 40 rfl pairRow w.heap.size _ q _ _ rfl (own_ext ho (ext_alloc _ _)) ⟨_, 0, none⟩ 1 1 [.string k, .slice A v.length cv] rfl rfl (rd_list _ _ _) (by intro u hu; simp at hu; rcases hu with rfl | rfl <;> rfl) (by unfold maxLen; omega) (by omega) (by have := hE.out.size; simp; omega) ?_; intro T4 c4 w4 ho4 hk4 hn4; have hE4 : Ext w w4 := ext_keep (hE.out.trans (ext_alloc _ _)) hk4 (base_le ho); have m0' := hcells w4 hE4; obtain ⟨z0, z1⟩ := hpt.out w4 hE4)
          go_roundw
          case rel => exact ⟨j + 1, q + 1, c4, T4, M ++ [⟨k, A, cv, v⟩], hlt, by go_num, rfl, by rw [hany.out]; rfl, by rw [List.flatMap_append]; simpa [PV.cells] using ho4, Lib.hid (by rw [hout.out, List.map_append, hM.out]; simp [PV.pp]), Lib.hid (new_x hnw.out (.inr ⟨rfl, rfl⟩)), Lib.hid hE4, by omega⟩
          case measure => simp [intOf]; omega
        · obtain ⟨z0, z1⟩ := hpt.out wr hE.out
          go_wp2
          go_roundw
          case rel => exact ⟨j + 1, q, c', T', M, hlt, by go_num, rfl, by rw [hany.out]; rfl, ho, Lib.hid (by rw [hout.out, hM.out]; simp), hnw, hE, by omega⟩
          case measure => simp [intOf]; omega
    · obtain rfl : j = N := by omega
      have e0 : (L.take j).map PV.pp = K.l := by rw [h.ls, hNL.out, List.take_length]
      rw [e0] at hM ⊢
      generalize hdn : (K.l.any fun z => leK k.data.toList z.k) = dn at *
      replace hdn := Lib.hid hdn
      clear e0
      rcases dn with _ | _
      · go_wp2_with (at_builtin; refine wpList_appfam rfl (.tmp 60) (.tmp 64) 29 87 2 40 rfl pairRow w.heap.size _ q _ _ rfl (own_ext ho (ext_alloc _ _)) ⟨_, 0, none⟩ 1 1 [.string k, .slice A v.length cv] rfl rfl (rd_list _ _ _) (by intro u hu; simp at hu; rcases hu with rfl | rfl <;> rfl) (by unfold maxLen; omega) (by omega) (by have := hE.out.size; simp; omega) ?_; intro T4 c4 w4 ho4 hk4 hn4; have hE4 : Ext w w4 := ext_keep (hE.out.trans (ext_alloc _ _)) hk4 (base_le ho); have m0' := hcells w4 hE4; have f0' := hfro w4 hE4)
        go_end0
        exact hG.out _ _ (h.laid_set hris hv (M := M ++ [⟨k, A, cv, v⟩]) (by rw [List.flatMap_append]; simpa [PV.cells] using ho4) hE4 (by
          have := setOut_all (P := K.l) (k := k.data.toList) (v := v)
          rw [hdn.out] at this
          rw [List.map_append, hM.out]
          simpa [PV.pp] using this) (new_x hnw.out (.inr ⟨rfl, rfl⟩)))
      · have f0' := hfro wr hE.out
        go_wp2
        go_end0
        exact hG.out _ _ (h.laid_set hris hv ho hE.out (by
          have := setOut_all (P := K.l) (k := k.data.toList) (v := v)
          rw [hdn.out] at this
          rw [hM.out]
          simpa using this) hnw.out)
end Go.Proofs.YtjnbbfhoegeppaaGreatDoor
end
section
/-
  Walks of the answer's store: a pair is dropped; a batch is done.
-/
set_option linter.unusedSimpArgs false
set_option linter.unusedVariables false
namespace Go.Cv.Kv
open Go Go.Cv.Dk
theorem delK_snoc {P : List PP} {y : PP} {k : List UInt8} : delK (P ++ [y]) k = delK P k ++ (if y.k = k then [] else [y]) := by
  unfold delK
  rw [List.filter_append]
  by_cases e : y.k = k
  · simp [e]
  · simp [e]
theorem delK_len (l : List PP) (k : List UInt8) : (delK l k).length ≤ l.length := List.length_filter_le ..
theorem doW_ris {l : List PP} {x : PW} (h : Ris PP.k l) : Ris PP.k (doW l x) := by
  unfold doW
  split
  · exact delK_ris h
  · exact setK_ris h
end Go.Cv.Kv
namespace Go.Proofs.YtjnbbfhoegeppaaGreatDoor
open Go.RowKit Go.Cv Go.Cv.Dk Go.Cv.Wal Go.Cv.Kv
theorem RtoAt.laid_drop {w w1 : World} {r c q c' : Nat} {K : KS} {T T' : Option Addr} {L M : List PV} {k : List UInt8} (h : RtoAt w r K T c L) (hris : Ris PP.k (L.map PV.pp))
    (ho : w1.ownsRow w.heap.size 87 2 (.slice T' q c') q (M.flatMap PV.cells)) (hE : Ext w w1) (hM : M.map PV.pp = delK K.l k) (hn : ∀ x ∈ M, NewP L none [] x) :
    Rset w r ⟨delK K.l k, K.n⟩ L none [] (.returned (.tuple #[])) (w1.setCell ⟨r, 0, none⟩ (.slice T' q c')) := by
  obtain ⟨h1, h2, h3⟩ := h.laid (A := none) (v := []) Rd.nil_ ho hE hM (delK_ris (by rw [h.ls]; exact hris)) hn
  refine ⟨rfl, T', c', M, h1, h2, h3, hn, ?_⟩
  have h4 : M.length = (delK K.l k).length := by rw [← hM, List.length_map]
  have h5 : K.l.length = L.length := by rw [h.ls, List.length_map]
  have h6 := delK_len K.l k
  omega
set_option maxRecDepth 4000 in
set_option maxHeartbeats 6400000 in
theorem rkdrop_any (r : Nat) (K : KS) (T : Option Addr) (c : Nat) (L : List PV) (k : ByteArray) (w : World) (h : RtoAt w r K T c L) (hL : L.length ≤ 1099511627776) :
    Calls Tryz.prog 39 #[.pointer (some ⟨r, 0, none⟩), .string k] w (Rset w r ⟨delK K.l k.data.toList, K.n⟩ L none []) := by
  refine calls_hid fun G hG => ?_
  have hrlt := h.row.lt
  have hris : Ris PP.k (L.map PV.pp) := by rw [← h.ls]; exact h.ris
  obtain ⟨N, hN⟩ : ∃ N, N = L.length := ⟨_, rfl⟩
  have hNL := Lib.hid hN
  have hNb : N ≤ 1099511627776 := by omega
  have hcells : ∀ wr, Ext w wr → wr.cell? ⟨r, 0, none⟩ = some (.slice T N c) := fun wr hx => by rw [hN]; exact (h.ext hx).row.cell (i := 0) (by simp)
  have hfro : ∀ wr, Ext w wr → wr.frozen? ⟨r, 0, none⟩ = false := fun wr hx => (h.ext hx).row.fro 0
  clear hN
  go_enter Tryz.func39, Tryz.ntmps39
  go_wp2
  go_loopw [4, 5] (fun o i wr => ∃ (j q c' : Nat) (T' : Option Addr) (M : List PV), j ≤ N ∧ i = .int .i64 j ∧ o = .slice T' q c' ∧ wr.ownsRow w.heap.size 87 2 (.slice T' q c') q (M.flatMap PV.cells) ∧ Hid (M.map PV.pp = delK ((L.take j).map PV.pp) k.data.toList) ∧ Hid (∀ x ∈ M, NewP L none [] x) ∧ Hid (Ext w wr) ∧ q ≤ j) (fun _ i _ => N - (intOf i).toNat)
  case atStart => exact ⟨0, 0, 0, none, [], Nat.zero_le _, rfl, rfl, World.ownsRow_nil _ _ _ _, Lib.hid rfl, Lib.hid (by simp), Lib.hid (Ext.refl w), by omega⟩
  case round =>
    obtain ⟨j, q, c', T', M, hj, rfl, rfl, ho, hM, hnw, hE, hqj⟩ := hrel
    have m0 := hcells wr hE.out
    by_cases hlt : j < N
    · have hjL : j < L.length := by rw [← hNL.out]; exact hlt
      obtain ⟨ad, rfl, p0, p1⟩ := (h.ext hE.out).at hjL
      have hsn := delK_snoc (P := (L.take j).map PV.pp) (y := L[j].pp) (k := k.data.toList)
      rw [← take_pp hjL] at hsn
      have hxm := List.getElem_mem hjL
      generalize L[j] = x at *
      have hkl : k.toList = k.data.toList := Lib.toList_data k
      have hxl : x.k.toList = x.k.data.toList := Lib.toList_data x.k
      have hne : (x.pp.k = k.data.toList) ↔ (x.k.toList == k.toList) = true := by
        rw [hkl, hxl]
        exact ⟨fun e => by rw [show x.k.data.toList = k.data.toList from e]; simp, fun e => beq_iff_eq.1 e⟩
      clear hkl hxl
      rcases hb2 : (x.k.toList == k.toList) with _ | _
      · have hnk : ¬ x.pp.k = k.data.toList := fun e => by rw [hne.1 e] at hb2; cases hb2
        rw [if_neg hnk] at hsn
        replace hsn := Lib.hid hsn
        clear hne hnk
        go_wp2_with (at_builtin; refine wpList_appfam rfl (.tmp 25) (.tmp 33) 29 87 2 40 rfl pairRow w.heap.size _ q _ _ rfl (own_ext ho (ext_alloc _ _)) ⟨_, 0, none⟩ 1 1 [.string x.k, .slice x.A x.v.length x.c] rfl rfl (rd_list _ _ _) (by intro u hu; simp at hu; rcases hu with rfl | rfl <;> rfl) (by unfold maxLen; omega) (by omega) (by have := hE.out.size; simp; omega) ?_; intro T5 c5 w5 ho5 hk5 hn5; have hE5 : Ext w w5 := ext_keep (hE.out.trans (ext_alloc _ _)) hk5 (base_le ho))
        go_roundw
        case rel => exact ⟨j + 1, q + 1, c5, T5, M ++ [x], hlt, by go_num, rfl, by rw [List.flatMap_append]; simpa [PV.cells] using ho5, Lib.hid (by rw [hsn.out, List.map_append, hM.out]; simp), Lib.hid (new_x hnw.out (.inl hxm)), Lib.hid hE5, by omega⟩
        case measure => simp [intOf]; omega
      · have hyk : x.pp.k = k.data.toList := hne.2 hb2
        rw [if_pos hyk] at hsn
        replace hsn := Lib.hid hsn
        clear hne hyk
        go_wp2
        go_roundw
        case rel => exact ⟨j + 1, q, c', T', M, hlt, by go_num, rfl, ho, Lib.hid (by rw [hsn.out, hM.out]; simp), hnw, hE, by omega⟩
        case measure => simp [intOf]; omega
    · obtain rfl : j = N := by omega
      have e0 : (L.take j).map PV.pp = K.l := by rw [h.ls, hNL.out, List.take_length]
      rw [e0] at hM
      have f0' := hfro wr hE.out
      clear e0
      go_wp2
      go_end0
      exact hG.out _ _ (h.laid_drop hris ho hE.out hM.out hnw.out)
end Go.Proofs.YtjnbbfhoegeppaaGreatDoor
end
