/-
  Texts of the lemmas below the claim, put together: KvL KvW KvX KvO.
-/
import Derived.Test.YtjnbbfhoegeppaaGreatDoorMKvI
import Derived.Test.YtjnbbfhoegeppaaGreatDoorMKvB
section
/-
  Walks of the store: what a record of all that was kept tells.
-/
set_option linter.unusedSimpArgs false
set_option linter.unusedVariables false
namespace Go.Cv.Kv
open Go Go.Cv.Dk
theorem bb_asym {a b : List UInt8} (h : bytesBefore a b = true) : bytesBefore b a = false := by
  rcases hq : bytesBefore b a with _ | _
  · rfl
  · have := bb_trans h hq
    rw [bb_irrefl] at this
    cases this
theorem ins_end {x : PP} : ∀ {l : List PP}, (∀ z ∈ l, bytesBefore z.k x.k = true) → ins PP.k x l = l ++ [x]
  | [], _ => rfl
  | y :: r, h => by
    have hy := bb_asym (h y (by simp))
    simp only [ins, List.cons_append]
    rw [if_neg (by rw [hy]; simp), ins_end fun z hz => h z (by simp [hz])]
theorem before_last {l : List PP} (hr : Ris PP.k l) {k : List UInt8} (h : bytesBefore ((l.getLast?.map PP.k).getD []) k = true) : ∀ z ∈ l, bytesBefore z.k k = true := by
  rcases List.eq_nil_or_concat l with rfl | ⟨m, y, rfl⟩
  · simp
  · simp only [List.concat_eq_append, List.getLast?_append, List.getLast?_singleton, Option.some_or, Option.map_some, Option.getD_some] at h hr ⊢
    intro z hz
    rcases List.mem_append.1 hz with hz | hz
    · exact bb_trans ((List.pairwise_append.1 hr).2.2 z hz y (by simp)) h
    · rw [List.mem_singleton.1 hz]; exact h
theorem set_last {l : List PP} (hr : Ris PP.k l) {k v : List UInt8} (h : bytesBefore ((l.getLast?.map PP.k).getD []) k = true) : setK l k v = l ++ [⟨k, v⟩] := by
  have hb := before_last hr h
  have hd : delK l k = l := by
    unfold delK
    exact filter_all_ fun z hz => by
      have h1 := hb z hz
      have : z.k ≠ k := fun e => by rw [e, bb_irrefl] at h1; cases h1
      simpa using this
  unfold setK
  rw [hd]
  exact ins_end hb
theorem le_before {a b : List UInt8} (h1 : bytesBefore a b = false) (h2 : a ≠ b) : bytesBefore b a = true := bb_total h2 h1
theorem not_before {a b : List UInt8} (h : bytesBefore a b = true ∨ a = b) : bytesBefore b a = false := by
  rcases h with h | rfl
  · exact bb_asym h
  · exact bb_irrefl a
end Go.Cv.Kv
namespace Go.Proofs.YtjnbbfhoegeppaaGreatDoor
open Go.RowKit Go.Cv Go.Cv.Dk Go.Cv.Wal Go.Cv.Kv
/-- A store that is being opened. -/
structure PreAt (w : World) (B s d mb : Nat) (z : Int) (L : List GV) : Prop where
  row : Row w s 78 [.pointer (some ⟨d, 0, none⟩), .pointer none, .map (some mb), .int .i64 z]
  map : MapV w mb L
  val : ∀ x ∈ L, x.Ok w B
  sep : s ≠ mb ∧ ∀ x ∈ L, s ∉ x.bl ∧ mb ∉ x.bl
  ge : B ≤ s ∧ B ≤ mb
theorem PreAt.keep {w w' : World} {B s d mb : Nat} {z : Int} {L : List GV} {bs : List Nat} (h : PreAt w B s d mb z L) (hk : Keep bs w w') (hb : s ∉ bs ∧ mb ∉ bs ∧ ∀ x ∈ L, ∀ y ∈ x.bl, y ∉ bs) : PreAt w' B s d mb z L :=
  ⟨h.row.keep hk hb.1, h.map.keep hk hb.2.1, fun x hx => (h.val x hx).keep hk (hb.2.2 x hx), h.sep, h.ge⟩
theorem PreAt.ext {w w' : World} {B s d mb : Nat} {z : Int} {L : List GV} (h : PreAt w B s d mb z L) (hx : Ext w w') : PreAt w' B s d mb z L := h.keep (Keep.of_ext (bs := []) hx) (by simp)
theorem gv_ty {w : World} {B : Nat} {g : GV} (h : g.Ok w B) : ∀ y ∈ g.bl, Ty w y 5 := fun y hy => row_ty h.own y hy
theorem PreAt.rdr {w w' : World} {B s d mb p : Nat} {z : Int} {L : List GV} {src : List Nat} {b : List UInt8} {bd : Bool} (h : PreAt w B s d mb z L) (hk : Keep [p] w w') (hR : RdrAt w p src b bd) : PreAt w' B s d mb z L := by
  have hp := rdr_ty hR
  refine h.keep hk ⟨fun hm => ?_, fun hm => ?_, fun x hx y hy hm => ?_⟩
  · rw [← List.mem_singleton.1 hm] at hp
    exact absurd ((Ty.of_row h.row).uniq hp) (by decide)
  · rw [← List.mem_singleton.1 hm] at hp
    obtain ⟨cs, fr, h1⟩ := hp
    obtain ⟨es, clock, h2, _⟩ := h.map
    rw [h1] at h2
    cases h2
  · rw [← List.mem_singleton.1 hm] at hp
    exact absurd ((gv_ty (h.val x hx) y hy).uniq hp) (by decide)
/-- What a loading leaves. -/
def Loaded (w : World) (B s d mb : Nat) (r : List UInt8) (e : Ending) (w' : World) : Prop :=
  Keep [s, mb] w w' ∧ ((∃ K L', snpD r = some K ∧ e = .returned (.bool true) ∧ PreAt w' B s d mb K.n L' ∧ K.l = L'.map GV.pp ∧ ∀ x ∈ L', ∀ y ∈ x.bl, w.heap.size ≤ y) ∨ (snpD r = none ∧ e = .returned (.bool false)))
/-- Where the loop over pairs stands. -/
structure Lst (w wr : World) (src : List Nat) (B s d mb : Nat) (z : Int) (L : List GV) (b : List UInt8) (bd : Bool) : Prop where
  R : RdrAt wr w.heap.size src b bd
  P : PreAt wr B s d mb z L
  K : Keep [s, mb] w wr
  new : ∀ x ∈ L, ∀ y ∈ x.bl, w.heap.size ≤ y
theorem Lst.rdr {w wr wr' : World} {src : List Nat} {B s d mb : Nat} {z : Int} {L : List GV} {b b' : List UInt8} {bd bd' : Bool} (h : Lst w wr src B s d mb z L b bd) (hk : Keep [w.heap.size] wr wr') (hR : RdrAt wr' w.heap.size src b' bd') : Lst w wr' src B s d mb z L b' bd' :=
  ⟨hR, h.P.rdr hk h.R, h.K.trans hk fun x hx => .inr (by rw [List.mem_singleton.1 hx]; exact Nat.le_refl _), h.new⟩
theorem Lst.entry {w w4 w6 : World} {src : List Nat} {B s d mb : Nat} {z : Int} {L : List GV} {b : List UInt8} {bd : Bool} {g : GV} (h : Lst w w4 src B s d mb z L b bd) (hs : s < w.heap.size) (hm : mb < w.heap.size) (hsa : ∀ x ∈ src, x ∉ [s, mb]) (hg : g.Ok w4 w.heap.size) (hM : MapV w6 mb (setV g L)) (hk : Keep [mb] w4 w6) :
    Lst w w6 src B s d mb z (setV g L) b bd := by
  have hgl := fun y hy => (hg.lt y hy).1
  have hBw : B ≤ w.heap.size := Nat.le_trans h.P.ge.1 (Nat.le_of_lt hs)
  refine ⟨h.R.keep hk (fun hx => by have := List.mem_singleton.1 hx; omega) fun x hx hx2 => by rw [List.mem_singleton.1 hx2] at hx; exact hsa mb hx (by simp), ⟨h.P.row.keep hk (by simpa using h.P.sep.1), hM, fun x hx => ?_, ⟨h.P.sep.1, fun x hx => ?_⟩, h.P.ge⟩, h.K.same (hk.mono (by simp)), fun x hx => ?_⟩
  · rcases setV_mem hx with rfl | hx
    · have h1 := hg.keep hk fun y hy hm' => by rw [List.mem_singleton.1 hm'] at hy; have := hgl _ hy; omega
      exact ⟨own_base h1.own hBw, h1.kb, h1.vb⟩
    · exact (h.P.val x hx).keep hk fun y hy hm' => by rw [List.mem_singleton.1 hm'] at hy; exact (h.P.sep.2 x hx).2 hy
  · rcases setV_mem hx with rfl | hx
    · exact ⟨fun hy => by have := hgl _ hy; omega, fun hy => by have := hgl _ hy; omega⟩
    · exact h.P.sep.2 x hx
  · rcases setV_mem hx with rfl | hx
    · exact hgl
    · exact h.new x hx
def lastK (L : List GV) : List UInt8 := ((L.map GV.pp).getLast?.map PP.k).getD []
theorem n64_succ {k : Nat} (h : k + 1 < 18446744073709551616) : n64 (u64 (k : Int) + 1) = ((k + 1 : Nat) : Int) := by
  have e : u64 (k : Int) + 1 = u64 ((k + 1 : Nat) : Int) := by
    rw [show ((k + 1 : Nat) : Int) = (k : Int) + 1 from by omega, u64_add]
    rfl
  rw [e, n64_u64]
  omega
set_option maxRecDepth 4000 in
set_option maxHeartbeats 6400000 in
theorem load_any (B s d mb : Nat) (A : Option Addr) (n c : Nat) (r : List UInt8) (w : World) (h : PreAt w B s d mb 0 []) (hl : r.length = n) (hr : Rd w A (r.map bv)) (hc : n ≤ c) (hm : c ≤ maxLen) (hap : r = [] ∨ ∀ y ∈ rowOf A, y ∉ [s, mb]) :
    Calls Tryz.prog 52 #[.pointer (some ⟨s, 0, none⟩), .slice A n c] w (Loaded w B s d mb r) := by
  refine calls_hid fun G hG => ?_
  obtain ⟨src, hsrc, hss, hsa⟩ : ∃ src : List Nat, (r = [] ∨ ∀ x ∈ rowOf A, x ∈ src) ∧ (∀ x ∈ src, x < w.heap.size) ∧ ∀ x ∈ src, x ∉ [s, mb] := by
    rcases hq : r with _ | ⟨x, y⟩
    · exact ⟨[], .inl rfl, by simp, by simp⟩
    · rw [hq] at hr hap
      obtain ⟨ad, rfl, hlt⟩ := hr.some_ (by simp)
      exact ⟨[ad.block], .inr (by simp [rowOf]), by simpa using hlt, fun z hz => by
        rw [List.mem_singleton.1 hz]
        rcases hap with h1 | h1
        · cases h1
        · exact h1 _ (by simp [rowOf])⟩
  have hx0 := ext_alloc w (.cells #[.slice A n c, .bool false] 123)
  have hR0 : RdrAt (w.alloc (.cells #[.slice A n c, .bool false] 123)) w.heap.size src r false := ⟨A, c, by rw [hl]; exact Row.alloc w [.slice A n c, .bool false] _, by omega, hm, hr.ext hx0, hsrc⟩
  have hps : w.heap.size ∉ src := fun h => by have := hss _ h; omega
  have hN8 := pnum8 w.heap.size src r false _ hR0 hps
  have hslt := h.row.lt
  have hmlt := h.map.lt
  have hb4 := tk4_bd (tkS 8 r).2.1
  have hb8 := tk8_bd r
  have hN4 := fun w' bd (h' : RdrAt w' w.heap.size src (tkS 8 r).2.1 bd) => pnum4 w.heap.size src (tkS 8 r).2.1 bd w' h' hps
  have hsnp := snpD_S r
  have hcz : ∀ z, z = IntKind.i64.wrap ((num (tkS 8 r).1 : Nat) : Int) → (decide (z ≥ 0) && decide (z ≤ 4611686018427387904)) = decide (num (tkS 8 r).1 ≤ 4611686018427387904) ∧ (num (tkS 8 r).1 ≤ 4611686018427387904 → z = (num (tkS 8 r).1 : Nat)) := fun z hz => by
    have hw : z = if num (tkS 8 r).1 < 9223372036854775808 then ((num (tkS 8 r).1 : Nat) : Int) else ((num (tkS 8 r).1 : Nat) : Int) - 18446744073709551616 := by
      rw [hz]
      split
      · exact IntWalk.i64_in _ (by omega)
      · simp [IntKind.wrap, IntKind.bits, IntKind.signed]
        omega
    rw [hw]
    split
    · refine ⟨?_, fun _ => rfl⟩
      by_cases h1 : num (tkS 8 r).1 ≤ 4611686018427387904
      · rw [decide_eq_true h1, decide_eq_true (by omega), decide_eq_true (by omega)]; rfl
      · rw [decide_eq_false h1, decide_eq_false (p := ((num (tkS 8 r).1 : Nat) : Int) ≤ 4611686018427387904) (by omega), Bool.and_false]
    · refine ⟨?_, fun h1 => by omega⟩
      rw [decide_eq_false (p := num (tkS 8 r).1 ≤ 4611686018427387904) (by omega), decide_eq_false (p := ((num (tkS 8 r).1 : Nat) : Int) - 18446744073709551616 ≥ 0) (by omega), Bool.false_and]
  have hcz2 := hcz _ rfl
  clear hcz
  generalize hcw : IntKind.i64.wrap ((num (tkS 8 r).1 : Nat) : Int) = cw at *
  have h1 := h.ext hx0
  have g3 : ∀ w', Keep [w.heap.size] (w.alloc (.cells #[.slice A n c, .bool false] 123)) w' → w'.cell? ⟨s, 3, none⟩ = some (.int .i64 0) ∧ w'.frozen? ⟨s, 3, none⟩ = false := fun w' hk => by
    have := (h1.rdr hk hR0).row
    exact ⟨this.cell (i := 3) (by simp), this.fro 3⟩
  go_enter Tryz.func52, Tryz.ntmps52
  go_wp2_with (first
    | (go_at_call 69; (with_reducible refine hN8.mono ?_); rintro e' w1 ⟨rfl, hR1, hK1⟩; obtain ⟨g3c, g3f⟩ := g3 w1 hK1; have hk3 := Keep.setCell w1 ⟨s, 3, none⟩ (.int .i64 cw); have hR1' := hR1.keep hk3 (fun hm' => by have := List.mem_singleton.1 hm'; simp at this; omega) (fun x hx hm' => by have := List.mem_singleton.1 hm'; subst this; exact hsa _ hx (by simp)))
    | (go_at_call 69; (with_reducible refine (hN4 _ _ hR1').mono ?_); rintro e' w2 ⟨rfl, hR2, hK2⟩))
  have hP1 : PreAt w1 B s d mb 0 [] := h1.rdr hK1 hR0
  have hLs0 : Lst w w2 src B s d mb cw [] (tkS 4 (tkS 8 r).2.1).2.1 ((false || (tkS 8 r).2.2) || (tkS 4 (tkS 8 r).2.1).2.2) := by
    have hP2 : PreAt (w1.setCell ⟨s, 3, none⟩ (.int .i64 cw)) B s d mb cw [] := ⟨hP1.row.set 3 _, hP1.map.keep hk3 (by simpa using fun e => hP1.sep.1 e.symm), by simp, ⟨hP1.sep.1, by simp⟩, hP1.ge⟩
    have hKw : Keep [s, mb] w (w1.setCell ⟨s, 3, none⟩ (.int .i64 cw)) := ((Keep.of_ext (bs := [s, mb]) hx0).trans hK1 fun x hx => .inr (by rw [List.mem_singleton.1 hx]; exact Nat.le_refl _)).same (hk3.mono (by simp))
    exact (Lst.mk hR1' hP2 hKw (by simp)).rdr hK2 hR2
  have hgo : ∀ L b wr, PProg (num (tkS 4 (tkS 8 r).2.1).1) (tkS 4 (tkS 8 r).2.1).2.1 (num (tkS 4 (tkS 8 r).2.1).1) (L.map GV.pp) b → ((false || (tkS 8 r).2.2) || (tkS 4 (tkS 8 r).2.1).2.2) = false → Lst w wr src B s d mb cw L b false →
      G (.returned (.bool (((b.length : Int) == 0) && (decide (cw ≥ 0) && decide (cw ≤ 4611686018427387904))))) wr := fun L b wr hP hf hL => by
    refine hG.out _ _ ⟨hL.K, ?_⟩
    have hf' : ((tkS 8 r).2.2 || (tkS 4 (tkS 8 r).2.1).2.2) = false := by simpa using hf
    rw [hcz2.1, hsnp, hf', hP.done]
    simp only [Bool.false_eq_true, if_false, Option.bind_some]
    by_cases hq : b = [] ∧ num (tkS 8 r).1 ≤ 4611686018427387904
    · rw [if_pos hq]
      refine .inl ⟨_, L, rfl, ?_, ?_, rfl, hL.new⟩
      · rw [hq.1, decide_eq_true hq.2]; rfl
      · show PreAt wr B s d mb ((num (tkS 8 r).1 : Nat) : Int) L
        rw [← hcz2.2 hq.2]
        exact hL.P
    · rw [if_neg hq]
      refine .inr ⟨rfl, ?_⟩
      have e : (((b.length : Int) == 0) && decide (num (tkS 8 r).1 ≤ 4611686018427387904)) = false := by
        rcases b with _ | ⟨x, y⟩
        · have h2 : ¬ num (tkS 8 r).1 ≤ 4611686018427387904 := fun h2 => hq ⟨rfl, h2⟩
          rw [decide_eq_false h2, Bool.and_false]
        · have : (((x :: y).length : Int) == 0) = false := beq_false_of_ne (by simp only [List.length_cons]; omega)
          rw [this, Bool.false_and]
      rw [e]
  have hgb : ∀ wr, Keep [s, mb] w wr → (((false || (tkS 8 r).2.2) || (tkS 4 (tkS 8 r).2.1).2.2) = true ∨ prsD (num (tkS 4 (tkS 8 r).2.1).1) [] (tkS 4 (tkS 8 r).2.1).2.1 = none) → G (.returned (.bool false)) wr := fun wr hk hbd => by
    refine hG.out _ _ ⟨hk, .inr ⟨?_, rfl⟩⟩
    rw [hsnp]
    rcases hbd with hbd | hbd
    · rw [if_pos (by simpa using hbd)]
    · rw [hbd]
      split <;> rfl
  replace hgo := Lib.hid hgo
  replace hgb := Lib.hid hgb
  have hP0 := PProg.start (num (tkS 4 (tkS 8 r).2.1).1) (tkS 4 (tkS 8 r).2.1).2.1
  clear hN8 hN4 hsnp hG hR1 hR0 hK1 hK2 hcw hcz2 hR1' hk3 hP1 g3c g3f g3 hR2
  generalize ((false || (tkS 8 r).2.2) || (tkS 4 (tkS 8 r).2.1).2.2) = bd0 at *
  generalize (tkS 4 (tkS 8 r).2.1).2.1 = b0 at *
  generalize num (tkS 4 (tkS 8 r).2.1).1 = N at *
  go_loopw [7, 8, 9, 22] (fun t _ _ i wr => ∃ (k : Nat) (L : List GV) (b : List UInt8), k ≤ N ∧ i = .int .u64 ((k : Nat) : Int) ∧ t = .string ⟨(lastK L).toArray⟩ ∧ Hid (Lst w wr src B s d mb cw L b bd0) ∧ Hid (PProg N b0 k (L.map GV.pp) b)) (fun _ _ _ i _ => N - (intOf i).toNat)
  case atStart => exact ⟨0, [], b0, Nat.zero_le _, rfl, rfl, Lib.hid hLs0, Lib.hid hP0⟩
  case round =>
    obtain ⟨k, L, b, hk, rfl, rfl, hLs, hP⟩ := hrel
    by_cases hlt : k < N
    · have hKey := pkey_any w.heap.size src b bd0 wr hLs.out.R hps
      have hkl := keys_len b
      have hvl := vals_len (keyS b).2.1
      rcases hbad : (bd0 || (keyS b).2.2) || (valS (keyS b).2.1).2.2 with _ | _
      · obtain ⟨⟨hb0, hbk⟩, hbv⟩ : (bd0 = false ∧ (keyS b).2.2 = false) ∧ (valS (keyS b).2.1).2.2 = false := by simpa using hbad
        have hpf : (prS b).2.2.2 = false := by show ((keyS b).2.2 || (valS (keyS b).2.1).2.2) = false; rw [hbk, hbv]; rfl
        have hLlen : L.length = k := by have := hP.out.1; rwa [List.length_map] at this
        have hbad' := Lib.hid hbad
        rcases hc1 : Op.bytesLess (keyS b).1 (lastK L) with _ | _
        · rcases hc2 : ((keyS b).1 == lastK L) with _ | _
          · have hbf : bytesBefore (lastK L) (keyS b).1 = true := le_before (by rw [← bl_eq]; exact hc1) (by simpa using hc2)
            have hris := ris_pp hLs.out.P.map.ris
            have hset := set_last hris (k := (keyS b).1) (v := (valS (keyS b).2.1).1) hbf
            have hPn := Lib.hid (hP.out.step hlt hpf hbf)
            have hks := toA_size (keyS b).1
            replace hset := Lib.hid hset
            replace hbf := Lib.hid hbf
            replace hLlen := Lib.hid hLlen
            clear hbad hpf hbk hbv hris
            go_wp2_with (first
              | (go_at_call 70; (with_reducible refine hKey.mono ?_); rintro e' w3 ⟨rfl, hR3, hK3⟩; have hL3 := hLs.out.rdr hK3 hR3; have hV := pval_any w.heap.size src _ _ _ hL3.R hps; replace hL3 := Lib.hid hL3)
              | (go_at_call 71; (with_reducible refine hV.mono ?_); rintro e' w4 ⟨A4, c4, rfl, ho4, hc4, hm4, hR4, hK4⟩; rw [hbad'.out] at hR4; have hL4 := hL3.out.rdr hK4 hR4; have e1 := hR4.flag.1; have g2 : w4.cell? ⟨s, 2, none⟩ = some (.map (some mb)) := hL4.P.row.cell (i := 2) (by simp); obtain ⟨q, hq1, hq2⟩ := gv_of ho4 (keyS b).1; obtain ⟨v0, st, w5, w6, he1, he2, hM6, hk6⟩ := hL4.P.map.entry (s := ⟨(keyS b).1.toArray⟩) (by unfold maxLen; omega) (by rw [hLlen.out]; unfold maxLen; omega) ⟨(keyS b).1, q, c4, (valS (keyS b).2.1).1⟩ (by simp); rw [hq1] at he2))
            have hgok : GV.Ok w4 w.heap.size ⟨(keyS b).1, q, c4, (valS (keyS b).2.1).1⟩ := ⟨by rw [hq1]; exact own_base ho4 (hL3.out.K.size), by show (keyS b).1.length ≤ _; omega, by show (valS (keyS b).2.1).1.length ≤ _; omega⟩
            have hLn := hL4.entry hslt hmlt hsa hgok hM6 hk6
            have hsp : (setV ⟨(keyS b).1, q, c4, (valS (keyS b).2.1).1⟩ L).map GV.pp = L.map GV.pp ++ [⟨(keyS b).1, (valS (keyS b).2.1).1⟩] := by rw [setV_pp]; exact hset.out
            have hlk : lastK (setV ⟨(keyS b).1, q, c4, (valS (keyS b).2.1).1⟩ L) = (keyS b).1 := by unfold lastK; rw [hsp]; simp
            go_roundw
            case rel => exact ⟨k + 1, setV ⟨(keyS b).1, q, c4, (valS (keyS b).2.1).1⟩ L, (prS b).2.2.1, hlt, by rw [← n64_succ (by omega)], by rw [hlk], Lib.hid (by rw [hb0]; exact hLn), Lib.hid (by rw [hsp]; exact hPn.out)⟩
            case measure => have e9 := n64_succ (k := k) (by omega); simp only [intOf, e9]; omega
          · have hno : prsD N [] b0 = none := hP.out.bad hlt fun hh => by
              have h2 := not_before (a := (keyS b).1) (b := lastK L) (.inr (by simpa using hc2))
              rw [show bytesBefore (lastK L) (keyS b).1 = true from hh.2] at h2
              cases h2
            clear hbad hpf hbk hbv
            go_wp2_with (first
              | (go_at_call 70; (with_reducible refine hKey.mono ?_); rintro e' w3 ⟨rfl, hR3, hK3⟩; have hL3 := hLs.out.rdr hK3 hR3; have hV := pval_any w.heap.size src _ _ _ hL3.R hps; replace hL3 := Lib.hid hL3)
              | (go_at_call 71; (with_reducible refine hV.mono ?_); rintro e' w4 ⟨A4, c4, rfl, ho4, hc4, hm4, hR4, hK4⟩; rw [hbad'.out] at hR4; have hL4 := hL3.out.rdr hK4 hR4; have e1 := hR4.flag.1))
            exact hgb.out _ hL4.K (.inr hno)
        · have hno : prsD N [] b0 = none := hP.out.bad hlt fun hh => by
            have h2 := not_before (a := (keyS b).1) (b := lastK L) (.inl (by rw [← bl_eq]; exact hc1))
            rw [show bytesBefore (lastK L) (keyS b).1 = true from hh.2] at h2
            cases h2
          clear hbad hpf hbk hbv
          go_wp2_with (first
            | (go_at_call 70; (with_reducible refine hKey.mono ?_); rintro e' w3 ⟨rfl, hR3, hK3⟩; have hL3 := hLs.out.rdr hK3 hR3; have hV := pval_any w.heap.size src _ _ _ hL3.R hps; replace hL3 := Lib.hid hL3)
            | (go_at_call 71; (with_reducible refine hV.mono ?_); rintro e' w4 ⟨A4, c4, rfl, ho4, hc4, hm4, hR4, hK4⟩; rw [hbad'.out] at hR4; have hL4 := hL3.out.rdr hK4 hR4; have e1 := hR4.flag.1))
          exact hgb.out _ hL4.K (.inr hno)
      · have hno : bd0 = true ∨ prsD N [] b0 = none := by
          rcases hb0 : bd0 with _ | _
          · right
            refine hP.out.bad hlt fun hh => ?_
            have h2 : ((keyS b).2.2 || (valS (keyS b).2.1).2.2) = false := hh.1
            rw [hb0, Bool.false_or] at hbad
            rw [hbad] at h2
            cases h2
          · exact .inl rfl
        replace hbad := Lib.hid hbad
        go_wp2_with (first
          | (go_at_call 70; (with_reducible refine hKey.mono ?_); rintro e' w3 ⟨rfl, hR3, hK3⟩; have hL3 := hLs.out.rdr hK3 hR3; have hV := pval_any w.heap.size src _ _ _ hL3.R hps; replace hL3 := Lib.hid hL3)
          | (go_at_call 71; (with_reducible refine hV.mono ?_); rintro e' w4 ⟨A4, c4, rfl, ho4, hc4, hm4, hR4, hK4⟩; rw [hbad.out] at hR4; have hL4 := hL3.out.rdr hK4 hR4; have e1 := hR4.flag.1))
        exact hgb.out _ hL4.K hno
    · obtain rfl : k = N := by omega
      have c1 := hLs.out.R.flag.1
      have c3 : wr.cell? ⟨s, 3, none⟩ = some (.int .i64 cw) := hLs.out.P.row.cell (i := 3) (by simp)
      rcases hbd : bd0 with _ | _
      · rw [hbd] at c1 hLs
        obtain ⟨A0, c0, hrow, _⟩ := hLs.out.R.row
        have e0 : wr.cell? ⟨w.heap.size, 0, none⟩ = some (.slice A0 b.length c0) := hrow.cell (i := 0) (by simp)
        have hgg := Lib.hid (hgo.out L b wr hP.out hbd hLs.out)
        clear hrow
        rcases hq0 : ((b.length : Int) == 0) with _ | _ <;> rcases hq1 : decide (cw ≥ 0) with _ | _ <;> rcases hq2 : decide (cw ≤ 4611686018427387904) with _ | _
        all_goals
          rw [hq0, hq1, hq2] at hgg
          go_wp2
          exact hgg.out
      · rw [hbd] at c1
        go_wp2
        exact hgb.out _ hLs.out.K (.inl hbd)
end Go.Proofs.YtjnbbfhoegeppaaGreatDoor
end
section
/-
  An opening in plain words; logs that are opened.
-/
set_option linter.unusedSimpArgs false
set_option linter.unusedVariables false
namespace Go.Cv.Wal
open Go Go.Cv.Dk
theorem scans_cons {l r : List UInt8} (h : scan1 l = some r) {R : List (List UInt8)} {u : Nat} (hs : Scans (l.drop (8 + r.length)) R u) : Scans l (r :: R) (8 + r.length + u) := by
  obtain ⟨h1, h2, h3⟩ := scan1_some h
  have hle := hs.le
  rw [List.length_drop] at hle
  refine ⟨by omega, ?_, fun x hx => ?_, ?_⟩
  · rw [List.map_cons, List.flatten_cons, hs.eq, List.take_add]
    congr 1
    have := frame_length r
    conv => rhs; rw [h1]
    rw [List.take_append_of_le_length (by omega), List.take_of_length_le (by omega)]
  · rcases List.mem_cons.1 hx with rfl | hx
    · exact h2
    · exact hs.small x hx
  · have := hs.last
    rwa [List.drop_drop] at this
theorem scans_ex : ∀ (n : Nat) (l : List UInt8), l.length ≤ n → ∃ R u, Scans l R u
  | 0, l, h => by
    have e : l = [] := List.length_eq_zero_iff.1 (by omega)
    subst e
    exact ⟨[], 0, scans_empty⟩
  | n + 1, l, h => by
    rcases hs : scan1 l with _ | r
    · exact ⟨[], 0, Nat.zero_le _, by simp, by simp, by simpa using hs⟩
    · obtain ⟨h1, h2, h3⟩ := scan1_some hs
      obtain ⟨R, u, hR⟩ := scans_ex n (l.drop (8 + r.length)) (by rw [List.length_drop]; omega)
      exact ⟨_, _, scans_cons hs hR⟩
/-- The records that bytes begin with, and how many bytes these take. -/
noncomputable def scR (b : List UInt8) : List (List UInt8) := Classical.choose (scans_ex b.length b (Nat.le_refl _))
noncomputable def scU (b : List UInt8) : Nat := Classical.choose (Classical.choose_spec (scans_ex b.length b (Nat.le_refl _)))
theorem sc_spec (b : List UInt8) : Scans b (scR b) (scU b) := Classical.choose_spec (Classical.choose_spec (scans_ex b.length b (Nat.le_refl _)))
theorem sc_eq {b : List UInt8} {R : List (List UInt8)} {u : Nat} (h : Scans b R u) : scR b = R ∧ scU b = u := (sc_spec b).unique h
end Go.Cv.Wal
namespace Go.Cv.Kv
open Go Go.Cv.Dk Go.Cv.Wal
/-- What the file of all that was kept tells. -/
def snpF (b : List UInt8) : Option KS := (scan1 b).bind fun r => if 8 + r.length = b.length then snpD r else none
theorem snpF_one {b r : List UInt8} {u : Nat} (h : Scans b [r] u) (hu : u = b.length) : snpF b = snpD r := by
  have h1 := h.eq
  rw [hu, List.take_length] at h1
  have h2 : b = frame r ++ [] := by rw [← h1]; simp
  have h3 : scan1 b = some r := by rw [h2]; exact scan1_frame r [] (h.small r (by simp))
  unfold snpF
  rw [h3]
  have h4 : 8 + r.length = b.length := by rw [h2, List.append_nil, frame_length]
  simp [h4]
theorem snpF_not {b : List UInt8} {R : List (List UInt8)} {u : Nat} (h : Scans b R u) (hn : ¬ (R.length = 1 ∧ u = b.length)) : snpF b = none := by
  unfold snpF
  rcases hs : scan1 b with _ | r
  · rfl
  · simp only [Option.bind_some]
    rw [if_neg fun h4 => hn ?_]
    obtain ⟨h1, h2, h3⟩ := scan1_some hs
    have h5 : b.drop (8 + r.length) = [] := by rw [h4]; exact List.drop_length
    have h6 := scans_cons hs (R := []) (u := 0) (by rw [h5]; exact scans_empty)
    obtain ⟨e1, e2⟩ := h6.unique h
    rw [← e1, ← e2]
    exact ⟨rfl, by simpa using h4⟩
variable (bump : Int → Int)
/-- What an opening makes of a disk whose power is on: an error's number, the disk, the store. -/
noncomputable def openL (S : DS) (K : KS) : Nat × DS × KS :=
  if fnd S logL = 9 then (0, S, K) else
  if (lcut bump S logL (scU (cont S logL))).1 ≠ 0 then ((lcut bump S logL (scU (cont S logL))).1, (lcut bump S logL (scU (cont S logL))).2, emptyK) else
  match opnR none K (scR (cont S logL)) with
  | none => (13, (lcut bump S logL (scU (cont S logL))).2, emptyK)
  | some K' => (0, (lcut bump S logL (scU (cont S logL))).2, K')
def snpS (S : DS) : Option KS := if fnd S snL = 9 then some emptyK else snpF (cont S snL)
noncomputable def openP (S : DS) : Nat × DS × KS :=
  match snpS S with
  | none => (13, S, emptyK)
  | some K => if (Dk.rem bump S nwL).1 ≠ 0 ∧ (Dk.rem bump S nwL).1 ≠ 9 then ((Dk.rem bump S nwL).1, (Dk.rem bump S nwL).2, emptyK) else openL bump (Dk.rem bump S nwL).2 K
end Go.Cv.Kv
namespace Go.Proofs.YtjnbbfhoegeppaaGreatDoor
open Go.RowKit Go.Cv Go.Cv.Dk Go.Cv.Wal Go.Cv.Kv
/-- What is read as bytes lies in no row of a store. -/
theorem cell_not_row {w : World} {s : Nat} {T : TypeId} {cs : List Value} {ad : Addr} {v : Value} (h : Row w s T cs) (hc : w.cell? ad = some v) (hv : v ∉ cs) : ad.block ≠ s := fun e => by
  obtain ⟨b, o, sp⟩ := ad
  have hsp : sp = none := World.cell?_spot hc
  subst hsp
  have e : b = s := e
  subst e
  rcases Nat.lt_or_ge o cs.length with ho | ho
  · rw [h.cell ho] at hc
    injection hc with hc
    exact hv (hc ▸ List.getElem_mem ho)
  · unfold Row at h
    simp only [World.cell?, h] at hc
    simp [ho] at hc
theorem cell_not_map {w : World} {b : Nat} {es : Array MapEntry} {clock : Nat} {ad : Addr} {v : Value} (h : w.heap[b]? = some (.map es clock)) (hc : w.cell? ad = some v) : ad.block ≠ b := fun e => by
  obtain ⟨b', o, sp⟩ := ad
  have hsp : sp = none := World.cell?_spot hc
  subst hsp
  have e : b' = b := e
  subst e
  simp only [World.cell?, h] at hc
  cases hc
end Go.Proofs.YtjnbbfhoegeppaaGreatDoor
end
section
/-
  Walks of a log's opening, as a store needs it.
-/
set_option linter.unusedSimpArgs false
set_option linter.unusedVariables false
namespace Go.Proofs.YtjnbbfhoegeppaaGreatDoor
open Go.RowKit Go.Cv Go.Cv.Dk Go.Cv.Wal Go.Cv.Kv
set_option maxRecDepth 4000 in
set_option maxHeartbeats 1600000 in
theorem wopen_cut (B d : Nat) (S : DS) (bs : List Nat) (s : ByteArray) (w : World) (R : List (List UInt8)) (u : Nat) (h : Dsk w B d S bs) (hs : s.size ≤ 281474976710656) (hf : fnd S s.data.toList = 0) (hsc : Scans (cont S s.data.toList) R u) (hlen : (cont S s.data.toList).length ≤ 35184372088832) (hz : (lcut wrap64 S s.data.toList u).1 ≠ 0) :
    Calls Tryz.prog 55 #[.pointer (some ⟨d, 0, none⟩), .string s] w fun e w' => e = .returned (.tuple #[.pointer none, .slice none 0 0, errV (lcut wrap64 S s.data.toList u).1]) ∧ DN w B d bs (lcut wrap64 S s.data.toList u).2 w' := by
  refine calls_hid fun G hG => ?_
  have hx := ext_alloc w (.cells #[.pointer (some ⟨d, 0, none⟩), .string s] 115)
  have hR := read_dk (w := w.alloc (.cells #[.pointer (some ⟨d, 0, none⟩), .string s] 115)) s (h.ext hx) hs hf
  have hl := log_new d s w
  have hIs := fun w => is_nil 9 w
  have hul := hsc.le
  generalize hW : w.alloc (.cells #[.pointer (some ⟨d, 0, none⟩), .string s] 115) = W at *
  have hT : ∀ w3, Ext w w3 → _ := fun w3 hx3 => trunc_dk (w := w3) s (u : Int) (h.ext hx3) hs (by omega)
  obtain ⟨n, hn⟩ : ∃ n, n = (cont S s.data.toList).length := ⟨_, rfl⟩
  have hnn := Lib.hid hn
  rw [← hn] at hR hlen hul
  have hcut : u < n := by
    rcases Nat.lt_or_ge u n with h1 | h1
    · exact h1
    · exact absurd (by unfold lcut; rw [if_neg (by rw [← hn]; omega)]) hz
  have e1 : lcut wrap64 S s.data.toList u = trunc wrap64 S s.data.toList u := if_pos (by rw [← hn]; exact hcut)
  rw [e1] at hz hG
  rw [errV_ne hz] at hT hG
  have hci : (u : Int) < (n : Int) := by omega
  generalize (((trunc wrap64 S s.data.toList u).1 : Nat) : Int) = qz at *
  generalize (trunc wrap64 S s.data.toList u).2 = S1 at *
  replace hsc := Lib.hid hsc
  replace hT := Lib.hid hT
  replace hl := Lib.hid hl
  clear h hf hz e1 hn
  go_enter Tryz.func55, Tryz.ntmps55
  go_wp2_with (first
    | (go_at_call 18; (with_reducible refine hR.mono ?_); rintro e w2 ⟨v, rfl, A2, c2, rfl, hx2, ho2, hc2, hm2, hr2⟩)
    | (go_at_call 53; (with_reducible refine (hIs _).mono ?_); rintro e w4 ⟨rfl, rfl⟩)
    | (go_at_call 51; (with_reducible refine (scan_any A2 n c2 _ _ hnn.out.symm hc2 hr2 hlen).mono ?_); rintro e w3 ⟨A3, c3, vs, R3, u3, hs3, rfl, hx3, ho3, hc3, hm3, hr3, ha3⟩; obtain ⟨rfl, rfl⟩ := Scans.unique hs3 hsc.out; have hE3 := Lib.hid (hx.trans (hx2.trans hx3)))
    | (go_at_call 67; (with_reducible refine (hT.out w3 hE3.out).mono ?_); rintro e w5 ⟨rfl, hD5⟩))
  go_ret3
  exact hG.out _ _ ⟨rfl, hD5.after hE3.out⟩
theorem recs_nil (w : World) (bs : List Nat) : Recs w none 0 [] bs := ⟨Nat.le_refl _, Nat.zero_le _, .inl rfl, [], Rd.nil_, trivial, by simp⟩
/-- A log that can be opened. -/
theorem wopen_ok (B d : Nat) (S S' : DS) (bs : List Nat) (w : World) (R : List (List UInt8)) (h : Dsk w B d S bs) (hf : (fnd S logL = 9 ∧ R = [] ∧ S' = S) ∨ (fnd S logL = 0 ∧ R = scR (cont S logL) ∧ S' = (lcut wrap64 S logL (scU (cont S logL))).2 ∧ (lcut wrap64 S logL (scU (cont S logL))).1 = 0)) (hlen : (cont S logL).length ≤ 35184372088832) :
    Calls Tryz.prog 55 #[.pointer (some ⟨d, 0, none⟩), .string ⟨#[108, 111, 103]⟩] w (Opened B d bs logN w R S') := by
  rcases hf with ⟨h9, rfl, rfl⟩ | ⟨h0, rfl, rfl, hz⟩
  · refine (open_none B d S' bs logN w h (by decide) h9 (by decide)).mono fun e w' ⟨he, hl, hx⟩ => ⟨w.heap.size, none, 0, bs, he, hl, fun hm => by have := (h.lt _ hm).2; omega, Nat.le_refl _, recs_nil w' bs, h.ext hx, Stp.of_ext hx⟩
  · exact open_ok B d S bs logN w _ _ h (by decide) h0 (sc_spec _) hlen hz
/-- A record, where the store turned. -/
theorem recs_get {w6 : World} {A : Option Addr} {c s mb : Nat} {R : List (List UInt8)} {bs : List Nat} {T : TypeId} {a b : Option Addr} {m : Option Nat} {z : Int} {es : Array MapEntry} {clock : Nat} (h : Recs w6 A c R bs) (hrow : Row w6 s T [.pointer a, .pointer b, .map m, .int .i64 z]) (hmap : w6.heap[mb]? = some (.map es clock)) :
    ∀ wr, Keep [s, mb] w6 wr → ∀ k (hk : k < R.length), ∃ ad A' n c', A = some ad ∧ wr.cell? (ad.add k) = some (.slice A' n c') ∧ R[k].length = n ∧ n ≤ c' ∧ c' ≤ maxLen ∧ Rd wr A' (R[k].map bv) := fun wr hkp k hk => by
  obtain ⟨vs, hr, ha, _⟩ := h.rd
  have hkv : k < vs.length := by rw [ha.len]; exact hk
  obtain ⟨ad, rfl, hc⟩ := hr k vs[k] (List.getElem?_eq_getElem hkv)
  obtain ⟨A', n, c', e, h1, h2, h3, h4, _⟩ := AllB.get ha k hkv hk
  rw [e] at hc
  have hb : (ad.add k).block ∉ [s, mb] := fun hm => by
    simp only [List.mem_cons, List.not_mem_nil, or_false] at hm
    rcases hm with hm | hm
    · exact cell_not_row hrow hc (by simp) hm
    · exact cell_not_map hmap hc hm
  refine ⟨ad, A', n, c', rfl, hkp.cell hc hb, h1, h2, h3, ?_⟩
  rcases hq : R[k] with _ | ⟨x, y⟩
  · exact Rd.nil_
  · rw [hq] at h4
    obtain ⟨ad', rfl, h5⟩ := h4 0 (bv x) rfl
    refine hkp.rd h4 fun hm => ?_
    simp only [List.mem_cons, List.not_mem_nil, or_false] at hm
    rw [← add_block ad' 0] at hm
    rcases hm with hm | hm
    · exact cell_not_row hrow h5 (by simp [bv]) hm
    · exact cell_not_map hmap h5 hm
end Go.Proofs.YtjnbbfhoegeppaaGreatDoor
end
section
/-
  Walks of the store: it is opened.
-/
set_option linter.unusedSimpArgs false
set_option linter.unusedVariables false
namespace Go.Cv.Kv
open Go Go.Cv.Dk Go.Cv.Wal
/-- How far an opening went through the records. -/
structure OProg (K0 : KS) (R : List (List UInt8)) (k : Nat) (last : Option Nat) (K : KS) : Prop where
  eq : opnR none K0 R = opnR last K (R.drop k)
  le : ∀ l, last = some l → l ≤ K.n
  n : K.n ≤ K0.n + k
theorem OProg.start (K0 : KS) (R : List (List UInt8)) : OProg K0 R 0 none K0 := ⟨rfl, by simp, Nat.le_refl _⟩
theorem OProg.next {K0 K : KS} {R : List (List UInt8)} {k : Nat} {last : Option Nat} (h : OProg K0 R k last K) (hk : k < R.length) : opnR none K0 R = (opn1 last K R[k]).bind fun x => opnR x.1 x.2 (R.drop (k + 1)) := by
  rw [h.eq, List.drop_eq_getElem_cons hk]
  rfl
theorem OProg.done {K0 K : KS} {R : List (List UInt8)} {last : Option Nat} (h : OProg K0 R R.length last K) : opnR none K0 R = some K := by
  rw [h.eq, List.drop_length]
  rfl
def lz (last : Option Nat) : Int := match last with | none => -1 | some l => (l : Int)
def brk (last : Option Nat) (n c : Nat) : Prop := c < 1 ∨ 9223372036854775808 ≤ c ∨ seqB last n c = true
instance (last : Option Nat) (n c : Nat) : Decidable (brk last n c) := by unfold brk; infer_instance
theorem opn1_none {last : Option Nat} {K : KS} {r : List UInt8} (h : batD r = none) : opn1 last K r = none := by unfold opn1; rw [h]; rfl
theorem opn1_brk {last : Option Nat} {K : KS} {r : List UInt8} {z : Nat × List PW} (h : batD r = some z) (hb : brk last K.n z.1) : opn1 last K r = none := by
  unfold opn1
  rw [h]
  exact if_pos hb
theorem opn1_go {last : Option Nat} {K : KS} {r : List UInt8} {z : Nat × List PW} (h : batD r = some z) (hb : ¬ brk last K.n z.1) : opn1 last K r = some (some z.1, if K.n < z.1 then doB K z.2 else K) := by
  unfold opn1
  rw [h]
  exact if_neg hb
theorem OProg.step {K0 K : KS} {R : List (List UInt8)} {k : Nat} {last : Option Nat} (h : OProg K0 R k last K) (hk : k < R.length) {z : Nat × List PW} (hz : batD R[k] = some z) (hb : ¬ brk last K.n z.1) : OProg K0 R (k + 1) (some z.1) (if K.n < z.1 then doB K z.2 else K) := by
  have hle : z.1 ≤ K.n + 1 := by
    unfold brk seqB at hb
    rcases last with _ | l
    · simp at hb; omega
    · have := h.le l rfl
      simp at hb; omega
  refine ⟨by rw [h.next hk, opn1_go hz hb]; rfl, fun l e => ?_, ?_⟩
  · injection e with e
    subst e
    split
    · show z.1 ≤ K.n + 1; exact hle
    · omega
  · have := h.n
    split
    · show K.n + 1 ≤ _; omega
    · omega
theorem wrap64_lo {c : Nat} (h : c < 9223372036854775808) : IntKind.i64.wrap (c : Int) = c := IntWalk.i64_in _ (by omega)
theorem wrap64_hi {c : Nat} (h : 9223372036854775808 ≤ c) (h2 : c < 18446744073709551616) : IntKind.i64.wrap (c : Int) = (c : Int) - 18446744073709551616 := by
  simp [IntKind.wrap, IntKind.bits, IntKind.signed]
  omega
/-- The program's test of a count. -/
theorem brk_eq {last : Option Nat} {n c : Nat} {cw : Int} (hc : c < 18446744073709551616) (hcw : cw = IntKind.i64.wrap (c : Int)) (hl : ∀ l, last = some l → l ≤ n) :
    ((decide (lz last ≥ 0) && (IntKind.i64.wrap (cw - 1) != lz last)) || (decide (IntKind.i64.wrap (cw - 1) > (n : Int)) || decide (cw < 1))) = decide (brk last n c) := by
  rcases Nat.lt_or_ge c 9223372036854775808 with h | h
  · rw [wrap64_lo h] at hcw
    subst hcw
    have e : IntKind.i64.wrap ((c : Int) - 1) = (c : Int) - 1 := IntWalk.i64_in _ (by omega)
    rw [e]
    rcases last with _ | l
    · have e1 : decide (lz none ≥ 0) = false := rfl
      rw [e1, Bool.false_and, Bool.false_or]
      by_cases h1 : c < 1
      · rw [decide_eq_true (p := (c : Int) < 1) (by omega), Bool.or_true, decide_eq_true (.inl h1)]
      · rw [decide_eq_false (p := (c : Int) < 1) (by omega), Bool.or_false]
        by_cases h2 : n + 1 < c
        · rw [decide_eq_true (by omega), decide_eq_true (.inr (.inr (decide_eq_true h2)))]
        · rw [decide_eq_false (by omega), decide_eq_false]
          unfold brk seqB
          simp
          omega
    · have hln := hl l rfl
      have e1 : decide (lz (some l) ≥ 0) = true := decide_eq_true (by unfold lz; simp)
      have e2 : ((c : Int) - 1 != lz (some l)) = decide (c ≠ l + 1) := by
        unfold lz
        by_cases h2 : c = l + 1
        · subst h2; simp
        · rw [decide_eq_true h2]; simp; omega
      rw [e1, Bool.true_and, e2]
      by_cases h2 : c = l + 1
      · subst h2
        have e3 : decide (l + 1 ≠ l + 1) = false := by simp
        rw [e3, Bool.false_or, decide_eq_false (p := ((l + 1 : Nat) : Int) - 1 > (n : Int)) (by omega), decide_eq_false (p := ((l + 1 : Nat) : Int) < 1) (by omega), decide_eq_false]
        · rfl
        · unfold brk seqB
          simp
          omega
      · rw [decide_eq_true h2, Bool.true_or, decide_eq_true]
        exact .inr (.inr (by unfold seqB; simpa using h2))
  · rw [wrap64_hi h hc] at hcw
    rw [decide_eq_true (p := cw < 1) (by omega), Bool.or_true, Bool.or_true, decide_eq_true (.inr (.inl h))]
theorem snp_n {r : List UInt8} {K : KS} (h : snpD r = some K) : K.n ≤ 4611686018427387904 := by
  unfold snpD at h
  simp only [Option.bind_eq_some_iff] at h
  obtain ⟨x, _, y, _, z, _, h⟩ := h
  split at h
  · rename_i h2
    injection h with h
    rw [← h]
    exact h2.2
  · cases h
theorem prsD_len : ∀ {n : Nat} {last b : List UInt8} {z : List PP × List UInt8}, prsD n last b = some z → z.1.length = n
  | 0, _, b, z, h => by simp [prsD] at h; rw [← h]; rfl
  | n + 1, _, b, z, h => by
    simp only [prsD, Option.bind_eq_some_iff, Option.map_eq_some_iff] at h
    obtain ⟨x, _, y, hy, rfl⟩ := h
    simp [prsD_len hy]
theorem nm_bd {n : Nat} {b : List UInt8} {z : Nat × List UInt8} (h : nm n b = some z) : z.1 < 256 ^ n := by
  rw [nm_S] at h
  split at h
  · cases h
  · injection h with h
    rw [← h]
    exact num_bd (tkS_len n b).1
theorem snp_l {r : List UInt8} {K : KS} (h : snpD r = some K) : K.l.length < 4294967296 := by
  unfold snpD at h
  simp only [Option.bind_eq_some_iff] at h
  obtain ⟨x, _, y, hy, z, hz, h⟩ := h
  split at h
  · injection h with h
    rw [← h]
    have h1 := prsD_len hz
    have h2 := nm_bd hy
    have h3 : (256 : Nat) ^ 4 = 4294967296 := by decide
    show z.1.length < _
    omega
  · cases h
theorem bat_l {r : List UInt8} {z : Nat × List PW} (h : batD r = some z) : z.2.length ≤ 4096 ∧ z.1 < 18446744073709551616 := by
  unfold batD at h
  simp only [Option.bind_eq_some_iff] at h
  obtain ⟨x, hx, y, hy, u, hu, h⟩ := h
  split at h
  · rename_i h2
    injection h with h
    rw [← h]
    refine ⟨by show u.1.length ≤ _; rw [wrtsD_len hu]; exact h2.2.2, ?_⟩
    have := nm_bd hx
    have h3 : (256 : Nat) ^ 8 = 18446744073709551616 := by decide
    show x.1 < _
    omega
  · cases h
theorem snpF_some {b : List UInt8} {K : KS} (h : snpF b = some K) : K.n ≤ 4611686018427387904 ∧ K.l.length < 4294967296 := by
  unfold snpF at h
  simp only [Option.bind_eq_some_iff] at h
  obtain ⟨r, _, h⟩ := h
  split at h
  · exact ⟨snp_n h, snp_l h⟩
  · cases h
end Go.Cv.Kv
namespace Go.Proofs.YtjnbbfhoegeppaaGreatDoor
open Go.RowKit Go.Cv Go.Cv.Dk Go.Cv.Wal Go.Cv.Kv
/-- What an opening gives. -/
def Opens (w : World) (B d : Nat) (bs : List Nat) (S' : DS) (o : Option KS) (e : Ending) (w' : World) : Prop :=
  (∃ K s bs' cs', o = some K ∧ e = .returned (.tuple #[.pointer (some ⟨s, 0, none⟩), .nilIface]) ∧ Both w' B d s S' K bs' cs' ∧ Stp bs bs' w w' ∧ ∀ x ∈ cs', w.heap.size ≤ x) ∨
  (o = none ∧ e = .returned (.tuple #[.pointer none, .iface 48 (.int .i64 13)]) ∧ DN w B d bs S' w')
def W0 (w : World) (d : Nat) : World := (w.alloc (.map #[] 0)).alloc (.cells #[.pointer (some ⟨d, 0, none⟩), .pointer none, .map (some w.heap.size), .int .i64 0] 78)
theorem w0_ext (w : World) (d : Nat) : Ext w (W0 w d) := (ext_alloc _ _).trans (ext_alloc _ _)
theorem w0_size (w : World) (d : Nat) : (W0 w d).heap.size = w.heap.size + 2 := by unfold W0; simp
theorem w0_pre {w : World} {B d : Nat} (hB : B ≤ w.heap.size) : PreAt (W0 w d) B (w.heap.size + 1) d w.heap.size 0 [] := by
  have e1 : (w.alloc (.map #[] 0)).heap.size = w.heap.size + 1 := by simp
  refine ⟨?_, (MapV.made w).keep (Keep.of_ext (bs := []) (ext_alloc _ _)) (by simp), by simp, ⟨by omega, by simp⟩, by omega, hB⟩
  have := Row.alloc (w.alloc (.map #[] 0)) [.pointer (some ⟨d, 0, none⟩), .pointer none, .map (some w.heap.size), .int .i64 0] 78
  rw [e1] at this
  exact this
end Go.Proofs.YtjnbbfhoegeppaaGreatDoor
end
