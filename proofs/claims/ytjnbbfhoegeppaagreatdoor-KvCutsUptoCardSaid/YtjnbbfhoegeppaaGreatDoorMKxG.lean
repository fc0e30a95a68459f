/-
  KvPlays: what its steps make.
-/
import Derived.Test.YtjnbbfhoegeppaaGreatDoorMKxF
import Derived.Test.YtjnbbfhoegeppaaGreatDoorMKvY
set_option linter.unusedSimpArgs false
set_option linter.unusedVariables false
namespace Go.Cv.Kv
open Go Go.Cv.Dk Go.Cv.Wal
def stepK (K : KS) (P : List PW) : KS := if P = [] ∨ may0 P ≠ 0 then K else doB K P
theorem may0_le (W : List PW) : may0 W ≤ 2 := by
  unfold may0
  split
  · omega
  · split
    · omega
    · split <;> omega
/-- What the two files tell. -/
theorem Live.files {S : DS} {K : KS} {C : Nat} (h : Live S K C) (hC : C ≤ 134217728) : ∃ lg sn, Df S lg sn none ∧ openR (ctF sn) sn.isSome (ctF lg) = some K ∧ (ctF lg).length ≤ 134217728 ∧ (ctF sn).length ≤ 134217728 := by
  obtain ⟨lg, sn, R, h1, h2, h3, h4⟩ := h.ex
  obtain ⟨⟨K0, last, h5, h6, _⟩, _⟩ := h3
  have hR : scR (ctF lg) = R := by
    rcases h2 with ⟨rfl, rfl⟩ | ⟨rfl, h2⟩
    · exact (sc_eq scans_empty).1
    · exact (sc_eq (scans_all h2)).1
  have hl : (ctF lg).length ≤ 134217728 := by rw [ctF_len]; omega
  refine ⟨lg, sn, h1, ?_, hl, by rw [ctF_len]; have := h5.sz; omega⟩
  unfold openR
  rw [hR]
  have ho : opnR none K0 R = some K := by rw [opnR_S, h6]; rfl
  rcases snOk_read h5 (by omega) with ⟨rfl, rfl⟩ | ⟨e1, e2, _⟩
  · exact ho
  · rw [e1, if_pos rfl, e2]
    exact ho
end Go.Cv.Kv
namespace Go.Proofs.YtjnbbfhoegeppaaGreatDoor
open Go.RowKit Go.Cv Go.Cv.Dk Go.Cv.Wal Go.Cv.Kv
theorem kcode_e {m : Nat} (h : m ≤ 2) (w : World) : Calls Tryz.prog 13 #[errV m] w fun e w' => e = .returned (.int .i64 (m : Nat)) ∧ w = w' := by
  match m, h with
  | 0, _ => exact kcode_0 w
  | 1, _ => exact kcode_1 w
  | 2, _ => exact kcode_2 w
section
variable {w0 w w' : World} {B d s rb : Nat} {S : DS} {K Kr : KS} {C : Nat} {bs cs : List Nat}
theorem own2_ok {o : OV} (ho : o.At w0) (hx : Ext w0 w) : Calls Tryz.prog 10 #[.slice o.A o.W.length o.c] w fun e w' => ∃ T c L, e = .returned (.slice T o.W.length c) ∧ OWz w w' T o.W.length c L ∧ L.map WV.pw = o.P ∧ L.length = o.W.length :=
  own2_any o.A o.c o.W w (ho.W.ext hx) ho.n
theorem OWz.rows {T : Option Addr} {n c : Nat} {L : List WV} (h : OWz w w' T n c L) : ∀ y ∈ rowsV L, w.heap.size ≤ y ∧ y < w'.heap.size := fun y hy => by
  obtain ⟨x, hx, hy⟩ := List.mem_flatMap.1 hy
  obtain ⟨cs, hr⟩ := h.z x hx y hy
  exact ⟨((h.V x hx).ty y hy).1, hr.lt⟩
theorem OWz.trow {T : Option Addr} {n c : Nat} {L : List WV} (h : OWz w w' T n c L) : ∀ y ∈ rowOf T, w.heap.size ≤ y := base_le h.own
theorem lw_apply_room {wc : World} {T : Option Addr} {n c : Nat} {L : List WV} {P : List PW} (h : LW w0 w B d s rb S K Kr C bs cs) (hO : OWz w wc T n c L) (hl : L.length = n) (hn : n ≤ 1048576) (hP : L.map WV.pw = P) (he : (P.flatMap encW).length ≤ 1572864) (hC : C + (18 + (P.flatMap encW).length) ≤ 6291456) (hroom : S.room = 1099511627776) :
    Calls Tryz.prog 11 #[.pointer (some ⟨s, 0, none⟩), .slice T n c] wc fun e w' => e = .returned (errV (may0 P)) ∧ ∃ S' bs' cs', S'.room = S.room ∧ LW w0 w' B d s rb S' (stepK K P) Kr (C + (18 + (P.flatMap encW).length)) bs' cs' ∧ Stp (bs ++ cs) (bs' ++ cs') wc w' := by
  have hC0 := h.C
  have hd := h.bl.live.bds
  have hk := hd.n
  have hl2 := hd.l
  have hg := hd.lg
  have hf := hd.f
  by_cases hq : P = [] ∨ may0 P ≠ 0
  · have hWs : WsAt wc T L := ⟨fun k v hv => rd_own hO.own k v hv, fun x hx => (hO.V x hx).ok⟩
    have hap : WsAp T L (bs ++ cs) := wsap_new (fun x hx => (h.bl.both.ge x hx).2) (base_le hO.own) (fun x hx y hy => ((hO.V x hx).ty y hy).1)
    have h' := h.ext hO.E
    subst hl
    subst hP
    refine (apply_any B d s S K bs cs T c L wc h'.bl.both hWs hap hn (by omega) (by omega) (by rw [recB_ln]; omega) (by omega)).mono fun e w' x => ?_
    have e1 : applyP wrap64 S K (L.map WV.pw) = (may0 (L.map WV.pw), S, K) := by
      unfold applyP
      rcases hq with hq | hq
      · rw [if_pos hq, hq]; rfl
      · by_cases h0 : L.map WV.pw = []
        · rw [if_pos h0, h0]; rfl
        · rw [if_neg h0, if_pos hq]
    rw [e1] at x
    obtain ⟨bs', cs', h1, h2⟩ := h'.movedS x.2
    refine ⟨x.1, S, bs', cs', rfl, ?_, h2⟩
    unfold stepK
    rw [if_pos hq]
    exact h1.mono (by omega) hC
  · have h0 : P ≠ [] := fun e => hq (.inl e)
    have hm : may0 P = 0 := by
      rcases Nat.eq_zero_or_pos (may0 P) with h | h
      · exact h
      · exact absurd (.inr (by omega)) hq
    have hu := h.bl.live.used
    refine (lw_apply_ok h hO.st hl hn hP h0 hm he hC (by rw [frame_length, recB_ln, hroom]; omega)).mono fun e w' x => ?_
    obtain ⟨h1, S', bs', cs', h2, h3, h4⟩ := x
    refine ⟨by rw [hm]; exact h1, S', bs', cs', h2, ?_, h4⟩
    unfold stepK
    rw [if_neg hq]
    exact h3
theorem lw_compact_room (h : LW w0 w B d s rb S K Kr C bs cs) (h1 : (snpB K).length ≤ 2097152) (hroom : S.room = 1099511627776) :
    Calls Tryz.prog 15 #[.pointer (some ⟨s, 0, none⟩)] w fun e w' => e = .returned .nilIface ∧ ∃ S' bs' cs', S'.room = S.room ∧ fnd S' snL = 0 ∧ cont S' snL = frame (snpB K) ∧ LW w0 w' B d s rb S' K Kr C bs' cs' ∧ Stp (bs ++ cs) (bs' ++ cs') w w' := by
  have hu := h.bl.live.used
  have hC := h.C
  exact lw_compact_ok h h1 (by rw [frame_length, hroom]; omega)
theorem lw_read_sn {l : List UInt8} (h : LW w0 w B d s rb S K Kr C bs cs) (hf : fnd S snL = 0) (hc : cont S snL = l) :
    Calls Tryz.prog 18 #[.pointer (some ⟨d, 0, none⟩), .string ⟨#[115, 110, 97, 112]⟩] w fun e w' => ∃ A c, e = .returned (.tuple #[.slice A l.length c, .nilIface]) ∧ Ext w w' ∧ ArgB w' A l.length c l := by
  subst hc
  refine (read_dk ⟨#[115, 110, 97, 112]⟩ h.bl.both.dsk (by decide) hf).mono fun e w' x => ?_
  obtain ⟨v, he, A, c, rfl, h1, h2, h3, h4, h5⟩ := x
  exact ⟨A, c, he, h1, rfl, h3, h4, h5⟩
theorem lw_read_log {l : List UInt8} (h : LW w0 w B d s rb S K Kr C bs cs) (hf : fnd S logL = 0) (hc : cont S logL = l) :
    Calls Tryz.prog 18 #[.pointer (some ⟨d, 0, none⟩), .string ⟨#[108, 111, 103]⟩] w fun e w' => ∃ A c, e = .returned (.tuple #[.slice A l.length c, .nilIface]) ∧ Ext w w' ∧ ArgB w' A l.length c l := by
  subst hc
  refine (read_dk ⟨#[108, 111, 103]⟩ h.bl.both.dsk (by decide) hf).mono fun e w' x => ?_
  obtain ⟨v, he, A, c, rfl, h1, h2, h3, h4, h5⟩ := x
  exact ⟨A, c, he, h1, rfl, h3, h4, h5⟩
theorem lw_no_sn (h : LW w0 w B d s rb S K Kr C bs cs) (hf : fnd S snL = 9) :
    Calls Tryz.prog 18 #[.pointer (some ⟨d, 0, none⟩), .string ⟨#[115, 110, 97, 112]⟩] w fun e w' => e = .returned (.tuple #[.slice none 0 0, .iface 48 (.int .i64 9)]) ∧ w = w' := by
  have := read_bad_dk B d S bs ⟨#[115, 110, 97, 112]⟩ w h.bl.both.dsk (by decide) (by show fnd S snL ≠ 0; omega)
  rw [show fnd S (ByteArray.mk #[115, 110, 97, 112]).data.toList = 9 from hf] at this
  exact this
theorem lw_no_log (h : LW w0 w B d s rb S K Kr C bs cs) (hf : fnd S logL = 9) :
    Calls Tryz.prog 18 #[.pointer (some ⟨d, 0, none⟩), .string ⟨#[108, 111, 103]⟩] w fun e w' => e = .returned (.tuple #[.slice none 0 0, .iface 48 (.int .i64 9)]) ∧ w = w' := by
  have := read_bad_dk B d S bs ⟨#[108, 111, 103]⟩ w h.bl.both.dsk (by decide) (by show fnd S logL ≠ 0; omega)
  rw [show fnd S (ByteArray.mk #[108, 111, 103]).data.toList = 9 from hf] at this
  exact this
theorem argB_none (w : World) : ArgB w none 0 0 [] := ⟨rfl, Nat.le_refl _, Nat.zero_le _, Rd.nil_⟩
theorem ropen_files (A1 : Option Addr) (n1 c1 : Nat) (sb : List UInt8) (has : Bool) (A2 : Option Addr) (n2 c2 : Nat) (lb : List UInt8) (K : KS) (h1 : ArgB w A1 n1 c1 sb) (h2 : ArgB w A2 n2 c2 lb) (b1 : sb.length ≤ 134217728) (b2 : lb.length ≤ 134217728) (hs : has = false → sb = []) (ho : openR sb has lb = some K) :
    Calls Tryz.prog 25 #[.slice A1 n1 c1, .bool has, .slice A2 n2 c2] w fun e w' => ∃ r, e = .returned (.tuple #[.pointer (some ⟨r, 0, none⟩), .int .i64 0]) ∧ Ext w w' ∧ Rto w' r K [] := by
  have e1 := h1.len
  have e2 := h2.len
  have key : Calls Tryz.prog 25 #[.slice A1 n1 c1, .bool has, .slice A2 n2 c2] w (ROpens w [] (some K)) := by
    rw [← ho]
    rcases has with _ | _
    · rw [hs rfl]
      exact ropen_no [] _ A2 n2 c2 lb w h2.len h2.le h2.max h2.rd (rows_lt h2.rd (Ext.refl w)) (by simp) (by omega)
    · exact ropen_yes [] A1 n1 c1 sb A2 n2 c2 lb w h1.len h1.le h1.max h1.rd (rows_lt h1.rd (Ext.refl w)) (by omega) h2.len h2.le h2.max h2.rd (rows_lt h2.rd (Ext.refl w)) (by simp) (by omega)
  exact key.mono fun e w' x => by
    obtain ⟨hx, r, he, hr, _⟩ := x
    exact ⟨r, he, hx, hr⟩
theorem stands_new {r : Nat} {w1 : World} (h : LW w0 w B d s rb S K Kr C bs cs) (hx : Ext w w1) (hr : Rto w1 r K []) :
    Calls Tryz.prog 24 #[.pointer (some ⟨s, 0, none⟩), .pointer (some ⟨r, 0, none⟩)] w1 fun e w' => e = .returned (.bool true) ∧ Ext w1 w' := by
  have hC := h.C
  have h2 := h.bl.live.bds.l
  exact stands_self (h.bl.both.sto.ext hx) hr (by omega)
theorem lw_get {k : ByteArray} {l : List UInt8} {b : Bool} {n : Nat} (h : LW w0 w B d s rb S K Kr C bs cs) (hk : k.size ≤ 281474976710656) (hl : getK K.l k.data.toList = l) (hb : (fndK K.l k.data.toList).isSome = b) (hn : l.length = n) :
    Calls Tryz.prog 20 #[.pointer (some ⟨s, 0, none⟩), .string k] w fun e w' => ∃ A c, e = .returned (.tuple #[.slice A n c, .bool b]) ∧ Ext w w' ∧ Rd w' A (l.map bv) := by
  subst hl
  subst hb
  subst hn
  refine (get_any B s d K cs k w h.bl.both.sto hk).mono fun e w' x => ?_
  obtain ⟨v, he, A, c, rfl, h1, h2, h3, h4, h5⟩ := x
  exact ⟨A, c, he, h1, h5⟩
theorem lw_rget {k : ByteArray} {l : List UInt8} {b : Bool} {n : Nat} (h : LW w0 w B d s rb S K K C bs cs) (hl : getK K.l k.data.toList = l) (hb : (fndK K.l k.data.toList).isSome = b) (hn : l.length = n) :
    Calls Tryz.prog 21 #[.pointer (some ⟨rb, 0, none⟩), .string k] w fun e w' => (∃ A c, e = .returned (.tuple #[.slice A n c, .bool b]) ∧ Rd w' A (l.map bv)) ∧ w = w' := by
  subst hl
  subst hb
  subst hn
  have hC := h.C
  have h2 := h.bl.live.bds.l
  refine (rget_any rb K _ k w h.r (by omega)).mono fun e w' x => ?_
  obtain ⟨⟨A, n, c, he, hn, h1, _⟩, h3⟩ := x
  subst hn
  exact ⟨⟨A, c, he, h1⟩, h3⟩
theorem lw_keys {k : ByteArray} {l : List (List UInt8)} {n : Nat} (h : LW w0 w B d s rb S K Kr C bs cs) (hl : keysK K.l k.data.toList = l) (hn : l.length = n) :
    Calls Tryz.prog 22 #[.pointer (some ⟨s, 0, none⟩), .string k] w fun e w' => ∃ A c, e = .returned (.slice A n c) ∧ w'.ownsRow w.heap.size 9 1 (.slice A n c) n (l.map fun k => .string ⟨k.toArray⟩) ∧ Ext w w' := by
  subst hl
  subst hn
  have hC := h.C
  have h2 := h.bl.live.bds.l
  exact keys_any B s d K cs k w h.bl.both.sto (by omega)
theorem lw_rkeys {k : ByteArray} {l : List (List UInt8)} {n : Nat} (h : LW w0 w B d s rb S K K C bs cs) (hl : keysK K.l k.data.toList = l) (hn : l.length = n) :
    Calls Tryz.prog 23 #[.pointer (some ⟨rb, 0, none⟩), .string k] w fun e w' => ∃ A c, e = .returned (.slice A n c) ∧ w'.ownsRow w.heap.size 9 1 (.slice A n c) n (l.map fun k => .string ⟨k.toArray⟩) ∧ Ext w w' := by
  subst hl
  subst hn
  have hC := h.C
  have h2 := h.bl.live.bds.l
  exact rkeys_any rb K _ k w h.r (by omega)
end
end Go.Proofs.YtjnbbfhoegeppaaGreatDoor
