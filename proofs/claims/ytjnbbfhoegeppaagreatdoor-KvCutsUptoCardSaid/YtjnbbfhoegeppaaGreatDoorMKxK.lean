/-
  KvCuts: what its steps make.
-/
import Derived.Test.YtjnbbfhoegeppaaGreatDoorMKxJ
import Derived.Test.YtjnbbfhoegeppaaGreatDoorMDkO
set_option linter.unusedSimpArgs false
set_option linter.unusedVariables false
namespace Go.Cv.Kv
open Go Go.Cv.Dk Go.Cv.Wal
/-- Behind the power's comings and goings. -/
def Aft (S : DS) (K K2 : KS) (C : Nat) : Prop := Live S K C ∨ Live S K2 C ∨ Dn S K K2 C
theorem Aft.pow {S : DS} {K K2 : KS} {C : Nat} (h : Aft S K K2 C) (keep : Int) : (Dk.pow S keep).bud = -1 ∧ (Dk.pow S keep).room = S.room ∧ (Up (Dk.pow S keep) K C ∨ Up (Dk.pow S keep) K2 C) := by
  rcases h with h | h | h
  · obtain ⟨h1, h2, h3⟩ := h.pow keep
    exact ⟨h1, h2, .inl h3.up⟩
  · obtain ⟨h1, h2, h3⟩ := h.pow keep
    exact ⟨h1, h2, .inr h3.up⟩
  · exact h.pow keep
theorem Live.off {S : DS} {K : KS} {C : Nat} (h : Live S K C) : S.off = false := h.bds.off
end Go.Cv.Kv
namespace Go.Proofs.YtjnbbfhoegeppaaGreatDoor
open Go.RowKit Go.Cv Go.Cv.Dk Go.Cv.Wal Go.Cv.Kv
/-- A store is open. -/
structure LU (w0 w : World) (B d s rb : Nat) (S : DS) (K : KS) (C : Nat) (bs cs : List Nat) : Prop where
  v : LV w0 w B d rb S K C (bs ++ cs)
  both : Both w B d s S K bs cs
  live : Live S K C
/-- The disk alone; two stores of the answer's. -/
structure LD (w0 w : World) (B d rb ra : Nat) (S : DS) (K K2 : KS) (C : Nat) (bs : List Nat) : Prop where
  v : LV w0 w B d rb S K C bs
  dsk : Dsk w B d S bs
  a : Rto w ra K2 bs
  hra : w0.heap.size ≤ ra
theorem Rto.mono {w : World} {r : Nat} {K : KS} {bs cs : List Nat} (h : Rto w r K bs) (hs : ∀ x ∈ cs, x ∈ bs) : Rto w r K cs := by
  obtain ⟨T, c, L, h1, h2⟩ := h
  exact ⟨T, c, L, h1, ⟨fun hm => h2.r (hs _ hm), h2.t.imp id fun h y hy hm => h y hy (hs _ hm), fun x hx => (h2.v x hx).imp id fun h y hy hm => h y hy (hs _ hm)⟩⟩
section
variable {w0 w w' : World} {B d s rb ra : Nat} {S S' : DS} {K K2 Kr : KS} {C : Nat} {bs cs : List Nat}
theorem LU.ext (h : LU w0 w B d s rb S K C bs cs) (hx : Ext w w') : LU w0 w' B d s rb S K C bs cs := ⟨h.v.ext hx, h.both.ext hx, h.live⟩
theorem LD.ext (h : LD w0 w B d rb ra S K K2 C bs) (hx : Ext w w') : LD w0 w' B d rb ra S K K2 C bs := ⟨h.v.ext hx, h.dsk.ext hx, h.a.ext hx, h.hra⟩
theorem LD.move (h : LD w0 w B d rb ra S K K2 C bs) (hd : DN w B d bs S' w') (hr : S'.room = S.room) : ∃ bs', LD w0 w' B d rb ra S' K K2 C bs' := by
  obtain ⟨bs', h1, h2⟩ := hd
  exact ⟨bs', h.v.move h2 (fun x hx => h1.lt x hx) hr h.v.C, h1, h.a.step h2, h.hra⟩
theorem LU.moveD {C' : Nat} (h : LU w0 w B d s rb S K C bs cs) (hd : DN w B d bs S' w') (hl : Live S' K C') (hr : S'.room = S.room) (hC : C' ≤ 6291456) : ∃ bs', LU w0 w' B d s rb S' K C' bs' cs ∧ Stp (bs ++ cs) (bs' ++ cs) w w' := by
  obtain ⟨bs', h1, h2, _⟩ := h.both.onD hd
  exact ⟨bs', ⟨h.v.move h2 (fun x hx => h1.ge x hx) hr hC, h1, hl⟩, h2⟩
theorem cut_ok {n : Int} (h : LU w0 w B d s rb S K C bs cs) (hn : n ≤ 9223372036854775807) :
    Calls Tryz.prog 31 #[.pointer (some ⟨d, 0, none⟩), .int .i64 n] w fun e w' => (∃ v, e = .returned v) ∧ ∃ S' bs', LU w0 w' B d s rb S' K C bs' cs := by
  refine (cut_dk n h.both.dsk hn).mono fun e w' x => ⟨⟨_, x.1⟩, ?_⟩
  obtain ⟨h1, h2⟩ := h.live.cut n
  obtain ⟨bs', h3, _⟩ := h.moveD x.2 h1 h2 h.v.C
  exact ⟨_, bs', h3⟩
theorem on_ok (h : LU w0 w B d s rb S K C bs cs) : Calls Tryz.prog 30 #[.pointer (some ⟨d, 0, none⟩)] w fun e w' => e = .returned (.bool true) ∧ w = w' := by
  refine (on_dk h.both.dsk).mono fun e w' x => ⟨?_, x.2⟩
  rw [x.1, h.live.off]; rfl
/-- A compaction: too long, done, or cut off. -/
theorem lu_compact (h : LU w0 w B d s rb S K C bs cs) :
    (∀ w, Hid (∀ w1, w1 = w → LU w0 w1 B d s rb S K C bs cs → Calls Tryz.prog 15 #[.pointer (some ⟨s, 0, none⟩)] w1 fun e w' => e = .returned (.iface 48 (.int .i64 2)) ∧ ∃ bs' cs', LU w0 w' B d s rb S K C bs' cs' ∧ Stp (bs ++ cs) (bs' ++ cs') w1 w')) ∨
    (∀ w, Hid (∀ w1, w1 = w → LU w0 w1 B d s rb S K C bs cs → Calls Tryz.prog 15 #[.pointer (some ⟨s, 0, none⟩)] w1 fun e w' => e = .returned .nilIface ∧ ∃ S' bs' cs', LU w0 w' B d s rb S' K C bs' cs' ∧ Stp (bs ++ cs) (bs' ++ cs') w1 w')) ∨
    (∀ w, Hid (∀ w1, w1 = w → LU w0 w1 B d s rb S K C bs cs → Calls Tryz.prog 15 #[.pointer (some ⟨s, 0, none⟩)] w1 fun e w' => e = .returned (.iface 48 (.int .i64 11)) ∧ ∃ S' bs' cs', Dn S' K K C ∧ S'.room = S.room ∧ Dsk w' B d S' bs' ∧ Stp (bs ++ cs) (bs' ++ cs') w1 w' ∧ ∀ x ∈ bs' ++ cs', B ≤ x ∧ x < w'.heap.size)) := by
  have hd := h.live.bds
  have hk := hd.n
  have hl := hd.l
  have hg := hd.sn
  have hf := hd.f
  have hC := h.v.C
  have hu := h.live.used
  have key := fun w1 (h : LU w0 w1 B d s rb S K C bs cs) => compact_any B d s S K bs cs w1 h.both (by omega) (by omega) (by omega) (by rw [hd.nw]; simp) (by omega)
  rcases h.live.compact (bump := wrap64) with ⟨h1, h2⟩ | ⟨h1, h2, h3⟩ | ⟨h1, h2, h3, h4⟩
  · refine .inl fun w => Lib.hid fun w1 _ h => (key w1 h).mono fun e w' x => ?_
    rw [h2] at x
    obtain ⟨he, bs', cs', h5, h6⟩ := x
    exact ⟨he, bs', cs', ⟨h.v.move h6 h5.ge rfl h.v.C, h5, h.live⟩, h6⟩
  · exfalso
    rw [frame_length, h.v.room] at h2
    omega
  · rcases h4 with ⟨h5, h6, _⟩ | ⟨h5, _, h6⟩
    · refine .inr (.inl fun w => Lib.hid fun w1 _ h => (key w1 h).mono fun e w' x => ?_)
      rw [h5] at x
      obtain ⟨he, bs', cs', h7, h8⟩ := x
      exact ⟨he, _, bs', cs', ⟨h.v.move h8 h7.ge h3 h.v.C, h7, h6⟩, h8⟩
    · refine .inr (.inr fun w => Lib.hid fun w1 _ h => (key w1 h).mono fun e w' x => ?_)
      rw [h5] at x
      obtain ⟨he, bs', cs', h7, h8⟩ := x
      exact ⟨he, _, bs', cs', h6, h3, h7.dsk, h8, h7.ge⟩
/-- A batch: done, or cut off. -/
theorem lu_apply {P : List PW} (h : LU w0 w B d s rb S K C bs cs) (h0 : P ≠ []) (hm : may0 P = 0) (he : (P.flatMap encW).length ≤ 1572864) (hC : C + (18 + (P.flatMap encW).length) ≤ 6291456) :
    (∃ S', Live S' (doB K P) (C + (18 + (P.flatMap encW).length)) ∧ S'.room = S.room ∧ Hid (∀ w1 wc T n c L, LU w0 w1 B d s rb S K C bs cs → OWst w1 wc T n c L → L.length = n → n ≤ 1048576 → L.map WV.pw = P → Calls Tryz.prog 11 #[.pointer (some ⟨s, 0, none⟩), .slice T n c] wc fun e w' => e = .returned .nilIface ∧ ∃ bs' cs', Both w' B d s S' (doB K P) bs' cs' ∧ Stp (bs ++ cs) (bs' ++ cs') wc w')) ∨
    (∃ S', Dn S' K (doB K P) (C + (18 + (P.flatMap encW).length)) ∧ S'.room = S.room ∧ Hid (∀ w1 wc T n c L, LU w0 w1 B d s rb S K C bs cs → OWst w1 wc T n c L → L.length = n → n ≤ 1048576 → L.map WV.pw = P → Calls Tryz.prog 11 #[.pointer (some ⟨s, 0, none⟩), .slice T n c] wc fun e w' => e = .returned (.iface 48 (.int .i64 11)) ∧ ∃ bs' cs', Both w' B d s S' K bs' cs' ∧ Stp (bs ++ cs) (bs' ++ cs') wc w')) := by
  have hd := h.live.bds
  have hk := hd.n
  have hl := hd.l
  have hg := hd.lg
  have hf := hd.f
  have hC0 := h.v.C
  have hu := h.live.used
  have key := fun w1 wc T n c L (h : LU w0 w1 B d s rb S K C bs cs) (hO : OWst w1 wc T n c L) (hl : L.length = n) (hn : n ≤ 1048576) (hP : L.map WV.pw = P) => by
    have hWs : WsAt wc T L := ⟨fun k v hv => rd_own hO.own k v hv, fun x hx => (hO.V x hx).ok⟩
    have hap : WsAp T L (bs ++ cs) := wsap_new (fun x hx => (h.both.ge x hx).2) (base_le hO.own) (fun x hx y hy => ((hO.V x hx).ty y hy).1)
    have := apply_any B d s S K bs cs T c L wc (h.both.ext hO.E) hWs hap (by omega) (by omega) (by omega) (by rw [hP, recB_ln]; omega) (by omega)
    rw [hP, hl] at this
    exact this
  rcases h.live.apply (bump := wrap64) h0 hm (by rw [recB_ln]; omega) (by omega) with ⟨h1, _⟩ | ⟨_, h2, h3⟩
  · exfalso
    rw [frame_length, recB_ln, h.v.room] at h1
    omega
  · rcases h3 with ⟨h4, h5, h6, _⟩ | ⟨h4, _, h5, h6⟩
    · refine .inl ⟨_, h6, h2, Lib.hid fun w1 wc T n c L h hO hl hn hP => (key w1 wc T n c L h hO hl hn hP).mono fun e w' x => ?_⟩
      rw [h4, h5] at x
      exact ⟨x.1, x.2⟩
    · refine .inr ⟨_, h6, h2, Lib.hid fun w1 wc T n c L h hO hl hn hP => (key w1 wc T n c L h hO hl hn hP).mono fun e w' x => ?_⟩
      rw [h4, h5] at x
      exact ⟨x.1, x.2⟩
end
end Go.Proofs.YtjnbbfhoegeppaaGreatDoor
