/-
  The laws' states: a disk, a store on it, the answer's store; what each step makes of them.
-/
import Derived.Test.YtjnbbfhoegeppaaGreatDoorMKxB
import Derived.Test.YtjnbbfhoegeppaaGreatDoorMKxO
import Derived.Test.YtjnbbfhoegeppaaGreatDoorMKvY
set_option linter.unusedSimpArgs false
set_option linter.unusedVariables false
namespace Go.Cv.Kv
open Go Go.Cv.Dk Go.Cv.Wal
theorem Live.fnd_nw {S : DS} {K : KS} {C : Nat} (h : Live S K C) : fnd S nwL = 9 := by
  obtain ⟨lg, sn, R, h1, _⟩ := h.ex
  exact h1.fnd_nw
end Go.Cv.Kv
namespace Go.Proofs.YtjnbbfhoegeppaaGreatDoor
open Go.RowKit Go.Cv Go.Cv.Dk Go.Cv.Wal Go.Cv.Kv
theorem kcode_neq (w : World) (a b : Int) : (binOp .neq 38 (.iface 48 (.int .i64 a)) (.iface 48 (.int .i64 b))).run Tryz.prog w = .ok (.bool (a != b)) w := by
  rcases hf : Tryz.prog.info? 48 with _ | i
  · have := kcodeinf; rw [hf] at this; cases this
  · have hc : i.comparable = true := by have := kcodeinf; rw [hf] at this; simpa using this
    simp only [binOp]
    simp [Op.equal, Op.maxDepth, run_equalIn_iface_int w 9998 a b Tryz.underlying38 Tryz.underlying48 hf hc, bne]
structure LW (w0 w : World) (B d s rb : Nat) (S : DS) (K Kr : KS) (C : Nat) (bs cs : List Nat) : Prop where
  bl : BL w B d s S K C bs cs
  r : Rto w rb Kr (bs ++ cs)
  x : Ext w0 w
  B : w0.heap.size ≤ B
  rb : w0.heap.size ≤ rb
  bud : S.bud = -1
  C : C ≤ 6291456
def LWN (w0 : World) (B d s rb : Nat) (S : DS) (K Kr : KS) (C : Nat) (w' : World) : Prop := ∃ bs cs, LW w0 w' B d s rb S K Kr C bs cs
section
variable {w0 w w' : World} {B d s rb : Nat} {S : DS} {K Kr : KS} {C : Nat} {bs cs : List Nat}
theorem LW.ext (h : LW w0 w B d s rb S K Kr C bs cs) (hx : Ext w w') : LW w0 w' B d s rb S K Kr C bs cs := ⟨h.bl.ext hx, h.r.ext hx, h.x.trans hx, h.B, h.rb, h.bud, h.C⟩
theorem LW.move {s' : Nat} {S' : DS} {K' : KS} {C' : Nat} {bs' cs' : List Nat} (h : LW w0 w B d s rb S K Kr C bs cs) (hb : BL w' B d s' S' K' C' bs' cs') (hs : Stp (bs ++ cs) (bs' ++ cs') w w') (hbud : S'.bud = -1) (hC : C' ≤ 6291456) : LW w0 w' B d s' rb S' K' Kr C' bs' cs' :=
  ⟨hb, h.r.step hs, ext_keep h.x hs.k fun x hx => Nat.le_trans h.B (h.bl.both.ge x hx).1, h.B, h.rb, hbud, hC⟩
theorem LW.moved (h : LW w0 w B d s rb S K Kr C bs cs) (hb : BN w B d s bs cs S K w') : LWN w0 B d s rb S K Kr C w' := by
  obtain ⟨bs', cs', h1, h2⟩ := hb
  exact ⟨bs', cs', h.move ⟨h1, h.bl.live⟩ h2 h.bud h.C⟩
theorem LW.mono {C' : Nat} (h : LW w0 w B d s rb S K Kr C bs cs) (hc : C ≤ C') (hC : C' ≤ 6291456) : LW w0 w B d s rb S K Kr C' bs cs := ⟨⟨h.bl.both, h.bl.live.mono hc⟩, h.r, h.x, h.B, h.rb, h.bud, hC⟩
theorem LW.start (h : BL w B d s S emptyK C bs cs) (hx : Ext w0 w) (hB : w0.heap.size ≤ B) (hbud : S.bud = -1) (hC : C ≤ 6291456) :
    LW w0 (w.alloc (.cells #[.slice none 0 0, .int .i64 0] 31)) B d s w.heap.size S emptyK emptyK C bs cs := by
  have hx0 := ext_alloc w (.cells #[.slice none 0 0, .int .i64 0] 31)
  have hrow0 : Row (w.alloc (.cells #[.slice none 0 0, .int .i64 0] 31)) w.heap.size 31 [.slice none 0 0, .int .i64 0] := Row.alloc w _ _
  exact ⟨h.ext hx0, ⟨none, 0, [], ⟨hrow0, Rd.nil_, by simp, rfl, List.Pairwise.nil⟩, ⟨fun hm => by have := (h.both.ge _ hm).2; omega, .inl rfl, by simp⟩⟩, hx.trans hx0, hB, hx.size, hbud, hC⟩
theorem LW.cnt (h : LW w0 w B d s rb S K Kr C bs cs) : w.cell? ⟨rb, 1, none⟩ = some (.int .i64 Kr.n) := by
  obtain ⟨T, c, L, h, _⟩ := h.r
  exact h.row.cell (i := 1) (by simp)
theorem lw_used (h : LW w0 w B d s rb S K Kr C bs cs) :
    Calls Tryz.prog 28 #[.pointer (some ⟨d, 0, none⟩)] w fun e w' => e = .returned (.int .i64 (used S.l : Nat)) ∧ Ext w w' := by
  obtain ⟨mb, L, hD, rfl⟩ := h.bl.both.dsk
  exact used_any B d mb S L w hD
theorem LW.movedS (h : LW w0 w B d s rb S K Kr C bs cs) (hb : BN w B d s bs cs S K w') : ∃ bs' cs', LW w0 w' B d s rb S K Kr C bs' cs' ∧ Stp (bs ++ cs) (bs' ++ cs') w w' := by
  obtain ⟨bs', cs', h1, h2⟩ := hb
  exact ⟨bs', cs', h.move ⟨h1, h.bl.live⟩ h2 h.bud h.C, h2⟩
theorem lw_used' {u : Nat} (h : LW w0 w B d s rb S K Kr C bs cs) (hu : used S.l = u) :
    Calls Tryz.prog 28 #[.pointer (some ⟨d, 0, none⟩)] w fun e w' => e = .returned (.int .i64 u) ∧ Ext w w' := hu ▸ lw_used h
theorem lw_compact_long (h : LW w0 w B d s rb S K Kr C bs cs) (h1 : 2097152 < (snpB K).length) :
    Calls Tryz.prog 15 #[.pointer (some ⟨s, 0, none⟩)] w fun e w' => e = .returned (.iface 48 (.int .i64 2)) ∧ ∃ bs' cs', LW w0 w' B d s rb S K Kr C bs' cs' ∧ Stp (bs ++ cs) (bs' ++ cs') w w' := by
  have hC := h.C
  refine (compact_live B d s S K C bs cs w h.bl (by omega) h.bud).mono fun e w' x => ?_
  rcases x with ⟨_, h2, h3⟩ | ⟨h4, _⟩ | ⟨h4, _⟩
  · exact ⟨h2, h.movedS h3⟩
  · exact absurd h4 (by omega)
  · exact absurd h4 (by omega)
theorem lw_compact_full (h : LW w0 w B d s rb S K Kr C bs cs) (h1 : (snpB K).length ≤ 2097152) (h2 : ((frame (snpB K)).length : Int) > S.room - used S.l) :
    Calls Tryz.prog 15 #[.pointer (some ⟨s, 0, none⟩)] w fun e w' => e = .returned (.iface 48 (.int .i64 12)) ∧ ∃ bs' cs', LW w0 w' B d s rb S K Kr C bs' cs' ∧ Stp (bs ++ cs) (bs' ++ cs') w w' := by
  have hC := h.C
  refine (compact_live B d s S K C bs cs w h.bl (by omega) h.bud).mono fun e w' x => ?_
  rcases x with ⟨h4, _⟩ | ⟨_, _, h3, h4⟩ | ⟨_, h4, _⟩
  · exact absurd h4 (by omega)
  · exact ⟨h3, h.movedS h4⟩
  · exact absurd h2 h4
theorem lw_compact_ok (h : LW w0 w B d s rb S K Kr C bs cs) (h1 : (snpB K).length ≤ 2097152) (h2 : ((frame (snpB K)).length : Int) ≤ S.room - used S.l) :
    Calls Tryz.prog 15 #[.pointer (some ⟨s, 0, none⟩)] w fun e w' => e = .returned .nilIface ∧ ∃ S' bs' cs', S'.room = S.room ∧ fnd S' snL = 0 ∧ cont S' snL = frame (snpB K) ∧ LW w0 w' B d s rb S' K Kr C bs' cs' ∧ Stp (bs ++ cs) (bs' ++ cs') w w' := by
  have hC := h.C
  refine (compact_live B d s S K C bs cs w h.bl (by omega) h.bud).mono fun e w' x => ?_
  rcases x with ⟨h4, _⟩ | ⟨_, h4, _⟩ | ⟨_, _, h3, S', bs', cs', h4, h5, h6, h7, h8, h9⟩
  · exact absurd h4 (by omega)
  · exact absurd h4 (by omega)
  · exact ⟨h3, S', bs', cs', h5, h7, h8, h.move h4 h9 h6 h.C, h9⟩
theorem lw_snap' {sl : Nat} (h : LW w0 w B d s rb S K K C bs cs) (hs : (snpB K).length = sl) : Calls Tryz.prog 16 #[.pointer (some ⟨rb, 0, none⟩)] w (RetBytes w sl (snpB K)) := by
  have hC := h.C
  have hd := h.bl.live.bds
  have h1 := hd.n
  have h2 := hd.l
  have h3 := hd.sn
  rw [← hs]
  exact rsnap_any rb K _ w h.r (by omega) (by omega) (fun p hp => (hd.ok.len p hp).2) (by omega)
theorem lw_apply {wc : World} {T : Option Addr} {n c : Nat} {L : List WV} {P : List PW} (h : LW w0 w B d s rb S K Kr C bs cs) (hO : OWst w wc T n c L) (hl : L.length = n) (hn : n ≤ 1048576) (hP : L.map WV.pw = P) (h0 : P ≠ []) (hm : may0 P = 0) (he : (P.flatMap encW).length ≤ 1572864) (hC : C + (18 + (P.flatMap encW).length) ≤ 6291456) :
    Calls Tryz.prog 11 #[.pointer (some ⟨s, 0, none⟩), .slice T n c] wc fun e w' =>
      (((frame (recB (K.n + 1) P)).length : Int) > S.room - used S.l ∧ e = .returned (.iface 48 (.int .i64 12)) ∧ ∃ bs' cs', LW w0 w' B d s rb S K Kr C bs' cs' ∧ Stp (bs ++ cs) (bs' ++ cs') wc w') ∨
      (¬ ((frame (recB (K.n + 1) P)).length : Int) > S.room - used S.l ∧ e = .returned .nilIface ∧ ∃ S' bs' cs', S'.room = S.room ∧ LW w0 w' B d s rb S' (doB K P) Kr (C + (18 + (P.flatMap encW).length)) bs' cs' ∧ Stp (bs ++ cs) (bs' ++ cs') wc w') := by
  subst hP
  subst hl
  have hC0 := h.C
  have hWs : WsAt wc T L := ⟨fun k v hv => rd_own hO.own k v hv, fun x hx => (hO.V x hx).ok⟩
  have hap : WsAp T L (bs ++ cs) := wsap_new (fun x hx => (h.bl.both.ge x hx).2) (base_le hO.own) (fun x hx y hy => ((hO.V x hx).ty y hy).1)
  have h' := h.ext hO.E
  refine (apply_live B d s S K C bs cs T c L wc h'.bl (by omega) h.bud hWs hap hn h0 hm (by rw [recB_ln]; omega)).mono fun e w' x => ?_
  rcases x with ⟨h1, h2, h3⟩ | ⟨h1, h2, S', bs', cs', h4, h5, h6, h7⟩
  · exact .inl ⟨h1, h2, h'.movedS h3⟩
  · exact .inr ⟨h1, h2, S', bs', cs', h5, h'.move h4 h7 (h6 h.bud) hC, h7⟩
theorem lw_apply_full {wc : World} {T : Option Addr} {n c : Nat} {L : List WV} {P : List PW} (h : LW w0 w B d s rb S K Kr C bs cs) (hO : OWst w wc T n c L) (hl : L.length = n) (hn : n ≤ 1048576) (hP : L.map WV.pw = P) (h0 : P ≠ []) (hm : may0 P = 0) (he : (P.flatMap encW).length ≤ 1572864) (hC : C + (18 + (P.flatMap encW).length) ≤ 6291456)
    (h2 : ((frame (recB (K.n + 1) P)).length : Int) > S.room - used S.l) :
    Calls Tryz.prog 11 #[.pointer (some ⟨s, 0, none⟩), .slice T n c] wc fun e w' => e = .returned (.iface 48 (.int .i64 12)) ∧ ∃ bs' cs', LW w0 w' B d s rb S K Kr C bs' cs' ∧ Stp (bs ++ cs) (bs' ++ cs') wc w' :=
  (lw_apply h hO hl hn hP h0 hm he hC).mono fun e w' x => (x.resolve_right fun y => y.1 h2).2
theorem lw_apply_ok {wc : World} {T : Option Addr} {n c : Nat} {L : List WV} {P : List PW} (h : LW w0 w B d s rb S K Kr C bs cs) (hO : OWst w wc T n c L) (hl : L.length = n) (hn : n ≤ 1048576) (hP : L.map WV.pw = P) (h0 : P ≠ []) (hm : may0 P = 0) (he : (P.flatMap encW).length ≤ 1572864) (hC : C + (18 + (P.flatMap encW).length) ≤ 6291456)
    (h2 : ((frame (recB (K.n + 1) P)).length : Int) ≤ S.room - used S.l) :
    Calls Tryz.prog 11 #[.pointer (some ⟨s, 0, none⟩), .slice T n c] wc fun e w' => e = .returned .nilIface ∧ ∃ S' bs' cs', S'.room = S.room ∧ LW w0 w' B d s rb S' (doB K P) Kr (C + (18 + (P.flatMap encW).length)) bs' cs' ∧ Stp (bs ++ cs) (bs' ++ cs') wc w' :=
  (lw_apply h hO hl hn hP h0 hm he hC).mono fun e w' x => (x.resolve_left fun y => absurd y.1 (by omega)).2
theorem lw_do {A : Option Addr} {c : Nat} {W : List WV} (h : LW w0 w B d s rb S K Kr C bs cs) (hW : WsAt w0 A W) (hn : W.length ≤ 1048576) (hl : Kr.l.length ≤ 549755813888) (hk : Kr.n < 9223372036854775807) :
    Calls Tryz.prog 14 #[.pointer (some ⟨rb, 0, none⟩), .slice A W.length c] w fun e w' => e = .returned (.tuple #[]) ∧ LW w0 w' B d s rb S K (doB Kr (W.map WV.pw)) C bs cs := by
  have hge := h.bl.both.ge
  refine (rdo_any rb Kr (bs ++ cs) A c W w h.r (fun x hx => (hge x hx).2) (hW.ext h.x) (fun x hx => Ap.of_lt (hW.ok x hx).rd fun y hy => Nat.le_trans h.B (hge y hy).1) hn hl hk).mono fun e w' x => ?_
  obtain ⟨he, hr, hk⟩ := x
  refine ⟨he, ⟨h.bl.both.keep hk fun x hx hm => ?_, h.bl.live⟩, hr, ext_keep h.x hk fun x hx => by rw [List.mem_singleton.1 hx]; exact h.rb, h.B, h.rb, h.bud, h.C⟩
  rw [List.mem_singleton.1 hm] at hx
  exact h.r.lt.2 hx
theorem lw_stands (h : LW w0 w B d s rb S K K C bs cs) :
    Calls Tryz.prog 24 #[.pointer (some ⟨s, 0, none⟩), .pointer (some ⟨rb, 0, none⟩)] w fun e w' => e = .returned (.bool true) ∧ Ext w w' := by
  have hC := h.C
  have h2 := h.bl.live.bds.l
  exact stands_self h.bl.both.sto h.r (by omega)
theorem both_open {s' : Nat} {S' : DS} {bs' cs' : List Nat} (h : LW w0 w B d s rb S K Kr C bs cs) (h1 : Both w' B d s' S' K bs' cs') (hs : Stp bs bs' w w') (hn : ∀ x ∈ cs', w.heap.size ≤ x) : Stp (bs ++ cs) (bs' ++ cs') w w' := by
  refine ⟨hs.k.mono fun x hx => by simp [hx], fun x hx => ?_⟩
  rcases List.mem_append.1 hx with hx | hx
  · exact (hs.n x hx).imp (fun h => by simp [h]) id
  · exact .inr (hn x hx)
theorem lw_open (h : LW w0 w B d s rb S K Kr C bs cs) :
    Calls Tryz.prog 19 #[.pointer (some ⟨d, 0, none⟩)] w fun e w' => ∃ s' S', e = .returned (.tuple #[.pointer (some ⟨s', 0, none⟩), .nilIface]) ∧ S'.room = S.room ∧ LWN w0 B d s' rb S' K Kr C w' := by
  have hC := h.C
  refine (kopen_live B d S K C bs w h.bl.both.dsk h.bl.live.up (by omega) h.bud).mono fun e w' x => ?_
  obtain ⟨S', s', bs', cs', h1, h2, h3, h4, h5, h6, h7⟩ := x
  exact ⟨s', S', h4, h2, bs', cs', h.move ⟨h5, h1⟩ (both_open h h5 h6 h7) (h3 h.bud) h.C⟩
theorem lw_nw (h : LW w0 w B d s rb S K Kr C bs cs) :
    Calls Tryz.prog 18 #[.pointer (some ⟨d, 0, none⟩), .string ⟨#[115, 110, 97, 112, 46, 110, 101, 119]⟩] w fun e w' => e = .returned (.tuple #[.slice none 0 0, .iface 48 (.int .i64 9)]) ∧ w = w' := read_nw h.bl.both.dsk h.bl.live.fnd_nw
theorem LW.fin {C' : Nat} (h : LW w0 w B d s rb S K Kr C bs cs) (hx : Ext w w') (hc : C ≤ C') (hC : C' ≤ 6291456) : LWN w0 B d s rb S K Kr C' w' := ⟨bs, cs, (h.ext hx).mono hc hC⟩
theorem LW.not {x : Nat} (h : LW w0 w B d s rb S K Kr C bs cs) (hx : w.heap.size ≤ x) : x ∉ bs ++ cs := fun hm => by have := (h.bl.both.ge x hm).2; omega
/-- What a batch needs. -/
theorem may_ok {o : OV} (ho : o.At w0) (hx : Ext w0 w) : Calls Tryz.prog 12 #[.slice o.A o.W.length o.c] w fun e w' => e = .returned (.int .i64 (may0 o.P : Nat)) ∧ Ext w w' :=
  rmay_any o.A o.c o.W w (ho.W.ext hx) ho.n (by have := ho.e; rw [recB_ln]; unfold OV.P at this; omega)
theorem rec_ok {o : OV} {n rl : Nat} {rc : List UInt8} (ho : o.At w0) (hn : n < 4611686018427387904) (hc : recB (n + 1) o.P = rc) (hl : rc.length = rl) (hx : Ext w0 w) : Calls Tryz.prog 29 #[.int .i64 ((n : Int) + 1), .slice o.A o.W.length o.c] w (RetBytes w rl rc) := by
  subst hc
  subst hl
  have := rrecord_any o.A o.c o.W (n + 1) w (ho.W.ext hx) (by omega) ho.n (by have := ho.e; rw [recB_ln]; unfold OV.P at this; omega)
  rw [show ((n + 1 : Nat) : Int) = (n : Int) + 1 from by omega] at this
  exact this
theorem own_ok {o : OV} (ho : o.At w0) (hx : Ext w0 w) : Calls Tryz.prog 10 #[.slice o.A o.W.length o.c] w fun e w' => ∃ T c L, e = .returned (.slice T o.W.length c) ∧ OWst w w' T o.W.length c L ∧ L.map WV.pw = o.P ∧ L.length = o.W.length :=
  own_any o.A o.c o.W w (ho.W.ext hx) ho.n
end
end Go.Proofs.YtjnbbfhoegeppaaGreatDoor
