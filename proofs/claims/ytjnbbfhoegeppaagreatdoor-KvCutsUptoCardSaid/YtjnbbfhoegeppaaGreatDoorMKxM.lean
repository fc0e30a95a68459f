/-
  KvCuts: the answer's two stores between the steps.
-/
import Derived.Test.YtjnbbfhoegeppaaGreatDoorMKxK
set_option linter.unusedSimpArgs false
set_option linter.unusedVariables false
namespace Go.Proofs.YtjnbbfhoegeppaaGreatDoor
open Go.RowKit Go.Cv Go.Cv.Dk Go.Cv.Wal Go.Cv.Kv
/-- The answer's store and its copy. -/
structure LM (w0 w : World) (B d rb ra : Nat) (S : DS) (K K2 : KS) (ds : List Nat) : Prop where
  r : Rto w rb K (ds ++ [ra])
  a : Rto w ra K2 ds
  x : Ext w0 w
  hB : w0.heap.size ≤ B
  hrb : w0.heap.size ≤ rb
  hra : w0.heap.size ≤ ra
  ge : ∀ y ∈ ds, B ≤ y ∧ y < w.heap.size
  room : S.room = 1099511627776
/-- Opened anew, both stores of the answer's at hand. -/
structure LF (w0 w : World) (B d s rb ra : Nat) (S : DS) (K K2 Ks : KS) (C : Nat) (bs cs : List Nat) : Prop where
  both : Both w B d s S Ks bs cs
  live : Live S Ks C
  r : Rto w rb K (bs ++ cs)
  a : Rto w ra K2 (bs ++ cs)
  x : Ext w0 w
  hB : w0.heap.size ≤ B
  hrb : w0.heap.size ≤ rb
  hra : w0.heap.size ≤ ra
  room : S.room = 1099511627776
  C : C ≤ 6291456
section
variable {w0 w w' : World} {B d s rb ra : Nat} {S S' : DS} {K K2 Kr Ks : KS} {C : Nat} {bs cs ds : List Nat}
theorem LM.ext (h : LM w0 w B d rb ra S K K2 ds) (hx : Ext w w') : LM w0 w' B d rb ra S K K2 ds := ⟨h.r.ext hx, h.a.ext hx, h.x.trans hx, h.hB, h.hrb, h.hra, fun y hy => ⟨(h.ge y hy).1, Nat.lt_of_lt_of_le (h.ge y hy).2 hx.size⟩, h.room⟩
theorem LM.step {ds' : List Nat} (h : LM w0 w B d rb ra S K K2 ds) (hs : Stp ds ds' w w') (hg : ∀ y ∈ ds', B ≤ y ∧ y < w'.heap.size) (hr : S'.room = S.room) : LM w0 w' B d rb ra S' K K2 ds' :=
  ⟨h.r.step ⟨hs.k.mono fun x hx => List.mem_append_left _ hx, fun y hy => by
    rcases List.mem_append.1 hy with hy | hy
    · exact (hs.n y hy).imp (fun h => List.mem_append_left _ h) id
    · exact .inl (List.mem_append_right _ hy)⟩, h.a.step hs, ext_keep h.x hs.k fun x hx => Nat.le_trans h.hB (h.ge x hx).1, h.hB, h.hrb, h.hra, hg, hr.trans h.room⟩
theorem LU.lm {T : Option Addr} {n c : Nat} (h : LU w0 w B d s rb S K C bs cs) (ha : Rto (w.alloc (.cells #[.slice T n c, .int .i64 K.n] 31)) w.heap.size K (bs ++ cs)) :
    LM w0 (w.alloc (.cells #[.slice T n c, .int .i64 K.n] 31)) B d rb w.heap.size S K K (bs ++ cs) := by
  have hx := ext_alloc w (.cells #[.slice T n c, .int .i64 K.n] 31)
  refine ⟨h.v.r.step ⟨Keep.of_ext hx, fun y hy => ?_⟩, ha, h.v.x.trans hx, h.v.hB, h.v.hrb, h.v.x.size, fun y hy => ⟨(h.v.ge y hy).1, Nat.lt_of_lt_of_le (h.v.ge y hy).2 hx.size⟩, h.v.room⟩
  rcases List.mem_append.1 hy with hy | hy
  · exact .inl hy
  · rw [List.mem_singleton.1 hy]; exact .inr (Nat.le_refl _)
theorem lm_do {A : Option Addr} {c : Nat} {W : List WV} (h : LM w0 w B d rb ra S K K2 ds) (hW : WsAt w0 A W) (hn : W.length ≤ 1048576) (hl : K2.l.length ≤ 549755813888) (hk : K2.n < 9223372036854775807) :
    Calls Tryz.prog 14 #[.pointer (some ⟨ra, 0, none⟩), .slice A W.length c] w fun e w' => e = .returned (.tuple #[]) ∧ LM w0 w' B d rb ra S K (doB K2 (W.map WV.pw)) ds ∧ Keep [ra] w w' := by
  refine (rdo_any ra K2 ds A c W w h.a (fun x hx => (h.ge x hx).2) (hW.ext h.x) (fun x hx => Ap.of_lt (hW.ok x hx).rd fun y hy => Nat.le_trans h.hB (h.ge y hy).1) hn hl hk).mono fun e w' x => ?_
  obtain ⟨he, hr, hk⟩ := x
  exact ⟨he, ⟨h.r.step ⟨hk.mono fun x hx => List.mem_append_right _ hx, fun y hy => .inl hy⟩, hr, ext_keep h.x hk fun x hx => by rw [List.mem_singleton.1 hx]; exact h.hra, h.hB, h.hrb, h.hra, fun y hy => ⟨(h.ge y hy).1, Nat.lt_of_lt_of_le (h.ge y hy).2 hk.size⟩, h.room⟩, hk⟩
theorem LM.lu (h : LM w0 w B d rb ra S K K2 (bs ++ cs)) (hb : Both w B d s S K2 bs cs) (hl : Live S K2 C) (hC : C ≤ 6291456) : LU w0 w B d s ra S K2 C bs cs := ⟨⟨h.a, h.x, h.hB, h.hra, hb.ge, h.room, hC⟩, hb, hl⟩
theorem LM.lu0 (h : LM w0 w B d rb ra S K K2 (bs ++ cs)) (hb : Both w B d s S K bs cs) (hl : Live S K C) (hC : C ≤ 6291456) : LU w0 w B d s rb S K C bs cs := ⟨⟨h.r.mono fun x hx => List.mem_append_left _ hx, h.x, h.hB, h.hrb, hb.ge, h.room, hC⟩, hb, hl⟩
theorem LM.ld (h : LM w0 w B d rb ra S K K2 (bs ++ cs)) (hb : Dsk w B d S bs) (hC : C ≤ 6291456) : LD w0 w B d rb ra S K K2 C bs :=
  ⟨⟨h.r.mono fun x hx => List.mem_append_left _ (List.mem_append_left _ hx), h.x, h.hB, h.hrb, fun y hy => hb.lt y hy, h.room, hC⟩, hb, h.a.mono fun x hx => List.mem_append_left _ hx, h.hra⟩
theorem LM.both (h : LM w0 w B d rb ra S K K2 (bs ++ cs)) (hb : Both w B d s S Kr bs cs) (hk : Keep [ra] w w') : Both w' B d s S Kr bs cs := hb.keep hk fun x hx hm => by
  rw [List.mem_singleton.1 hm] at hx
  exact h.a.lt.2 hx
theorem LU.mono {C' : Nat} (h : LU w0 w B d s rb S K C bs cs) (hc : C ≤ C') (hC : C' ≤ 6291456) : LU w0 w B d s rb S K C' bs cs := ⟨⟨h.v.r, h.v.x, h.v.hB, h.v.hrb, h.v.ge, h.v.room, hC⟩, h.both, h.live.mono hc⟩
theorem LD.mono {C' : Nat} (h : LD w0 w B d rb ra S K K2 C bs) (hC : C' ≤ 6291456) : LD w0 w B d rb ra S K K2 C' bs := ⟨⟨h.v.r, h.v.x, h.v.hB, h.v.hrb, h.v.ge, h.v.room, hC⟩, h.dsk, h.a, h.hra⟩
theorem ld_power {keep : Int} (h : LD w0 w B d rb ra S K K2 C bs) (hk : -9223372036854775808 ≤ keep ∧ keep ≤ 9223372036854775807) (hr : (Dk.pow S keep).room = S.room) :
    Calls Tryz.prog 32 #[.pointer (some ⟨d, 0, none⟩), .int .i64 keep] w fun e w' => e = .returned (.tuple #[]) ∧ ∃ bs', LD w0 w' B d rb ra (Dk.pow S keep) K K2 C bs' :=
  (power_dk keep h.dsk hk).mono fun e w' x => ⟨x.1, h.move x.2 hr⟩
theorem ld_cut {n : Int} (h : LD w0 w B d rb ra S K K2 C bs) (hn : n ≤ 9223372036854775807) (hr : (cutd S n).2.room = S.room) :
    Calls Tryz.prog 31 #[.pointer (some ⟨d, 0, none⟩), .int .i64 n] w fun e w' => (∃ v, e = .returned v) ∧ ∃ bs', LD w0 w' B d rb ra (cutd S n).2 K K2 C bs' :=
  (cut_dk n h.dsk hn).mono fun e w' x => ⟨⟨_, x.1⟩, h.move x.2 hr⟩
theorem ld_open (h : LD w0 w B d rb ra S K K2 C bs) (hO : ∀ w bs, Dsk w B d S bs → Calls Tryz.prog 19 #[.pointer (some ⟨d, 0, none⟩)] w (Opn w B d S Ks C bs)) :
    Calls Tryz.prog 19 #[.pointer (some ⟨d, 0, none⟩)] w fun e w' => ∃ s' S' bs' cs', e = .returned (.tuple #[.pointer (some ⟨s', 0, none⟩), .nilIface]) ∧ LF w0 w' B d s' rb ra S' K K2 Ks C bs' cs' := by
  refine (hO w bs h.dsk).mono fun e w' x => ?_
  obtain ⟨S', s', bs', cs', h1, h2, h3, h4, h5, h6, h7⟩ := x
  have hs : Stp bs (bs' ++ cs') w w' := ⟨h6.k, fun x hx => by
    rcases List.mem_append.1 hx with hx | hx
    · exact h6.n x hx
    · exact .inr (h7 x hx)⟩
  exact ⟨s', S', bs', cs', h4, h5, h1, h.v.r.step hs, h.a.step hs, ext_keep h.v.x h6.k fun x hx => Nat.le_trans h.v.hB (h.v.ge x hx).1, h.v.hB, h.v.hrb, h.hra, h2.trans h.v.room, h.v.C⟩
theorem LF.ld (h : LF w0 w B d s rb ra S K K2 Ks C bs cs) : LD w0 w B d rb ra S K K2 C bs :=
  ⟨⟨h.r.mono fun x hx => List.mem_append_left _ hx, h.x, h.hB, h.hrb, fun y hy => h.both.dsk.lt y hy, h.room, h.C⟩, h.both.dsk, h.a.mono fun x hx => List.mem_append_left _ hx, h.hra⟩
theorem LF.ext (h : LF w0 w B d s rb ra S K K2 Ks C bs cs) (hx : Ext w w') : LF w0 w' B d s rb ra S K K2 Ks C bs cs := ⟨h.both.ext hx, h.live, h.r.ext hx, h.a.ext hx, h.x.trans hx, h.hB, h.hrb, h.hra, h.room, h.C⟩
theorem ld_openc (h : LD w0 w B d rb ra S K K2 C bs) (hr : S'.room = S.room) (hO : ∀ w bs, Dsk w B d S bs → Calls Tryz.prog 19 #[.pointer (some ⟨d, 0, none⟩)] w fun e w' => e = .returned (.tuple #[.pointer none, .iface 48 (.int .i64 11)]) ∧ DN w B d bs S' w') :
    Calls Tryz.prog 19 #[.pointer (some ⟨d, 0, none⟩)] w fun e w' => e = .returned (.tuple #[.pointer none, .iface 48 (.int .i64 11)]) ∧ ∃ bs', LD w0 w' B d rb ra S' K K2 C bs' :=
  (hO w bs h.dsk).mono fun e w' x => ⟨x.1, h.move x.2 hr⟩
theorem lf_stands_r (h : LF w0 w B d s rb ra S K K2 Ks C bs cs) (hk : ∀ p ∈ K.l, p.k.length ≤ 1099511627776) :
    Calls Tryz.prog 24 #[.pointer (some ⟨s, 0, none⟩), .pointer (some ⟨rb, 0, none⟩)] w fun e w' => (∃ b, e = .returned (.bool b) ∧ (b = true ↔ Ks = K)) ∧ Ext w w' := by
  have := h.live.bds.l
  have := h.C
  exact stands_any B s d rb Ks K cs (bs ++ cs) w h.both.sto h.r (by omega) hk
theorem lf_stands_a (h : LF w0 w B d s rb ra S K K2 Ks C bs cs) (hk : ∀ p ∈ K2.l, p.k.length ≤ 1099511627776) :
    Calls Tryz.prog 24 #[.pointer (some ⟨s, 0, none⟩), .pointer (some ⟨ra, 0, none⟩)] w fun e w' => (∃ b, e = .returned (.bool b) ∧ (b = true ↔ Ks = K2)) ∧ Ext w w' := by
  have := h.live.bds.l
  have := h.C
  exact stands_any B s d ra Ks K2 cs (bs ++ cs) w h.both.sto h.a (by omega) hk
theorem lu_apply_nil {wc : World} {T : Option Addr} {c : Nat} (h : LU w0 w B d s rb S K C bs cs) (hx : Ext w wc) :
    Calls Tryz.prog 11 #[.pointer (some ⟨s, 0, none⟩), .slice T 0 c] wc fun e w' => e = .returned .nilIface ∧ ∃ bs' cs', Both w' B d s S K bs' cs' ∧ Stp (bs ++ cs) (bs' ++ cs') wc w' := by
  have hd := h.live.bds
  have hk := hd.n
  have hl := hd.l
  have hg := hd.lg
  have hf := hd.f
  have hC0 := h.v.C
  have e0 : (recB (K.n + 1) []).length = 10 := by rw [recB_ln]; rfl
  refine (apply_any B d s S K bs cs T c [] wc (h.both.ext hx) ⟨Rd.nil_, by simp⟩ ⟨.inl rfl, by simp⟩ (by simp) (by omega) (by omega) (by show _ + (recB (K.n + 1) []).length ≤ _; omega) (by omega)).mono fun e w' x => ?_
  have e1 : applyP wrap64 S K (List.map WV.pw []) = (0, S, K) := rfl
  rw [e1] at x
  exact ⟨x.1, x.2⟩
theorem lu_apply_nil' {wc : World} {T : Option Addr} {n c : Nat} (hn : n = 0) (h : LU w0 w B d s rb S K C bs cs) (hx : Ext w wc) :
    Calls Tryz.prog 11 #[.pointer (some ⟨s, 0, none⟩), .slice T n c] wc fun e w' => e = .returned .nilIface ∧ ∃ bs' cs', Both w' B d s S K bs' cs' ∧ Stp (bs ++ cs) (bs' ++ cs') wc w' := by
  subst hn
  exact lu_apply_nil h hx
theorem dn_either {S5 : DS} (h : Ks = K ∨ Ks = K2) (hd : Dn S5 Ks Ks C) : Dn S5 K K2 C := by
  rcases h with rfl | rfl
  · exact hd.left
  · exact hd.right
theorem up_either {S5 : DS} (h : Up S5 K C ∨ Up S5 K2 C) : ∃ Ks, (Ks = K ∨ Ks = K2) ∧ Up S5 Ks C := by
  rcases h with h | h
  · exact ⟨K, .inl rfl, h⟩
  · exact ⟨K2, .inr rfl, h⟩
theorem lu_power (h : LU w0 w B d s rb S K C bs cs) :
    Calls Tryz.prog 32 #[.pointer (some ⟨d, 0, none⟩), .int .i64 0] w fun e w' => e = .returned (.tuple #[]) ∧ ∃ bs', LU w0 w' B d s rb (Dk.pow S 0) K C bs' cs ∧ (Dk.pow S 0).bud = -1 := by
  obtain ⟨h1, h2, h3⟩ := h.live.pow 0
  refine (power_dk 0 h.both.dsk (by omega)).mono fun e w' x => ⟨x.1, ?_⟩
  obtain ⟨bs', h4, _⟩ := h.moveD x.2 h3 h2 h.v.C
  exact ⟨bs', h4, h1⟩
theorem lu_open (h : LU w0 w B d s rb S K C bs cs) (hb : S.bud = -1) :
    Calls Tryz.prog 19 #[.pointer (some ⟨d, 0, none⟩)] w fun e w' => ∃ s' S', e = .returned (.tuple #[.pointer (some ⟨s', 0, none⟩), .nilIface]) ∧ ∃ bs' cs', LU w0 w' B d s' rb S' K C bs' cs' := by
  have hC := h.v.C
  refine (kopen_live B d S K C bs w h.both.dsk h.live.up (by omega) hb).mono fun e w' x => ?_
  obtain ⟨S', s', bs', cs', h1, h2, h3, h4, h5, h6, h7⟩ := x
  have hs : Stp (bs ++ cs) (bs' ++ cs') w w' := ⟨h6.k.mono fun x hx => by simp [hx], fun x hx => by
    rcases List.mem_append.1 hx with hx | hx
    · exact (h6.n x hx).imp (fun h => by simp [h]) id
    · exact .inr (h7 x hx)⟩
  exact ⟨s', S', h4, bs', cs', h.v.move hs (fun x hx => h5.ge x hx) h2 hC, h5, h1⟩
theorem lu_stands (h : LU w0 w B d s rb S K C bs cs) :
    Calls Tryz.prog 24 #[.pointer (some ⟨s, 0, none⟩), .pointer (some ⟨rb, 0, none⟩)] w fun e w' => e = .returned (.bool true) ∧ Ext w w' := by
  have hC := h.v.C
  have h2 := h.live.bds.l
  exact stands_self h.both.sto h.v.r (by omega)
theorem LF.toR (h : LF w0 w B d s rb ra S K K2 Ks C bs cs) (e : Ks = K) : LU w0 w B d s rb S K C bs cs := by
  subst e
  exact ⟨⟨h.r, h.x, h.hB, h.hrb, h.both.ge, h.room, h.C⟩, h.both, h.live⟩
theorem LF.toA (h : LF w0 w B d s rb ra S K K2 Ks C bs cs) (e : Ks = K2) : LU w0 w B d s ra S K2 C bs cs := by
  subst e
  exact ⟨⟨h.a, h.x, h.hB, h.hra, h.both.ge, h.room, h.C⟩, h.both, h.live⟩
end
end Go.Proofs.YtjnbbfhoegeppaaGreatDoor
