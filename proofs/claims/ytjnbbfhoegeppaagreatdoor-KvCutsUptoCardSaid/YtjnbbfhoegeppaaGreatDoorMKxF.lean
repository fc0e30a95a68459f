/-
  What is written over behind a batch.
-/
import Derived.Test.YtjnbbfhoegeppaaGreatDoorMKxE
set_option linter.unusedSimpArgs false
set_option linter.unusedVariables false
namespace Go.Proofs.YtjnbbfhoegeppaaGreatDoor
open Go.RowKit Go.Cv Go.Cv.Dk Go.Cv.Wal Go.Cv.Kv
theorem cell_row {w : World} {y o : Nat} {T : TypeId} {cs : List Value} {v : Value} (h : Row w y T cs) (hc : w.cell? ⟨y, o, none⟩ = some v) : ∃ hlt : o < cs.length, cs[o] = v := by
  rcases Nat.lt_or_ge o cs.length with ho | ho
  · rw [h.cell ho] at hc
    injection hc with hc
    exact ⟨ho, hc⟩
  · unfold Row at h
    simp only [World.cell?, h] at hc
    simp [ho] at hc
theorem exists_list {n : Nat} {P : Nat → UInt8 → Prop} (h : ∀ i, i < n → ∃ b, P i b) : ∃ l : List UInt8, l.length = n ∧ ∀ i (hi : i < l.length), P i l[i] := by
  induction n with
  | zero => exact ⟨[], rfl, fun i hi => by simp at hi⟩
  | succ n ih =>
    obtain ⟨l, hl, hp⟩ := ih fun i hi => h i (by omega)
    obtain ⟨b, hb⟩ := h n (by omega)
    refine ⟨l ++ [b], by simp [hl], fun i hi => ?_⟩
    rcases Nat.lt_or_ge i l.length with h1 | h1
    · rw [List.getElem_append_left h1]
      exact hp i h1
    · have : i = n := by simp at hi; omega
      subst this
      rw [List.getElem_append_right h1]
      simpa using hb
theorem rd_over {w : World} {y i : Nat} {cs : List Value} {A : Option Addr} {l : List UInt8} (hr : Row w y 5 cs) (h : Rd w A (l.map bv)) (z : UInt8) : ∃ l' : List UInt8, l'.length = l.length ∧ Rd (w.setCell ⟨y, i, none⟩ (bv z)) A (l'.map bv) := by
  have key : ∀ k, k < l.length → ∃ b : UInt8, ∃ ad, A = some ad ∧ (w.setCell ⟨y, i, none⟩ (bv z)).cell? (ad.add k) = some (bv b) := fun k hk => by
    obtain ⟨ad, rfl, hc⟩ := h k (bv l[k]) (by rw [List.getElem?_map, List.getElem?_eq_getElem hk]; rfl)
    by_cases hb : (ad.add k).block = y
    · obtain ⟨a, ha⟩ : ∃ a, a = ad.add k := ⟨_, rfl⟩
      rw [← ha] at hc hb
      obtain ⟨b, o, sp⟩ := a
      have hsp : sp = none := World.cell?_spot hc
      subst hsp
      have hb : b = y := hb
      subst hb
      obtain ⟨hlt, he⟩ := cell_row hr hc
      have hr' := hr.set i (bv z)
      have hc' := hr'.cell (i := o) (by simpa using hlt)
      rw [List.getElem_set] at hc'
      by_cases hio : i = o
      · rw [if_pos hio] at hc'
        exact ⟨z, ad, rfl, by rw [← ha]; exact hc'⟩
      · rw [if_neg hio, he] at hc'
        exact ⟨l[k], ad, rfl, by rw [← ha]; exact hc'⟩
    · exact ⟨l[k], ad, rfl, (Keep.setCell w ⟨y, i, none⟩ (bv z)).cell hc (by simpa using hb)⟩
  obtain ⟨l', hl, hp⟩ := exists_list key
  refine ⟨l', hl, fun k v hv => ?_⟩
  rw [List.getElem?_map] at hv
  rcases Nat.lt_or_ge k l'.length with hk | hk
  · rw [List.getElem?_eq_getElem hk] at hv
    injection hv with hv
    subst hv
    exact hp k hk
  · rw [List.getElem?_eq_none hk] at hv; cases hv
def rowsV (L : List WV) : List Nat := L.flatMap fun x => rowOf x.A
/-- A list of writes that is written over. -/
structure Ovr (w : World) (T : Option Addr) (L : List WV) : Prop where
  rd : Rd w T (L.flatMap WV.cells)
  ty : ∀ y ∈ rowOf T, Ty w y 45
  val : ∀ x ∈ L, Zb w x.A ∧ ∃ l : List UInt8, l.length = x.v.length ∧ Rd w x.A (l.map bv)
theorem OWz.ovr {w wr : World} {T : Option Addr} {k c' : Nat} {L : List WV} (h : OWz w wr T k c' L) : Ovr wr T L :=
  ⟨fun k v hv => rd_own h.own k v hv, row_ty h.own, fun x hx => ⟨h.z x hx, x.v, rfl, (h.V x hx).ok.rd⟩⟩
theorem rowsV_mem {L : List WV} {x : WV} (hx : x ∈ L) {y : Nat} (hy : y ∈ rowOf x.A) : y ∈ rowsV L := List.mem_flatMap.2 ⟨x, hx, hy⟩
theorem Ovr.keep {w w' : World} {T : Option Addr} {L : List WV} {bs : List Nat} (h : Ovr w T L) (hk : Keep bs w w') (hT : ∀ y ∈ rowOf T, y ∉ bs) (hV : ∀ y ∈ rowsV L, y ∉ bs) : Ovr w' T L :=
  ⟨h.rd.keep hk fun ad e => hT _ (by simp [rowOf, e]), fun y hy => (h.ty y hy).keep hk (hT y hy), fun x hx => by
    obtain ⟨h1, l, h2, h3⟩ := h.val x hx
    exact ⟨fun y hy => (h1 y hy).imp fun cs hr => hr.keep hk (hV y (rowsV_mem hx hy)), l, h2, h3.keep hk fun ad e => hV _ (rowsV_mem hx (by simp [rowOf, e]))⟩⟩
theorem Ovr.ext {w w' : World} {T : Option Addr} {L : List WV} (h : Ovr w T L) (hx : Ext w w') : Ovr w' T L := h.keep (Keep.of_ext (bs := []) hx) (by simp) (by simp)
theorem Ovr.set {w : World} {T : Option Addr} {L : List WV} {y i : Nat} {cs : List Value} (h : Ovr w T L) (hr : Row w y 5 cs) (z : UInt8) : Ovr (w.setCell ⟨y, i, none⟩ (bv z)) T L := by
  have hk := Keep.setCell w ⟨y, i, none⟩ (bv z)
  have hT : ∀ x ∈ rowOf T, x ∉ [y] := fun x hx hm => by
    rw [List.mem_singleton.1 hm] at hx
    exact absurd ((h.ty y hx).uniq (Ty.of_row hr)) (by decide)
  refine ⟨h.rd.keep hk fun ad e => hT _ (by simp [rowOf, e]), fun x hx => (h.ty x hx).keep hk (hT x hx), fun x hx => ?_⟩
  obtain ⟨h1, l, h2, h3⟩ := h.val x hx
  obtain ⟨l', h4, h5⟩ := rd_over (i := i) hr h3 z
  refine ⟨fun g hg => ?_, l', h4.trans h2, h5⟩
  obtain ⟨cs', hr'⟩ := h1 g hg
  by_cases hgy : g = y
  · subst hgy
    exact ⟨_, hr'.set i (bv z)⟩
  · exact ⟨cs', hr'.keep hk (by simpa using hgy)⟩
theorem Ovr.at {w : World} {T : Option Addr} {L : List WV} (h : Ovr w T L) {k : Nat} (hk : k < L.length) : ∃ ad, T = some ad ∧ w.cell? ⟨(ad.add (k * 3)).block, (ad.add (k * 3)).off + 1, none⟩ = some (.slice L[k].A L[k].v.length L[k].c) := by
  obtain ⟨ad, rfl, h0⟩ := h.rd (k * 3 + 0) (.string L[k].k) (by rw [wcells_at hk (by omega)]; rfl)
  refine ⟨ad, rfl, ?_⟩
  obtain ⟨ad', e, h1⟩ := h.rd (k * 3 + 1) (.slice L[k].A L[k].v.length L[k].c) (by rw [wcells_at hk (by omega)]; rfl)
  injection e with e
  subst e
  rw [← Cv.add_add] at h1
  exact h1
/-- The law's state, and blocks that are apart from it. -/
structure LX (w0 w : World) (B d s rb : Nat) (S : DS) (K Kr : KS) (C : Nat) (bs cs R : List Nat) : Prop where
  lw : LW w0 w B d s rb S K Kr C bs cs
  r : Rto w rb Kr ((bs ++ cs) ++ R)
  dis : ∀ y ∈ R, y ∉ bs ++ cs
  ge : ∀ y ∈ R, w0.heap.size ≤ y ∧ y < w.heap.size
section
variable {w0 w w' : World} {B d s rb : Nat} {S : DS} {K Kr : KS} {C : Nat} {bs cs R : List Nat}
theorem LX.ext (h : LX w0 w B d s rb S K Kr C bs cs R) (hx : Ext w w') : LX w0 w' B d s rb S K Kr C bs cs R := ⟨h.lw.ext hx, h.r.ext hx, h.dis, fun y hy => ⟨(h.ge y hy).1, Nat.lt_of_lt_of_le (h.ge y hy).2 hx.size⟩⟩
theorem LW.lx (h : LW w0 w B d s rb S K Kr C bs cs) (hx : Ext w w') (hR : ∀ y ∈ R, w.heap.size ≤ y ∧ y < w'.heap.size) : LX w0 w' B d s rb S K Kr C bs cs R := by
  refine ⟨h.ext hx, h.r.step (cs := (bs ++ cs) ++ R) ⟨Keep.of_ext hx, fun y hy => ?_⟩, fun y hy hm => ?_, fun y hy => ⟨Nat.le_trans h.x.size (hR y hy).1, (hR y hy).2⟩⟩
  · rcases List.mem_append.1 hy with hy | hy
    · exact .inl hy
    · exact .inr (hR y hy).1
  · have h1 := (h.bl.both.ge y hm).2
    have h2 := (hR y hy).1
    omega
/-- A step of the store's. -/
theorem LX.move {S' : DS} {K' : KS} {C' : Nat} {bs' cs' : List Nat} (h : LX w0 w B d s rb S K Kr C bs cs R) (hl : LW w0 w' B d s rb S' K' Kr C' bs' cs') (hs : Stp (bs ++ cs) (bs' ++ cs') w w') : LX w0 w' B d s rb S' K' Kr C' bs' cs' R := by
  have hs2 : Stp ((bs ++ cs) ++ R) ((bs' ++ cs') ++ R) w w' := ⟨hs.k.mono fun x hx => List.mem_append_left _ hx, fun y hy => by
    rcases List.mem_append.1 hy with hy | hy
    · exact (hs.n y hy).imp (fun h => List.mem_append_left _ h) id
    · exact .inl (List.mem_append_right _ hy)⟩
  refine ⟨hl, h.r.step hs2, fun y hy => hs.not (h.ge y hy).2 (h.dis y hy), fun y hy => ⟨(h.ge y hy).1, Nat.lt_of_lt_of_le (h.ge y hy).2 hs.k.size⟩⟩
/-- A byte is written over. -/
theorem LX.set {y i : Nat} (h : LX w0 w B d s rb S K Kr C bs cs R) (hy : y ∈ R) (v : Value) : LX w0 (w.setCell ⟨y, i, none⟩ v) B d s rb S K Kr C bs cs R := by
  have hk := Keep.setCell w ⟨y, i, none⟩ v
  have hsz : w.heap.size ≤ (w.setCell ⟨y, i, none⟩ v).heap.size := hk.size
  have hn : ∀ x ∈ bs ++ cs, x ∉ [y] := fun x hx hm => h.dis y hy (by rw [List.mem_singleton.1 hm] at hx; exact hx)
  have hr : Rto (w.setCell ⟨y, i, none⟩ v) rb Kr ((bs ++ cs) ++ R) := h.r.step ⟨hk.mono fun x hx => by rw [List.mem_singleton.1 hx]; exact List.mem_append_right _ hy, fun x hx => .inl hx⟩
  have hr2 : Rto (w.setCell ⟨y, i, none⟩ v) rb Kr (bs ++ cs) := by
    obtain ⟨T, c, L, h1, h2⟩ := hr
    exact ⟨T, c, L, h1, ⟨fun hm => h2.r (List.mem_append_left _ hm), h2.t.imp id fun h y hy hm => h y hy (List.mem_append_left _ hm), fun x hx => (h2.v x hx).imp id fun h y hy hm => h y hy (List.mem_append_left _ hm)⟩⟩
  exact ⟨⟨⟨h.lw.bl.both.keep hk hn, h.lw.bl.live⟩, hr2, ext_keep h.lw.x hk fun x hx => by rw [List.mem_singleton.1 hx]; exact (h.ge y hy).1, h.lw.B, h.lw.rb, h.lw.bud, h.lw.C⟩, hr, h.dis, fun g hg => ⟨(h.ge g hg).1, Nat.lt_of_lt_of_le (h.ge g hg).2 hsz⟩⟩
/-- The answer does a batch. -/
theorem lx_do {A : Option Addr} {c : Nat} {W : List WV} (h : LX w0 w B d s rb S K Kr C bs cs R) (hW : WsAt w0 A W) (hn : W.length ≤ 1048576) (hl : Kr.l.length ≤ 549755813888) (hk : Kr.n < 9223372036854775807) :
    Calls Tryz.prog 14 #[.pointer (some ⟨rb, 0, none⟩), .slice A W.length c] w fun e w' => e = .returned (.tuple #[]) ∧ LX w0 w' B d s rb S K (doB Kr (W.map WV.pw)) C bs cs R ∧ Keep [rb] w w' := by
  have hge := h.lw.bl.both.ge
  have hall : ∀ x ∈ (bs ++ cs) ++ R, w0.heap.size ≤ x ∧ x < w.heap.size := fun x hx => by
    rcases List.mem_append.1 hx with hx | hx
    · exact ⟨Nat.le_trans h.lw.B (hge x hx).1, (hge x hx).2⟩
    · exact h.ge x hx
  refine (rdo_any rb Kr ((bs ++ cs) ++ R) A c W w h.r (fun x hx => (hall x hx).2) (hW.ext h.lw.x) (fun x hx => Ap.of_lt (hW.ok x hx).rd fun y hy => (hall y hy).1) hn hl hk).mono fun e w' x => ?_
  obtain ⟨he, hr, hk⟩ := x
  have hr2 : Rto w' rb (doB Kr (W.map WV.pw)) (bs ++ cs) := by
    obtain ⟨T, c, L, h1, h2⟩ := hr
    exact ⟨T, c, L, h1, ⟨fun hm => h2.r (List.mem_append_left _ hm), h2.t.imp id fun h y hy hm => h y hy (List.mem_append_left _ hm), fun x hx => (h2.v x hx).imp id fun h y hy hm => h y hy (List.mem_append_left _ hm)⟩⟩
  refine ⟨he, ⟨⟨⟨h.lw.bl.both.keep hk fun x hx hm => ?_, h.lw.bl.live⟩, hr2, ext_keep h.lw.x hk fun x hx => by rw [List.mem_singleton.1 hx]; exact h.lw.rb, h.lw.B, h.lw.rb, h.lw.bud, h.lw.C⟩, hr, h.dis, fun y hy => ⟨(h.ge y hy).1, Nat.lt_of_lt_of_le (h.ge y hy).2 hk.size⟩⟩, hk⟩
  rw [List.mem_singleton.1 hm] at hx
  exact h.lw.r.lt.2 hx
end
end Go.Proofs.YtjnbbfhoegeppaaGreatDoor
