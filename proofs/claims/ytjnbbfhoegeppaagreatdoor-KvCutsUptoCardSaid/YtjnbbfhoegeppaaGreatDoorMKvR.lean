/-
  Texts of the lemmas below the claim, put together: KvR KvS.
-/
import Derived.Test.YtjnbbfhoegeppaaGreatDoorMKvL
section
/-
  Walks of the store: it is opened, or its records are broken.
-/
set_option linter.unusedSimpArgs false
set_option linter.unusedVariables false
namespace Go.Proofs.YtjnbbfhoegeppaaGreatDoor
open Go.RowKit Go.Cv Go.Cv.Dk Go.Cv.Wal Go.Cv.Kv
theorem Dsk.top {w : World} {B d : Nat} {S : DS} {bs : List Nat} (h : Dsk w B d S bs) : B ≤ w.heap.size := by
  obtain ⟨mb, L, h, rfl⟩ := h
  exact Nat.le_trans h.ge.1 (Nat.le_of_lt h.row.lt)
theorem PreAt.step {w wa wb : World} {B s d mb : Nat} {z : Int} {L : List GV} {bs : List Nat} (h : PreAt wa B s d mb z L) (hk : Keep bs wa wb) (hb : ∀ x ∈ bs, x < w.heap.size ∨ wa.heap.size ≤ x) (hs : w.heap.size ≤ s ∧ w.heap.size ≤ mb) (hn : ∀ x ∈ L, ∀ y ∈ x.bl, w.heap.size ≤ y) : PreAt wb B s d mb z L := by
  have hs1 := h.row.lt
  have hs2 := h.map.lt
  refine h.keep hk ⟨fun hm => ?_, fun hm => ?_, fun x hx y hy hm => ?_⟩
  · rcases hb _ hm with h1 | h1 <;> omega
  · rcases hb _ hm with h1 | h1 <;> omega
  · have h2 := hn x hx y hy
    have h3 := ((h.val x hx).lt y hy).2
    rcases hb _ hm with h1 | h1 <;> omega
/-- The log is laid into a store that is being opened. -/
theorem PreAt.logged {w : World} {B s d mb g n : Nat} {L : List GV} (h : PreAt w B s d mb n L) (hl : LogAt w g d logN) (hg : B ≤ g) (hgn : g ≠ s ∧ g ≠ mb) : StoAt (w.setCell ⟨s, 1, none⟩ (.pointer (some ⟨g, 0, none⟩))) B s d g mb ⟨L.map GV.pp, n⟩ L := by
  have hk := Keep.setCell w ⟨s, 1, none⟩ (.pointer (some ⟨g, 0, none⟩))
  refine ⟨h.row.set 1 _, h.map.keep hk (by simpa using fun e => h.sep.1 e.symm), fun x hx => (h.val x hx).keep hk fun y hy hm => ?_, hl.keep hk (by simpa using hgn.1), rfl, ⟨h.sep.1, fun e => hgn.1 e.symm, fun e => hgn.2 e.symm, h.sep.2⟩, h.ge.1, h.ge.2, hg⟩
  have := List.mem_singleton.1 hm
  subst this
  exact (h.sep.2 x hx).1 hy
theorem snap_one {b : List UInt8} {R : List (List UInt8)} {u n : Nat} {K : KS} (h : Scans b R u) (hs : snpF b = some K) (hn : n = b.length) : ∃ r, R = [r] ∧ u = n ∧ snpD r = some K := by
  by_cases hq : R.length = 1 ∧ u = b.length
  · obtain ⟨r, rfl⟩ := List.length_eq_one_iff.1 hq.1
    exact ⟨r, rfl, by rw [hn]; exact hq.2, by rw [← snpF_one h hq.2]; exact hs⟩
  · rw [snpF_not h hq] at hs
    cases hs
theorem loaded_some {w w' : World} {B s d mb : Nat} {r : List UInt8} {e : Ending} {K : KS} (h : Loaded w B s d mb r e w') (hs : snpD r = some K) : Keep [s, mb] w w' ∧ e = .returned (.bool true) ∧ ∃ L', PreAt w' B s d mb K.n L' ∧ K.l = L'.map GV.pp ∧ ∀ x ∈ L', ∀ y ∈ x.bl, w.heap.size ≤ y := by
  obtain ⟨hk, h | h⟩ := h
  · obtain ⟨K', L', h1, h2, h3, h4, h5⟩ := h
    rw [hs] at h1
    injection h1 with h1
    subst h1
    exact ⟨hk, h2, L', h3, h4, h5⟩
  · rw [hs] at h; cases h.1
theorem fresh_not {w w1 w2 w0 : World} {A0 : Option Addr} {T : TypeId} {y : Nat} (hf : ∀ a, A0 = some a → Fresh w1.heap.size T w2 a) (h1 : w0.heap.size ≤ w1.heap.size) (h0 : w0.heap.size = w.heap.size + 2) (hy : y ∈ rowOf A0) (hm : y ∈ [w.heap.size + 1, w.heap.size]) : False := by
  rcases A0 with _ | a0
  · cases hy
  · simp [rowOf] at hy
    have h2 := (hf a0 rfl).1
    simp at hm
    omega
theorem allb_one {S : World → Addr → Prop} {w : World} {A : Option Addr} {vs : List Value} {r : List UInt8} (hr : Rd w A vs) (ha : AllB S w vs [r]) : ∃ ad A0 n0 c0, A = some ad ∧ w.cell? ad = some (.slice A0 n0 c0) ∧ r.length = n0 ∧ n0 ≤ c0 ∧ c0 ≤ maxLen ∧ Rd w A0 (r.map bv) ∧ ∀ a, A0 = some a → S w a := by
  rcases vs with _ | ⟨v, vs⟩
  · exact ha.elim
  · obtain ⟨A0, n0, c0, rfl, h1, h2, h3, h4, h5⟩ := ha.1
    obtain ⟨ad, rfl, hc⟩ := hr 0 _ rfl
    exact ⟨ad, A0, n0, c0, rfl, hc, h1, h2, h3, h4, h5⟩
theorem br_true {b1 b2 b3 b4 : Bool} (h : ((b1 && b2) || (b3 || b4)) = true) : (b1 = false ∧ b3 = true) ∨ (b1 = false ∧ b3 = false ∧ b4 = true) ∨ (b1 = true ∧ b2 = true) ∨ (b1 = true ∧ b2 = false ∧ b3 = true) ∨ (b1 = true ∧ b2 = false ∧ b3 = false ∧ b4 = true) := by
  revert h
  cases b1 <;> cases b2 <;> cases b3 <;> cases b4 <;> simp
theorem br_false {b1 b2 b3 b4 : Bool} (h : ((b1 && b2) || (b3 || b4)) = false) : (b1 = false ∧ b3 = false ∧ b4 = false) ∨ (b1 = true ∧ b2 = false ∧ b3 = false ∧ b4 = false) := by
  revert h
  cases b1 <;> cases b2 <;> cases b3 <;> cases b4 <;> simp
theorem ws_fresh {w : World} {A : Option Addr} {W : List WV} {s mb : Nat} (h1 : ∀ y ∈ rowOf A, w.heap.size ≤ y) (h2 : ∀ x ∈ W, ∀ y ∈ rowOf x.A, w.heap.size ≤ y) (hs : s < w.heap.size) (hm : mb < w.heap.size) : WsAp A W [s, mb] :=
  ⟨.inr fun y hy hx => by have := h1 y hy; simp at hx; omega, fun x hx => .inr fun y hy hx2 => by have := h2 x hx y hy; simp at hx2; omega⟩
theorem opens_dn {w w3 w5 wr : World} {B d s mb : Nat} {S2 : DS} {bs cs5 : List Nat} (hE3 : Ext w w3) (hSS : Stp bs cs5 w3 w5) (hD5 : Dsk w5 B d S2 cs5) (hk : Keep [s, mb] w5 wr) (hs : w.heap.size ≤ s ∧ w.heap.size ≤ mb) (hsc : s ∉ cs5 ∧ mb ∉ cs5) : Dsk wr B d S2 cs5 ∧ Stp bs cs5 w wr := by
  have h1 := Stp.after hE3 hSS
  refine ⟨hD5.keep hk fun x hx hm => ?_, h1.k.trans hk fun x hx => ?_, h1.n⟩
  · simp only [List.mem_cons, List.not_mem_nil, or_false] at hm
    rcases hm with rfl | rfl
    · exact hsc.1 hx
    · exact hsc.2 hx
  · simp only [List.mem_cons, List.not_mem_nil, or_false] at hx
    rcases hx with rfl | rfl
    · exact .inr hs.1
    · exact .inr hs.2
theorem opens_good {w w3 w5 wr : World} {B d s mb g : Nat} {S2 : DS} {K : KS} {bs cs5 : List Nat} {L3 L' : List GV} (hE3 : Ext w w3) (hSS : Stp bs cs5 w3 w5) (hD5 : Dsk w5 B d S2 cs5) (hk : Keep [s, mb] w5 wr) (hs : w.heap.size ≤ s ∧ w.heap.size ≤ mb) (hsc : s ∉ cs5 ∧ mb ∉ cs5)
    (hst : StoAt wr B s d g mb K L') (hf : ∀ x ∈ sfoot s g mb L', x ∈ sfoot s g mb L3 ∨ w5.heap.size ≤ x) (h3 : ∀ x ∈ sfoot s g mb L3, w.heap.size ≤ x ∧ x ∉ cs5) :
    Opens w B d bs S2 (some K) (.returned (.tuple #[.pointer (some ⟨s, 0, none⟩), .nilIface])) wr := by
  obtain ⟨hD, hS⟩ := opens_dn hE3 hSS hD5 hk hs hsc
  have h5 : w.heap.size ≤ w5.heap.size := Nat.le_trans hE3.size hSS.k.size
  refine .inl ⟨K, s, cs5, _, rfl, rfl, ⟨hD, ⟨g, mb, L', hst, rfl⟩, fun x hx hm => ?_⟩, hS, fun x hx => ?_⟩
  · rcases hf x hm with h1 | h1
    · exact (h3 x h1).2 hx
    · have := (hD5.lt x hx).2; omega
  · rcases hf x hx with h1 | h1
    · exact (h3 x h1).1
    · omega
set_option maxRecDepth 6000 in
set_option maxHeartbeats 25600000 in
theorem kopen_main (B d : Nat) (S S2 : DS) (K0 : KS) (bs : List Nat) (R : List (List UInt8)) (w : World) (h : Dsk w B d S bs) (hsn : snpS S = some K0) (ho : fnd S snL = 0 ∨ fnd S snL = 9) (hls : (cont S snL).length ≤ 134217728) (hq : (rem wrap64 S nwL).1 = 0 ∨ (rem wrap64 S nwL).1 = 9)
    (hl : (fnd (rem wrap64 S nwL).2 logL = 9 ∧ R = [] ∧ S2 = (rem wrap64 S nwL).2) ∨ (fnd (rem wrap64 S nwL).2 logL = 0 ∧ R = scR (cont (rem wrap64 S nwL).2 logL) ∧ S2 = (lcut wrap64 (rem wrap64 S nwL).2 logL (scU (cont (rem wrap64 S nwL).2 logL))).2 ∧ (lcut wrap64 (rem wrap64 S nwL).2 logL (scU (cont (rem wrap64 S nwL).2 logL))).1 = 0))
    (hll : (cont (rem wrap64 S nwL).2 logL).length ≤ 134217728) :
    Calls Tryz.prog 19 #[.pointer (some ⟨d, 0, none⟩)] w (Opens w B d bs S2 (opnR none K0 R)) := by
  refine calls_hid fun G hG => ?_
  have hm := @run_makeMap Tryz.prog
  have hBw := h.top
  have hblt : ∀ x ∈ bs, x < w.heap.size := fun x hx => (h.lt x hx).2
  have hE0 := w0_ext w d
  have hD0 := h.ext hE0
  have hP0 : PreAt (W0 w d) B (w.heap.size + 1) d w.heap.size 0 [] := w0_pre hBw
  have hsz0 := w0_size w d
  have hRl : R.length ≤ 16777216 := by
    rcases hl with ⟨_, rfl, _⟩ | ⟨_, rfl, _, _⟩
    · simp
    · have := (sc_spec (cont (rem wrap64 S nwL).2 logL)).count
      omega
  have hRm : ∀ w3, Dsk w3 B d S bs → Calls Tryz.prog 54 #[.pointer (some ⟨d, 0, none⟩), .string ⟨#[115, 110, 97, 112, 46, 110, 101, 119]⟩] w3 fun e w' => e = .returned (errV (rem wrap64 S nwL).1) ∧ DN w3 B d bs (rem wrap64 S nwL).2 w' := fun w3 hD => remove_dk ⟨#[115, 110, 97, 112, 46, 110, 101, 119]⟩ hD (by decide)
  have hWo : ∀ w4 bs4, Dsk w4 B d (rem wrap64 S nwL).2 bs4 → Calls Tryz.prog 55 #[.pointer (some ⟨d, 0, none⟩), .string ⟨#[108, 111, 103]⟩] w4 (Opened B d bs4 logN w4 R S2) := fun w4 bs4 hD => wopen_ok B d _ S2 bs4 w4 R hD hl (by omega)
  have hIs9 := fun w => is_yes 9 w
  generalize (rem wrap64 S nwL).2 = S1 at *
  generalize hqe : (rem wrap64 S nwL).1 = q at *
  clear hl hqe hll
  -- the snap
  have hhead : (fnd S snL = 9 ∧ K0 = emptyK ∧ Hid (Calls Tryz.prog 18 #[.pointer (some ⟨d, 0, none⟩), .string ⟨#[115, 110, 97, 112]⟩] (W0 w d) fun e w' => e = .returned (.tuple #[.slice none 0 0, .iface 48 (.int .i64 9)]) ∧ W0 w d = w')) ∨
      (fnd S snL = 0 ∧ snpF (cont S snL) = some K0 ∧ Hid (Calls Tryz.prog 18 #[.pointer (some ⟨d, 0, none⟩), .string ⟨#[115, 110, 97, 112]⟩] (W0 w d) fun e w' => ∃ v, e = .returned (.tuple #[v, .nilIface]) ∧ RetB (W0 w d) (cont S snL).length (cont S snL) v w')) := by
    rcases ho with h0 | h0
    · refine .inr ⟨h0, ?_, Lib.hid (read_dk ⟨#[115, 110, 97, 112]⟩ hD0 (by decide) h0)⟩
      unfold snpS at hsn
      rwa [if_neg (by omega)] at hsn
    · refine .inl ⟨h0, ?_, Lib.hid ?_⟩
      · unfold snpS at hsn
        rw [if_pos h0] at hsn
        exact (Option.some.inj hsn).symm
      · have := read_bad_dk B d S bs ⟨#[115, 110, 97, 112]⟩ (W0 w d) hD0 (by decide) (by show fnd S snL ≠ 0; omega)
        rw [show fnd S (ByteArray.mk #[115, 110, 97, 112]).data.toList = 9 from h0] at this
        exact this
  have hK0 : K0.n ≤ 4611686018427387904 ∧ K0.l.length < 4294967296 := by
    rcases hhead with ⟨_, rfl, _⟩ | ⟨_, hs, _⟩
    · exact ⟨Nat.zero_le _, by show 0 < _; omega⟩
    · exact snpF_some hs
  have hPr := OProg.start K0 R
  replace hPr := Lib.hid hPr
  clear hsn ho
  unfold W0 at *
  obtain ⟨n1, hn1⟩ : ∃ n1, n1 = (cont S snL).length := ⟨_, rfl⟩
  rw [← hn1] at hls hhead
  replace hn1 := Lib.hid hn1
  have e9 : errV 9 = .iface 48 (.int .i64 9) := rfl
  have hqq : Hid (∀ w3, Dsk w3 B d S bs → Calls Tryz.prog 54 #[.pointer (some ⟨d, 0, none⟩), .string ⟨#[115, 110, 97, 112, 46, 110, 101, 119]⟩] w3 fun e w' => e = .returned .nilIface ∧ DN w3 B d bs S1 w') ∨ Hid (∀ w3, Dsk w3 B d S bs → Calls Tryz.prog 54 #[.pointer (some ⟨d, 0, none⟩), .string ⟨#[115, 110, 97, 112, 46, 110, 101, 119]⟩] w3 fun e w' => e = .returned (.iface 48 (.int .i64 9)) ∧ DN w3 B d bs S1 w') := by
    rcases hq with rfl | rfl
    · exact .inl (Lib.hid hRm)
    · exact .inr (Lib.hid hRm)
  clear hRm hq e9
  go_enter Tryz.func19, Tryz.ntmps19
  rcases hqq with hRm | hRm <;> rcases hhead with ⟨_, hKe, hRd⟩ | ⟨_, hsf, hRd⟩
  all_goals
    replace hRm := hRm.out
    go_wp2_with (first
      | (go_at_call 18; (with_reducible refine hRd.out.mono ?_); rintro e w1 ⟨rfl, rfl⟩; obtain ⟨L3, hL3⟩ : ∃ L3 : List GV, L3 = [] := ⟨_, rfl⟩; have hP3 : PreAt _ B (w.heap.size + 1) d w.heap.size (K0.n : Nat) L3 := (by rw [hL3, hKe]; exact hP0); have hD3 := hD0; have hE3 := hE0; have hls3 : K0.l = L3.map GV.pp := (by rw [hL3, hKe]; rfl); have hnew3 : ∀ x ∈ L3, ∀ y ∈ x.bl, w.heap.size ≤ y := (by rw [hL3]; simp); replace hP3 := Lib.hid hP3; replace hD3 := Lib.hid hD3; replace hls3 := Lib.hid hls3; replace hE3 := Lib.hid hE3; clear hL3)
      | (go_at_call 18; (with_reducible refine hRd.out.mono ?_); rintro e w1 ⟨v, rfl, A1, c1, rfl, hx1, ho1, hc1, hm1, hr1⟩)
      | (go_at_call 51; (with_reducible refine (scan_any A1 n1 c1 _ _ hn1.out.symm hc1 hr1 (by omega)).mono ?_); rintro e w2 ⟨A2, c2, vs, R1, u1, hs1, rfl, hx2, ho2, hc2, hm2, hr2, ha2⟩; obtain ⟨r1, rfl, rfl, hsd⟩ := snap_one hs1 hsf hn1.out; obtain ⟨ad2, A0, n0, c0, rfl, p2, hl2, hc02, hm02, hrd2, hf2⟩ := allb_one hr2 ha2; have hE2 := (hE0.trans hx1).trans hx2; have hP2 := hP0.ext (hx1.trans hx2); have hD2 := hD0.ext (hx1.trans hx2); have hLd := load_any B (w.heap.size + 1) d w.heap.size A0 n0 c0 r1 w2 hP2 hl2 hrd2 hc02 hm02 (.inr (fun y hy hm => fresh_not hf2 hx1.size hsz0 hy hm)); replace hP2 := Lib.hid hP2)
      | (go_at_call 52; (with_reducible refine hLd.mono ?_); rintro e w3 hq3; obtain ⟨hk3, rfl, L3, hP3, hls3, hnew3'⟩ := loaded_some hq3 hsd; have hnew3 : ∀ x ∈ L3, ∀ y ∈ x.bl, w.heap.size ≤ y := (fun x hx y hy => Nat.le_trans hE2.size (hnew3' x hx y hy)); have hD3 := hD2.keep hk3 (fun x hx hm => by have := hblt x hx; simp at hm; omega); have hE3 : Ext w w3 := ext_keep hE2 hk3 (by intro x hx; simp at hx; omega); replace hP3 := Lib.hid hP3; replace hD3 := Lib.hid hD3; replace hls3 := Lib.hid hls3; replace hE3 := Lib.hid hE3)
      | (go_at_call 53; (with_reducible refine (hIs9 _).mono ?_); rintro e w' ⟨rfl, rfl⟩)
      | (go_at_call 54; (with_reducible refine (hRm _ hD3.out).mono ?_); rintro e w4 ⟨rfl, bs4, hD4, hS4⟩)
      | (go_at_call 55; (with_reducible refine (hWo _ bs4 hD4).mono ?_); rintro e w5 ⟨⟨g, A5, c5, cs5, rfl, hlg5, hgn5, hgs5, hrc5, hD5, hS5⟩⟩; have hSS := hS4.trans hS5; have hP5 := hP3.out.step (w := w) hSS.k (fun x hx => .inl (hblt x hx)) (by omega) hnew3; have m1 : w5.cell? ⟨w.heap.size + 1, 1, none⟩ = some (.pointer none) := hP5.row.cell (i := 1) (by simp); have mf := hP5.row.fro 1; replace hP5 := Lib.hid hP5))
  all_goals
    have hsz3 := hP3.out.row.lt
    have hs4 := hS4.k.size
    have hst6 := hP5.out.logged hlg5 (by have := hE3.out.size; omega) (by omega)
    have hK6 : (⟨L3.map GV.pp, K0.n⟩ : KS) = K0 := by rw [← hls3.out]
    rw [hK6] at hst6
    have hsc : w.heap.size + 1 ∉ cs5 ∧ w.heap.size ∉ cs5 := by
      constructor
      · exact hSS.not (by omega) fun hx => by have := hblt _ hx; omega
      · exact hSS.not (by omega) fun hx => by have := hblt _ hx; omega
    have h3f : ∀ x ∈ sfoot (w.heap.size + 1) g w.heap.size L3, w.heap.size ≤ x ∧ x ∉ cs5 := fun x hx => by
      simp only [sfoot, List.mem_cons, List.mem_flatMap] at hx
      rcases hx with rfl | rfl | rfl | ⟨z, hz, hx⟩
      · exact ⟨by omega, hsc.1⟩
      · exact ⟨Nat.le_refl _, hsc.2⟩
      · exact ⟨by have := hE3.out.size; omega, hgn5⟩
      · have h1 := hnew3 z hz x hx
        have h2 := ((hP3.out.val z hz).lt x hx).2
        exact ⟨h1, hSS.not h2 fun hm => by have := hblt _ hm; omega⟩
    obtain ⟨es, clock, hmap, _⟩ := hP5.out.map
    have hget := recs_get hrc5 hP5.out.row hmap
    have hk6 : Keep [w.heap.size + 1, w.heap.size] w5 (w5.setCell ⟨w.heap.size + 1, 1, none⟩ (.pointer (some ⟨g, 0, none⟩))) := (Keep.setCell w5 ⟨w.heap.size + 1, 1, none⟩ (.pointer (some ⟨g, 0, none⟩))).mono (by simp)
    have hL3l : L3.length < 4294967296 := by have := hK0.2; rw [hls3.out, List.length_map] at this; exact this
    have hgs : Hid (∀ wr K' L', opnR none K0 R = some K' → StoAt wr B (w.heap.size + 1) d g w.heap.size K' L' → Keep [w.heap.size + 1, w.heap.size] w5 wr → (∀ x ∈ sfoot (w.heap.size + 1) g w.heap.size L', x ∈ sfoot (w.heap.size + 1) g w.heap.size L3 ∨ w5.heap.size ≤ x) → G (.returned (.tuple #[.pointer (some ⟨w.heap.size + 1, 0, none⟩), .nilIface])) wr) := Lib.hid fun wr K' L' ho hst hk hf => hG.out _ _ (by
      rw [ho]
      exact opens_good hE3.out hSS hD5 hk ⟨by omega, Nat.le_refl _⟩ hsc hst hf h3f)
    have hgb : Hid (∀ wr, opnR none K0 R = none → Keep [w.heap.size + 1, w.heap.size] w5 wr → G (.returned (.tuple #[.pointer none, .iface 48 (.int .i64 13)])) wr) := Lib.hid fun wr ho hk => hG.out _ _ (by
      rw [ho]
      obtain ⟨h1, h2⟩ := opens_dn hE3.out hSS hD5 hk ⟨by omega, Nat.le_refl _⟩ hsc
      exact .inr ⟨rfl, rfl, cs5, h1, h2⟩)
    replace hst6 := Lib.hid hst6
    replace hget := Lib.hid hget
    clear hG hRd hRm hWo hIs9 hm hmap hsc h3f hD5 hrc5 hlg5 hP5 hgs5 hgn5 m1 mf hS4 hD4 hE0 hD0 hP0
    go_loopw [12, 14, 15, 16, 17, 88] (fun t _ _ _ _ i wr => ∃ (k : Nat) (last : Option Nat) (K' : KS) (L' : List GV), k ≤ R.length ∧ i = .int .i64 k ∧ t = .int .i64 (lz last) ∧ Hid (StoAt wr B (w.heap.size + 1) d g w.heap.size K' L') ∧ Hid (Keep [w.heap.size + 1, w.heap.size] w5 wr) ∧ Hid (∀ x ∈ sfoot (w.heap.size + 1) g w.heap.size L', x ∈ sfoot (w.heap.size + 1) g w.heap.size L3 ∨ w5.heap.size ≤ x) ∧ Hid (L'.length ≤ L3.length + 4096 * k) ∧ Hid (OProg K0 R k last K')) (fun _ _ _ _ _ i _ => R.length - (intOf i).toNat)
    case atStart => exact ⟨0, none, K0, L3, Nat.zero_le _, rfl, rfl, hst6, Lib.hid hk6, Lib.hid fun x hx => .inl hx, Lib.hid (Nat.le_refl _), hPr⟩
    case round =>
      obtain ⟨k, last, K', L', hk, rfl, rfl, hst, hkp, hft, hLl, hOP⟩ := hrel
      have c3 : wr.cell? ⟨w.heap.size + 1, 3, none⟩ = some (.int .i64 K'.n) := hst.out.row.cell (i := 3) (by simp)
      by_cases hlt : k < R.length
      · obtain ⟨ad, A', n', c', rfl, p0, hl', hnc, hcm, hrd⟩ := hget.out wr hkp.out k hlt
        have hW0 := pwrites_any A' n' c' R[k] wr hl' hrd hnc hcm
        have hnb := hOP.out.n
        rcases hbt : batD R[k] with _ | z
        · have hWr : Calls Tryz.prog 56 #[.slice A' n' c'] wr fun e w' => Ext wr w' ∧ ∃ v1 v2, e = .returned (.tuple #[v1, v2, .bool false]) := hW0.mono fun e w' x => ⟨x.1, by
            rcases x.2 with ⟨z, h1, _⟩ | ⟨_, h2⟩
            · rw [hbt] at h1; cases h1
            · exact h2⟩
          have hno : opnR none K0 R = none := by rw [hOP.out.next hlt, opn1_none hbt]; rfl
          clear hW0
          go_wp2_with (go_at_call 56; (with_reducible refine hWr.mono ?_); rintro e w7 ⟨hx7, v1, v2, rfl⟩)
          exact hgb.out _ hno (hkp.out.ext hx7)
        · have hWr : Calls Tryz.prog 56 #[.slice A' n' c'] wr fun e w' => Ext wr w' ∧ ∃ T cT LW, z.2 = LW.map WV.pw ∧ e = .returned (.tuple #[.int .i64 (IntKind.i64.wrap (z.1 : Nat)), .slice T LW.length cT, .bool true]) ∧ WsAt w' T LW ∧ (∀ y ∈ rowOf T, wr.heap.size ≤ y) ∧ ∀ x ∈ LW, ∀ y ∈ rowOf x.A, wr.heap.size ≤ y := hW0.mono fun e w' x => ⟨x.1, by
            rcases x.2 with ⟨z', h1, h2⟩ | ⟨h1, _⟩
            · rw [hbt] at h1; injection h1 with h1; subst h1; exact h2
            · rw [hbt] at h1; cases h1⟩
          have hzl := Lib.hid (bat_l hbt).1
          have hbr := brk_eq (last := last) (n := K'.n) (bat_l hbt).2 rfl hOP.out.le
          have hcw2 : z.1 < 9223372036854775808 → IntKind.i64.wrap ((z.1 : Nat) : Int) = (z.1 : Nat) := wrap64_lo
          generalize IntKind.i64.wrap ((z.1 : Nat) : Int) = cw at *
          rw [show IntKind.i64.wrap (cw - 1) = wrap64 (cw - 1) from IntWalk.i64_left _] at hbr
          clear hW0
          by_cases hbk : brk last K'.n z.1
          · have hno : opnR none K0 R = none := by rw [hOP.out.next hlt, opn1_brk hbt hbk]; rfl
            rw [decide_eq_true hbk] at hbr
            clear hcw2
            rcases br_true hbr with ⟨hb1, hb3⟩ | ⟨hb1, hb3, hb4⟩ | ⟨hb1, hb2⟩ | ⟨hb1, hb2, hb3⟩ | ⟨hb1, hb2, hb3, hb4⟩
            all_goals
              clear hbr
              go_wp2_with (go_at_call 56; (with_reducible refine hWr.mono ?_); rintro e w7 ⟨hx7, T, cT, LW, hzW, rfl, hWs, hTf, hLf⟩; have e3 : w7.cell? ⟨w.heap.size + 1, 3, none⟩ = some (.int .i64 K'.n) := (hst.out.ext hx7).row.cell (i := 3) (by simp))
              exact hgb.out _ hno (hkp.out.ext hx7)
          · have hOn := hOP.out.step hlt hbt hbk
            rw [decide_eq_false hbk] at hbr
            have hcw3 : cw = ((z.1 : Nat) : Int) ∧ 1 ≤ z.1 ∧ z.1 ≤ K'.n + 1 ∧ z.1 < 9223372036854775808 := by
              have h1 : z.1 < 9223372036854775808 := by
                rcases Nat.lt_or_ge z.1 9223372036854775808 with h | h
                · exact h
                · exact absurd (.inr (.inl h)) hbk
              refine ⟨hcw2 h1, ?_, ?_, h1⟩
              · rcases Nat.lt_or_ge z.1 1 with h | h
                · exact absurd (.inl h) hbk
                · exact h
              · have h2 := hOP.out.step hlt hbt hbk
                have h3 := h2.le z.1 rfl
                split at h3
                · exact h3
                · omega
            have hwr : wrap64 (cw - 1) = cw - 1 := IntWalk.wrap64_in _ (by omega)
            replace hbk := Lib.hid hbk
            by_cases hdo : K'.n < z.1
            · have hb5 : (wrap64 (cw - 1) == (K'.n : Int)) = true := by rw [hwr]; exact beq_iff_eq.2 (by omega)
              rw [if_pos hdo] at hOn
              replace hwr := Lib.hid hwr
              replace hcw3 := Lib.hid hcw3
              replace hOn := Lib.hid hOn
              clear hcw2
              rcases br_false hbr with ⟨hb1, hb3, hb4⟩ | ⟨hb1, hb2, hb3, hb4⟩
              all_goals
                clear hbr
                go_wp2_with (first
                  | (go_at_call 56; (with_reducible refine hWr.mono ?_); rintro e w7 ⟨hx7, T, cT, LW, hzW, rfl, hWs, hTf, hLf⟩; have e3 : w7.cell? ⟨w.heap.size + 1, 3, none⟩ = some (.int .i64 K'.n) := (hst.out.ext hx7).row.cell (i := 3) (by simp))
                  | (go_at_call 37; (with_reducible refine (do_any B (w.heap.size + 1) d g w.heap.size K' L' T cT LW w7 (hst.out.ext hx7) hWs (ws_fresh hTf hLf hst.out.row.lt hst.out.map.lt) (by have := hzl.out; rw [hzW, List.length_map] at this; omega) (by have := hLl.out; omega) (by omega)).mono ?_); rintro e w8 ⟨rfl, L8, hst8, hk8, hf8, hl8⟩))
                go_roundw
                case rel => exact ⟨k + 1, some z.1, doB K' z.2, L8, hlt, by go_num, by rw [hcw3.out.1]; rfl, Lib.hid (by rw [hzW]; exact hst8), Lib.hid ((hkp.out.ext hx7).same hk8), Lib.hid (foot_trans hft.out hf8 (Nat.le_trans hkp.out.size hx7.size)), Lib.hid (by have := hzl.out; rw [hzW, List.length_map] at this; have := hLl.out; omega), hOn⟩
                case measure => exact meas hlt
            · have hb5 : (wrap64 (cw - 1) == (K'.n : Int)) = false := by rw [hwr]; exact beq_false_of_ne (by omega)
              rw [if_neg hdo] at hOn
              replace hwr := Lib.hid hwr
              replace hcw3 := Lib.hid hcw3
              replace hOn := Lib.hid hOn
              clear hcw2
              rcases br_false hbr with ⟨hb1, hb3, hb4⟩ | ⟨hb1, hb2, hb3, hb4⟩
              all_goals
                clear hbr
                go_wp2_with (go_at_call 56; (with_reducible refine hWr.mono ?_); rintro e w7 ⟨hx7, T, cT, LW, hzW, rfl, hWs, hTf, hLf⟩; have e3 : w7.cell? ⟨w.heap.size + 1, 3, none⟩ = some (.int .i64 K'.n) := (hst.out.ext hx7).row.cell (i := 3) (by simp))
                go_roundw
                case rel => exact ⟨k + 1, some z.1, K', L', hlt, by go_num, by rw [hcw3.out.1]; rfl, Lib.hid (hst.out.ext hx7), Lib.hid (hkp.out.ext hx7), hft, Lib.hid (by have := hLl.out; omega), hOn⟩
                case measure => exact meas hlt
      · obtain rfl : k = R.length := by omega
        go_wp2
        exact hgs.out _ _ _ hOP.out.done hst.out hkp.out hft.out
end Go.Proofs.YtjnbbfhoegeppaaGreatDoor
end
section
/-
  Walks of the store: an opening that fails.
-/
set_option linter.unusedSimpArgs false
set_option linter.unusedVariables false
namespace Go.Proofs.YtjnbbfhoegeppaaGreatDoor
open Go.RowKit Go.Cv Go.Cv.Dk Go.Cv.Wal Go.Cv.Kv
theorem DN.same {w w' : World} {B d : Nat} {S : DS} {bs : List Nat} (h : Dsk w B d S bs) (hx : Ext w w') : DN w B d bs S w' := ⟨bs, h.ext hx, Stp.of_ext hx⟩
theorem loaded_none {w w' : World} {B s d mb : Nat} {r : List UInt8} {e : Ending} (h : Loaded w B s d mb r e w') (hs : snpD r = none) : Keep [s, mb] w w' ∧ e = .returned (.bool false) := by
  obtain ⟨hk, h | h⟩ := h
  · obtain ⟨K', L', h1, _⟩ := h
    rw [hs] at h1; cases h1
  · exact ⟨hk, h.2⟩
theorem snap_not {b : List UInt8} {R : List (List UInt8)} {u n : Nat} (h : Scans b R u) (hs : snpF b = none) (hn : n = b.length) : R.length ≠ 1 ∨ (R.length = 1 ∧ u ≠ n) ∨ ∃ r, R = [r] ∧ u = n ∧ snpD r = none := by
  by_cases h1 : R.length = 1
  · by_cases h2 : u = n
    · obtain ⟨r, rfl⟩ := List.length_eq_one_iff.1 h1
      exact .inr (.inr ⟨r, rfl, h2, by rw [← snpF_one h (h2.trans hn)]; exact hs⟩)
    · exact .inr (.inl ⟨h1, h2⟩)
  · exact .inl h1
set_option maxRecDepth 6000 in
set_option maxHeartbeats 12800000 in
/-- The file of all that was kept is broken. -/
theorem kopen_snap (B d : Nat) (S : DS) (bs : List Nat) (w : World) (h : Dsk w B d S bs) (ho : fnd S snL = 0) (hsf : snpF (cont S snL) = none) (hls : (cont S snL).length ≤ 134217728) :
    Calls Tryz.prog 19 #[.pointer (some ⟨d, 0, none⟩)] w fun e w' => e = .returned (.tuple #[.pointer none, .iface 48 (.int .i64 13)]) ∧ DN w B d bs S w' := by
  refine calls_hid fun G hG => ?_
  have hm := @run_makeMap Tryz.prog
  have hBw := h.top
  have hblt : ∀ x ∈ bs, x < w.heap.size := fun x hx => (h.lt x hx).2
  have hE0 := w0_ext w d
  have hD0 := h.ext hE0
  have hP0 : PreAt (W0 w d) B (w.heap.size + 1) d w.heap.size 0 [] := w0_pre hBw
  have hsz0 := w0_size w d
  have hRd := read_dk ⟨#[115, 110, 97, 112]⟩ hD0 (by decide) ho
  have hRd : Calls Tryz.prog 18 #[.pointer (some ⟨d, 0, none⟩), .string ⟨#[115, 110, 97, 112]⟩] (W0 w d) fun e w' => ∃ v, e = .returned (.tuple #[v, .nilIface]) ∧ RetB (W0 w d) (cont S snL).length (cont S snL) v w' := hRd
  replace hRd := Lib.hid hRd
  obtain ⟨n1, hn1⟩ : ∃ n1, n1 = (cont S snL).length := ⟨_, rfl⟩
  rw [← hn1] at hls hRd
  replace hn1 := Lib.hid hn1
  have hgg : Hid (∀ w', DN w B d bs S w' → G (.returned (.tuple #[.pointer none, .iface 48 (.int .i64 13)])) w') := Lib.hid fun w' hd => hG.out _ _ ⟨rfl, hd⟩
  replace h := Lib.hid h
  clear hG
  unfold W0 at *
  go_enter Tryz.func19, Tryz.ntmps19
  go_upto_region 6 with (go_at_call 18; (with_reducible refine hRd.out.mono ?_); rintro e w1 ⟨v, rfl, A1, c1, rfl, hx1, ho1, hc1, hm1, hr1⟩)
  have hSc := scan_any A1 n1 c1 _ _ hn1.out.symm hc1 hr1 (by omega)
  go_upto_region 7 with (go_at_call 51; (with_reducible refine hSc.mono ?_); rintro e w2 ⟨A2, c2, vs, R1, u1, hs1, rfl, hx2, ho2, hc2, hm2, hr2, ha2⟩)
  have hEx := (hE0.trans hx1).trans hx2
  rcases snap_not hs1 hsf hn1.out with h1 | ⟨h1, h2⟩ | ⟨r1, rfl, rfl, hsd⟩
  · have q : ((R1.length : Int) != 1) = true := bne_iff_ne.2 (by omega)
    replace h1 := Lib.hid h1
    go_wp2
    exact hgg.out _ (DN.same h.out hEx)
  · have q : ((R1.length : Int) != 1) = false := by rw [h1]; rfl
    have q2 : ((u1 : Int) != (n1 : Int)) = true := bne_iff_ne.2 (by omega)
    replace h1 := Lib.hid h1
    replace h2 := Lib.hid h2
    go_wp2
    exact hgg.out _ (DN.same h.out hEx)
  · obtain ⟨ad2, A0, n0, c0, rfl, p2, hl2, hc02, hm02, hrd2, hf2⟩ := allb_one hr2 ha2
    have hE2 := (hE0.trans hx1).trans hx2
    have hP2 := hP0.ext (hx1.trans hx2)
    have hD2 := hD0.ext (hx1.trans hx2)
    have hLd := load_any B (w.heap.size + 1) d w.heap.size A0 n0 c0 r1 w2 hP2 hl2 hrd2 hc02 hm02 (.inr (fun y hy hm => fresh_not hf2 hx1.size hsz0 hy hm))
    go_wp2_with (go_at_call 52; (with_reducible refine hLd.mono ?_); rintro e w3 hq3; obtain ⟨hk3, rfl⟩ := loaded_none hq3 hsd; have hD3 := hD2.keep hk3 (fun x hx hm => by have := hblt x hx; simp at hm; omega); have hE3 : Ext w w3 := ext_keep hE2 hk3 (by intro x hx; simp at hx; omega))
    exact hgg.out _ ⟨bs, hD3, Stp.of_ext hE3⟩
end Go.Proofs.YtjnbbfhoegeppaaGreatDoor
end
