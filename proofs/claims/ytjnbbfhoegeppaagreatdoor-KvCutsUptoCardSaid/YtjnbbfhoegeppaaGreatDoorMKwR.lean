/-
  Texts of the lemmas below the claim, put together: KwQ KwR KxA.
-/
import Derived.Test.YtjnbbfhoegeppaaGreatDoorMKwN
import Derived.Test.YtjnbbfhoegeppaaGreatDoorMKwO
section
/-
  A store with its disk: batches and compactions where the power stays; the documents' examples.
-/
set_option linter.unusedSimpArgs false
set_option linter.unusedVariables false
namespace Go.Cv.Kv
open Go Go.Cv.Dk Go.Cv.Wal
structure Bds (S : DS) (K : KS) (C : Nat) : Prop where
  n : K.n ≤ C
  l : 5 * K.l.length ≤ C
  lg : (cont S logL).length ≤ C
  nw : cont S nwL = []
  f : S.l.length ≤ 3
  sn : (snpB K).length ≤ 12 + C
  ok : K.Ok
  k : ∀ p ∈ K.l, p.k.length ≤ 1099511627776
  off : S.off = false
theorem Live.bds {S : DS} {K : KS} {C : Nat} (h : Live S K C) : Bds S K C := by
  obtain ⟨lg, sn, R, h1, h2, h3, h4⟩ := h.ex
  have h5 := szP_len K.l
  have h6 := h3.sz
  exact ⟨h3.n, by omega, by rw [h1.cont_log, ctF_len]; exact h4, h1.cont_nw, by rw [h1.l]; exact fl_len lg sn none, by rw [snpB_len]; omega, h3.ok, fun p hp => by have := (h3.ok.len p hp).2.1; omega, h1.off⟩
end Go.Cv.Kv
namespace Go.Proofs.YtjnbbfhoegeppaaGreatDoor
open Go.RowKit Go.Cv Go.Cv.Dk Go.Cv.Wal Go.Cv.Kv
/-- A store and its disk stand, the power on. -/
structure BL (w : World) (B d s : Nat) (S : DS) (K : KS) (C : Nat) (bs cs : List Nat) : Prop where
  both : Both w B d s S K bs cs
  live : Live S K C
/-- They stand so, their blocks come from these. -/
def BLN (w : World) (B d s : Nat) (bs cs : List Nat) (S : DS) (K' : KS) (C' : Nat) (w' : World) : Prop := ∃ S' bs' cs', BL w' B d s S' K' C' bs' cs' ∧ S'.room = S.room ∧ (S.bud = -1 → S'.bud = -1) ∧ Stp (bs ++ cs) (bs' ++ cs') w w'
theorem apply_live (B d s : Nat) (S : DS) (K : KS) (C : Nat) (bs cs : List Nat) (A : Option Addr) (c : Nat) (W : List WV) (w : World) (h : BL w B d s S K C bs cs) (hC : C ≤ 134217728) (hbud : S.bud = -1) (hW : WsAt w A W) (ha : WsAp A W (bs ++ cs)) (hn : W.length ≤ 1048576) (h0 : W.map WV.pw ≠ []) (hm : may0 (W.map WV.pw) = 0)
    (hb : (recB (K.n + 1) (W.map WV.pw)).length ≤ 2097152) :
    Calls Tryz.prog 11 #[.pointer (some ⟨s, 0, none⟩), .slice A W.length c] w fun e w' =>
      (((frame (recB (K.n + 1) (W.map WV.pw))).length : Int) > S.room - used S.l ∧ e = .returned (errV 12) ∧ BN w B d s bs cs S K w') ∨
      (¬ ((frame (recB (K.n + 1) (W.map WV.pw))).length : Int) > S.room - used S.l ∧ e = .returned .nilIface ∧ BLN w B d s bs cs S (doB K (W.map WV.pw)) (C + (18 + ((W.map WV.pw).flatMap encW).length)) w') := by
  have hd := h.live.bds
  have hk := hd.n
  have hl := hd.l
  have hg := hd.lg
  have hf := hd.f
  refine (apply_any B d s S K bs cs A c W w h.both hW ha hn (by omega) (by omega) (by omega) (by omega)).mono fun e w' x => ?_
  obtain ⟨he, hB⟩ := x
  rcases h.live.apply (bump := wrap64) h0 hm hb (by omega) with ⟨h1, h2⟩ | ⟨h1, h2, h3⟩
  · rw [h2] at he hB
    exact .inl ⟨h1, he, hB⟩
  · rcases h3 with ⟨h4, h5, h6, h7⟩ | ⟨_, h4, _⟩
    · rw [h4, errV_zero] at he
      obtain ⟨bs', cs', h8, h9⟩ := hB
      rw [h5] at h8
      exact .inr ⟨h1, he, _, bs', cs', ⟨h8, h6⟩, h2, h7, h9⟩
    · exact absurd hbud h4
theorem compact_live (B d s : Nat) (S : DS) (K : KS) (C : Nat) (bs cs : List Nat) (w : World) (h : BL w B d s S K C bs cs) (hC : C ≤ 134217728) (hbud : S.bud = -1) :
    Calls Tryz.prog 15 #[.pointer (some ⟨s, 0, none⟩)] w fun e w' =>
      (2097152 < (snpB K).length ∧ e = .returned (errV 2) ∧ BN w B d s bs cs S K w') ∨
      ((snpB K).length ≤ 2097152 ∧ ((frame (snpB K)).length : Int) > S.room - used S.l ∧ e = .returned (errV 12) ∧ BN w B d s bs cs S K w') ∨
      ((snpB K).length ≤ 2097152 ∧ ¬ ((frame (snpB K)).length : Int) > S.room - used S.l ∧ e = .returned .nilIface ∧ ∃ S' bs' cs', BL w' B d s S' K C bs' cs' ∧ S'.room = S.room ∧ S'.bud = -1 ∧ fnd S' snL = 0 ∧ cont S' snL = frame (snpB K) ∧ Stp (bs ++ cs) (bs' ++ cs') w w') := by
  have hd := h.live.bds
  have hk := hd.n
  have hl := hd.l
  have hg := hd.sn
  have hf := hd.f
  refine (compact_any B d s S K bs cs w h.both (by omega) (by omega) (by omega) (by rw [hd.nw]; simp) (by omega)).mono fun e w' x => ?_
  obtain ⟨he, hB⟩ := x
  rcases h.live.compact (bump := wrap64) with ⟨h1, h2⟩ | ⟨h1, h2, h3⟩ | ⟨h1, h2, h3, h4⟩
  · rw [h2] at he hB
    exact .inl ⟨h1, he, hB⟩
  · rw [h3] at he hB
    exact .inr (.inl ⟨h1, h2, he, hB⟩)
  · rcases h4 with ⟨h5, h6, h7, h8, h9⟩ | ⟨_, h4, _⟩
    · rw [h5, errV_zero] at he
      obtain ⟨bs', cs', h10, h11⟩ := hB
      exact .inr (.inr ⟨h1, h2, he, _, bs', cs', ⟨h10, h6⟩, h3, h7 hbud, h8, h9, h11⟩)
    · exact absurd hbud h4
/-- A disk with room, and a store on it. -/
def Fresh0 (w : World) (room : Int) (d s : Nat) (w' : World) : Prop := ∃ S bs cs, BL w' w.heap.size d s S emptyK 0 bs cs ∧ S.room = room ∧ S.bud = -1 ∧ Ext w w'
theorem opn_fresh {w w1 w' : World} {d s : Nat} {S S' : DS} {bs bs' cs' : List Nat} (hD : Dsk w1 w.heap.size d S bs) (hx : Ext w w1) (hB : Both w' w.heap.size d s S' emptyK bs' cs') (hl : Live S' emptyK 0) (hS : Stp bs bs' w1 w') (hb : S'.bud = -1) : Fresh0 w S'.room d s w' :=
  ⟨S', bs', cs', ⟨hB, hl⟩, rfl, hb, ext_keep hx hS.k fun x hx => (hD.lt x hx).1⟩
theorem live_newD (room : Int) : Up (newD room) emptyK 0 := (live_new room).up
set_option maxHeartbeats 800000 in
theorem fresh_any (w : World) :
    Calls Tryz.prog 8 #[] w fun e w' => ∃ d s, e = .returned (.tuple #[.pointer (some ⟨d, 0, none⟩), .pointer (some ⟨s, 0, none⟩)]) ∧ Fresh0 w 1099511627776 d s w' := by
  refine calls_hid fun G hG => ?_
  have hN := new_dk 1099511627776 w (by omega) (by omega)
  go_enter Tryz.func8, Tryz.ntmps8
  go_wp2_with (first
    | (go_at_call 26; (with_reducible refine hN.mono ?_); rintro e w1 ⟨d, bs, rfl, hD, hx⟩; have hO := kopen_live w.heap.size d (newD 1099511627776) emptyK 0 bs w1 hD (live_newD _) (by omega) rfl)
    | (go_at_call 19; (with_reducible refine hO.mono ?_); rintro e w2 ⟨S', s, bs', cs', hl, hr, hb, rfl, hB, hS, _⟩; have hF := opn_fresh hD hx hB hl hS (hb rfl); rw [show S'.room = 1099511627776 from hr] at hF; replace hF := Lib.hid hF))
  exact hG.out _ _ ⟨d, s, rfl, hF.out⟩
end Go.Proofs.YtjnbbfhoegeppaaGreatDoor
end
section
/-
  Walks of the laws: batches and compactions where there is room; the documents' examples.
-/
set_option linter.unusedSimpArgs false
set_option linter.unusedVariables false
namespace Go.Proofs.YtjnbbfhoegeppaaGreatDoor
open Go.RowKit Go.Cv Go.Cv.Dk Go.Cv.Wal Go.Cv.Kv
theorem BL.ext {w w' : World} {B d s : Nat} {S : DS} {K : KS} {C : Nat} {bs cs : List Nat} (h : BL w B d s S K C bs cs) (hx : Ext w w') : BL w' B d s S K C bs cs := ⟨h.both.ext hx, h.live⟩
theorem BN.after {w w1 w' : World} {B d s : Nat} {S : DS} {K : KS} {bs cs : List Nat} (hx : Ext w w1) (h : BN w1 B d s bs cs S K w') : BN w B d s bs cs S K w' := by
  obtain ⟨bs', cs', h1, h2⟩ := h
  exact ⟨bs', cs', h1, h2.after hx⟩
theorem BLN.after {w w1 w' : World} {B d s : Nat} {S : DS} {K : KS} {C : Nat} {bs cs : List Nat} (hx : Ext w w1) (h : BLN w1 B d s bs cs S K C w') : BLN w B d s bs cs S K C w' := by
  obtain ⟨S', bs', cs', h1, h2, h3, h4⟩ := h
  exact ⟨S', bs', cs', h1, h2, h3, h4.after hx⟩
/-- The world grew from w, but for blocks from B on. -/
theorem BL.extK {w w1 w2 : World} {B d s : Nat} {S : DS} {K : KS} {C : Nat} {bs cs ds : List Nat} (h : BL w1 B d s S K C bs cs) (hx : Ext w w1) (hB : B = w.heap.size) (hs : Stp (bs ++ cs) ds w1 w2) : Ext w w2 :=
  ext_keep hx hs.k fun x hx => by rw [← hB]; exact (h.both.ge x hx).1
theorem BL.extD {w w1 w2 : World} {B d s : Nat} {S : DS} {K : KS} {C : Nat} {bs cs ds : List Nat} (h : BL w1 B d s S K C bs cs) (hx : Ext w w1) (hB : B = w.heap.size) (hs : Stp bs ds w1 w2) : Ext w w2 :=
  ext_keep hx hs.k fun x hx => by rw [← hB]; exact (h.both.ge x (by simp [hx])).1
theorem wsap_new {w : World} {A : Option Addr} {W : List WV} {bs : List Nat} (hb : ∀ x ∈ bs, x < w.heap.size) (hA : ∀ y ∈ rowOf A, w.heap.size ≤ y) (hv : ∀ x ∈ W, ∀ y ∈ rowOf x.A, w.heap.size ≤ y) : WsAp A W bs :=
  ⟨.inr fun y hy hm => by have := hA y hy; have := hb y hm; omega, fun x hx => .inr fun y hy hm => by have := hv x hx y hy; have := hb y hm; omega⟩
theorem apply_room (B d s : Nat) (S : DS) (K : KS) (C : Nat) (bs cs : List Nat) (A : Option Addr) (c n : Nat) (W : List WV) (P : List PW) (w wc : World) (h : BL w B d s S K C bs cs) (hx : Ext w wc) (hC : C ≤ 134217728) (hbud : S.bud = -1) (hroom : S.room = 1099511627776) (hW : WsAt wc A W) (hA : ∀ y ∈ rowOf A, w.heap.size ≤ y) (hv : ∀ x ∈ W, ∀ y ∈ rowOf x.A, w.heap.size ≤ y) (hP : W.map WV.pw = P) (hl : W.length = n) (hn : n ≤ 1048576) (h0 : P ≠ []) (hm : may0 P = 0)
    (hb : (recB (K.n + 1) P).length ≤ 2097152) :
    Calls Tryz.prog 11 #[.pointer (some ⟨s, 0, none⟩), .slice A n c] wc fun e w' => e = .returned .nilIface ∧ BLN w B d s bs cs S (doB K P) (C + (18 + (P.flatMap encW).length)) w' := by
  subst hP
  subst hl
  refine (apply_live B d s S K C bs cs A c W wc (h.ext hx) hC hbud hW (wsap_new (fun x hx => (h.both.ge x hx).2) hA hv) hn h0 hm hb).mono fun e w' x => ?_
  have hu := h.live.used
  rcases x with ⟨h1, _⟩ | ⟨_, he, hB⟩
  · exfalso
    rw [frame_length, hroom] at h1
    omega
  · exact ⟨he, hB.after hx⟩
theorem compact_room (B d s : Nat) (S : DS) (K : KS) (C : Nat) (bs cs : List Nat) (w : World) (h : BL w B d s S K C bs cs) (hC : C ≤ 134217728) (hbud : S.bud = -1) (hroom : S.room = 1099511627776) :
    Calls Tryz.prog 15 #[.pointer (some ⟨s, 0, none⟩)] w fun e w' =>
      (2097152 < (snpB K).length ∧ e = .returned (errV 2) ∧ BN w B d s bs cs S K w') ∨
      ((snpB K).length ≤ 2097152 ∧ e = .returned .nilIface ∧ ∃ S' bs' cs', BL w' B d s S' K C bs' cs' ∧ S'.room = S.room ∧ S'.bud = -1 ∧ fnd S' snL = 0 ∧ cont S' snL = frame (snpB K) ∧ Stp (bs ++ cs) (bs' ++ cs') w w') := by
  refine (compact_live B d s S K C bs cs w h hC hbud).mono fun e w' x => ?_
  have hu := h.live.used
  rcases x with h1 | ⟨h1, h2, _⟩ | ⟨h1, _, h2⟩
  · exact .inl h1
  · exfalso
    rw [frame_length, hroom] at h2
    omega
  · exact .inr ⟨h1, h2⟩
/-- The examples' batches. -/
theorem up_ws1 (w : World) : WsAt (((w.alloc (.cells #[.int .u8 1] 5)).alloc (.cells #[.int .u8 2] 5)).alloc (.cells #[.string ⟨#[97]⟩, .slice (some ⟨w.heap.size, 0, none⟩) 1 1, .bool false, .string ⟨#[98]⟩, .slice (some ⟨w.heap.size + 1, 0, none⟩) 1 1, .bool false] 45)) (some ⟨w.heap.size + 1 + 1, 0, none⟩)
    [⟨⟨#[97]⟩, some ⟨w.heap.size, 0, none⟩, 1, [1], false⟩, ⟨⟨#[98]⟩, some ⟨w.heap.size + 1, 0, none⟩, 1, [2], false⟩] ∧
    Ext w (((w.alloc (.cells #[.int .u8 1] 5)).alloc (.cells #[.int .u8 2] 5)).alloc (.cells #[.string ⟨#[97]⟩, .slice (some ⟨w.heap.size, 0, none⟩) 1 1, .bool false, .string ⟨#[98]⟩, .slice (some ⟨w.heap.size + 1, 0, none⟩) 1 1, .bool false] 45)) := by
  have r1 : Rd (w.alloc (.cells #[.int .u8 1] 5)) (some ⟨w.heap.size, 0, none⟩) [bv 1] := rd_list' w [bv 1] _ rfl
  have r2 : Rd ((w.alloc (.cells #[.int .u8 1] 5)).alloc (.cells #[.int .u8 2] 5)) (some ⟨w.heap.size + 1, 0, none⟩) [bv 2] := rd_list' _ [bv 2] _ (by simp)
  have x3 := ext_alloc ((w.alloc (.cells #[.int .u8 1] 5)).alloc (.cells #[.int .u8 2] 5)) (.cells #[.string ⟨#[97]⟩, .slice (some ⟨w.heap.size, 0, none⟩) 1 1, .bool false, .string ⟨#[98]⟩, .slice (some ⟨w.heap.size + 1, 0, none⟩) 1 1, .bool false] 45)
  refine ⟨⟨rd_list' _ _ _ (by simp), fun x hx => ?_⟩, ((ext_alloc _ _).trans (ext_alloc _ _)).trans x3⟩
  simp only [List.mem_cons, List.not_mem_nil, or_false] at hx
  rcases hx with rfl | rfl
  · exact ⟨(r1.ext (ext_alloc _ _)).ext x3, by simp, by show 1 ≤ 1099511627776; omega, by show 1 ≤ 1099511627776; omega⟩
  · exact ⟨r2.ext x3, by simp, by show 1 ≤ 1099511627776; omega, by show 1 ≤ 1099511627776; omega⟩
theorem up_ws2 (w : World) : WsAt ((w.alloc (.cells #[.int .u8 3] 5)).alloc (.cells #[.string ⟨#[97]⟩, .slice none 0 0, .bool true, .string ⟨#[99]⟩, .slice (some ⟨w.heap.size, 0, none⟩) 1 1, .bool false] 45)) (some ⟨w.heap.size + 1, 0, none⟩)
    [⟨⟨#[97]⟩, none, 0, [], true⟩, ⟨⟨#[99]⟩, some ⟨w.heap.size, 0, none⟩, 1, [3], false⟩] ∧
    Ext w ((w.alloc (.cells #[.int .u8 3] 5)).alloc (.cells #[.string ⟨#[97]⟩, .slice none 0 0, .bool true, .string ⟨#[99]⟩, .slice (some ⟨w.heap.size, 0, none⟩) 1 1, .bool false] 45)) := by
  have r1 : Rd (w.alloc (.cells #[.int .u8 3] 5)) (some ⟨w.heap.size, 0, none⟩) [bv 3] := rd_list' w [bv 3] _ rfl
  have x3 := ext_alloc (w.alloc (.cells #[.int .u8 3] 5)) (.cells #[.string ⟨#[97]⟩, .slice none 0 0, .bool true, .string ⟨#[99]⟩, .slice (some ⟨w.heap.size, 0, none⟩) 1 1, .bool false] 45)
  refine ⟨⟨rd_list' _ _ _ (by simp), fun x hx => ?_⟩, (ext_alloc _ _).trans x3⟩
  simp only [List.mem_cons, List.not_mem_nil, or_false] at hx
  rcases hx with rfl | rfl
  · exact ⟨Rd.nil_, fun _ => rfl, by decide, by decide⟩
  · exact ⟨r1.ext x3, by simp, by show 1 ≤ 1099511627776; omega, by show 1 ≤ 1099511627776; omega⟩
def upP1 : List PW := [⟨[97], [1], false⟩, ⟨[98], [2], false⟩]
def upP2 : List PW := [⟨[97], [], true⟩, ⟨[99], [3], false⟩]
theorem up_k : (doB (doB emptyK upP1) upP2).l = [⟨[98], [2]⟩, ⟨[99], [3]⟩] ∧ (doB (doB emptyK upP1) upP2).n = 2 := ⟨rfl, rfl⟩
set_option maxRecDepth 4000 in
set_option maxHeartbeats 3200000 in
theorem up_any (w : World) :
    Calls Tryz.prog 7 #[] w fun e w' => e = .returned (.bool true) ∧ Ext w w' := by
  refine calls_hid fun G hG => ?_
  have hF := fresh_any w
  have hgg : Hid (∀ w', Ext w w' → G (.returned (.bool true)) w') := Lib.hid fun w' hx => hG.out _ _ ⟨rfl, hx⟩
  clear hG
  go_enter Tryz.func7, Tryz.ntmps7
  go_wp2_with (first
    | (go_at_call 8; (with_reducible refine hF.mono ?_); rintro e w1 ⟨d, s, rfl, S1, bs1, cs1, hB1, hr1, hb1, hx1⟩; obtain ⟨hW1, hy1⟩ := up_ws1 w1; have hA1 := apply_room w.heap.size d s S1 emptyK 0 bs1 cs1 _ 2 2 _ upP1 w1 _ hB1 hy1 (by omega) hb1 hr1 hW1 (by simp [rowOf]; omega) (by simp [rowOf]) rfl rfl (by omega) (by decide) (by decide) (by decide))
    | (go_at_call 11; (with_reducible refine hA1.mono ?_); rintro e w2 ⟨rfl, S2, bs2, cs2, hB2, hr2, hb2, hs2⟩; clear hA1 hW1; have hx2 := hB1.extK hx1 rfl hs2; obtain ⟨hW2, hy2⟩ := up_ws2 w2; have hA2 := apply_room w.heap.size d s S2 (doB emptyK upP1) _ bs2 cs2 _ 2 2 _ upP2 w2 _ hB2 hy2 (by decide) (hb2 hb1) (hr2.trans hr1) hW2 (by simp [rowOf]) (by simp [rowOf]) rfl rfl (by omega) (by decide) (by decide) (by decide))
    | (go_at_call 11; (with_reducible refine hA2.mono ?_); rintro e w3 ⟨rfl, S3, bs3, cs3, hB3, hr3, hb3, hs3⟩; clear hA2 hW2; have hx3 := hB2.extK hx2 rfl hs3; have hk := up_k; obtain ⟨C, hC⟩ : ∃ C, C = 0 + (18 + (List.flatMap encW upP1).length) + (18 + (List.flatMap encW upP2).length) := ⟨_, rfl⟩; rw [← hC] at hB3; have hC1 : C ≤ 1000 := (by rw [hC]; decide); clear hC; generalize doB (doB emptyK upP1) upP2 = K at *; have hsn := hB3.live.bds.sn; have hCo := (compact_room w.heap.size d s S3 K C bs3 cs3 w3 hB3 (by omega) (hb3 (hb2 hb1)) (hr3.trans (hr2.trans hr1))).mono (fun e w' x => x.resolve_left (fun y => absurd y.1 (by omega))))
    | (go_at_call 15; (with_reducible refine hCo.mono ?_); rintro e w4 ⟨_, rfl, S4, bs4, cs4, hB4, hr4, hb4, _, _, hs4⟩; clear hCo; have hx4 := hB3.extK hx3 rfl hs4; have hO := kopen_live w.heap.size d S4 K C bs4 w4 hB4.both.dsk hB4.live.up (by omega) hb4)
    | (go_at_call 19; (with_reducible refine hO.mono ?_); rintro e w5 ⟨S5, s5, bs5, cs5, hl5, hr5, hb5, rfl, hB5, hs5, _⟩; clear hO; have hx5 := hB4.extD hx4 rfl hs5; have hKy := keys_any w.heap.size s5 d K cs5 ⟨#[]⟩ w5 hB5.sto (by rw [hk.1]; decide); rw [show keysK K.l (ByteArray.mk #[]).data.toList = [[98], [99]] from (by show keysK K.l [] = _; rw [hk.1]; rfl)] at hKy)
    | (go_at_call 22; (with_reducible refine hKy.mono ?_); rintro e w6 ⟨A6, c6, rfl, ho6, hx6⟩; clear hKy; have hGe := get_any w.heap.size s5 d K cs5 ⟨#[99]⟩ w6 (hB5.sto.ext hx6) (by decide); rw [show fndK K.l (ByteArray.mk #[99]).data.toList = some ⟨[99], [3]⟩ from (by rw [hk.1]; rfl), show getK K.l (ByteArray.mk #[99]).data.toList = [3] from (by rw [hk.1]; rfl)] at hGe; obtain ⟨ad6, rfl, z0⟩ := rd_own ho6 0 (.string ⟨#[98]⟩) rfl)
    | (go_at_call 20; (with_reducible refine hGe.mono ?_); rintro e w7 ⟨v7, rfl, A7, c7, rfl, hx7, ho7, hc7, hm7, hr7⟩; clear hGe; have hCt := count_any w.heap.size s5 d K cs5 w7 (hB5.sto.ext (hx6.trans hx7)); rw [hk.2] at hCt; obtain ⟨_, e0, z1⟩ := rd_own ho6 1 (.string ⟨#[99]⟩) rfl; injection e0 with e0; subst e0; have y0 : w7.cell? ad6 = some (.string ⟨#[98]⟩) := hx7.cell z0; have y1 : w7.cell? ⟨ad6.block, ad6.off + 1, none⟩ = some (.string ⟨#[99]⟩) := hx7.cell z1; clear z0 z1; have hcv := run_convert_rd (P := Tryz.prog) w7 43 9 5 Tryz.underlying43 Tryz.underlying5 Tryz.underlying9 A7 1 c7 [3] rfl hr7)
    | (go_at_call 33; (with_reducible refine hCt.mono ?_); rintro e w8 ⟨rfl, rfl⟩))
  exact hgg.out _ (hx5.trans (hx6.trans hx7))
end Go.Proofs.YtjnbbfhoegeppaaGreatDoor
end
section
/-
  KvOpens: plain parts; the codes of a store's errors.
-/
set_option linter.unusedSimpArgs false
set_option linter.unusedVariables false
namespace Go.Cv.Kv
open Go Go.Cv.Dk Go.Cv.Wal
variable {bump : Int → Int}
/-- A disk whose power stays, its files so. -/
structure Dfp (S : DS) (lg sn nw : FB) (z : Nat) : Prop where
  df : Df S lg sn nw
  bud : S.bud = -1
  room : S.room = 1099511627776
  z : szF lg ≤ z ∧ szF sn ≤ z ∧ szF nw ≤ z
theorem Dfp.used {S : DS} {lg sn nw : FB} {z : Nat} (h : Dfp S lg sn nw z) : Dk.used S.l ≤ 3 * z := by
  obtain ⟨h1, h2, h3⟩ := h.z
  rw [h.df.l, fl_used]; omega
theorem Dfp.fits {S : DS} {lg sn nw : FB} {z : Nat} (h : Dfp S lg sn nw z) (hz : z ≤ 1048576) {b : List UInt8} (hb : b.length ≤ 1048576) : ¬ (b.length : Int) > S.room - Dk.used S.l := by
  have := h.used
  rw [h.room]; omega
theorem Dfp.len {S : DS} {lg sn nw : FB} {z : Nat} (h : Dfp S lg sn nw z) : S.l.length ≤ 3 := by rw [h.df.l]; exact fl_len lg sn nw
theorem dfp_new : Dfp (Dk.DS.mk 1099511627776 [] false (-1) 0) none none none 1048576 := ⟨⟨rfl, rfl⟩, rfl, rfl, Nat.zero_le _, Nat.zero_le _, Nat.zero_le _⟩
theorem Dfp.app_sn {S : DS} {lg nw : FB} (h : Dfp S lg none nw 1048576) {b : List UInt8} (hb : b.length ≤ 1048576) : (Dk.app bump S snL b).1 = 0 ∧ Dfp (Dk.app bump S snL b).2 lg (some (b, 0)) nw 1048576 := by
  obtain ⟨h1, h2⟩ := app_nx (bump := bump) (x := snL) (b := b) nm_ok.2.1 h.df.off (h.fits (Nat.le_refl _) hb)
  rw [h.df.l, fl_add_sn] at h2
  have hb0 : S.bud ≠ 0 := by rw [h.bud]; decide
  exact ⟨h1.trans (cd_go hb0), h2.go hb0, h2.b1 h.bud, h2.room.trans h.room, h.z.1, hb, h.z.2.2⟩
theorem Dfp.app_log {S : DS} {sn nw : FB} (h : Dfp S none sn nw 1048576) {b : List UInt8} (hb : b.length ≤ 1048576) : (Dk.app bump S logL b).1 = 0 ∧ Dfp (Dk.app bump S logL b).2 (some (b, 0)) sn nw 1048576 := by
  obtain ⟨h1, h2⟩ := app_nx (bump := bump) (x := logL) (b := b) nm_ok.1 h.df.off (h.fits (Nat.le_refl _) hb)
  rw [h.df.l, fl_add_log] at h2
  have hb0 : S.bud ≠ 0 := by rw [h.bud]; decide
  exact ⟨h1.trans (cd_go hb0), h2.go hb0, h2.b1 h.bud, h2.room.trans h.room, hb, h.z.2⟩
theorem Dfp.app_nw {S : DS} {lg sn : FB} (h : Dfp S lg sn none 1048576) {b : List UInt8} (hb : b.length ≤ 1048576) : (Dk.app bump S nwL b).1 = 0 ∧ Dfp (Dk.app bump S nwL b).2 lg sn (some (b, 0)) 1048576 := by
  obtain ⟨h1, h2⟩ := app_nx (bump := bump) (x := nwL) (b := b) nm_ok.2.2 h.df.off (h.fits (Nat.le_refl _) hb)
  rw [h.df.l, fl_add_nw] at h2
  have hb0 : S.bud ≠ 0 := by rw [h.bud]; decide
  exact ⟨h1.trans (cd_go hb0), h2.go hb0, h2.b1 h.bud, h2.room.trans h.room, h.z.1, h.z.2.1, hb⟩
/-- What an opening makes of such files. -/
theorem file_open {S : DS} {lb : List UInt8} {sn : FB} {y : List UInt8 × Nat} (h : Df S (some (lb, 0)) sn (some y)) (hb : S.bud = -1) :
    (Dk.rem bump S nwL).1 = 0 ∧ fnd (Dk.rem bump S nwL).2 logL = 0 ∧ cont (Dk.rem bump S nwL).2 logL = lb ∧ (lcut bump (Dk.rem bump S nwL).2 logL (scU lb)).1 = 0 ∧ fnd (lcut bump (Dk.rem bump S nwL).2 logL (scU lb)).2 nwL = 9 := by
  have hb0 : S.bud ≠ 0 := by rw [hb]; decide
  obtain ⟨h1, h2⟩ := rem_nx (bump := bump) h.off (x := nwL) h.fnd_nw
  rw [h.l, fl_del_nw] at h2
  have hD := h2.go hb0
  have hb1 := h2.b1 hb
  generalize (Dk.rem bump S nwL).2 = S1 at *
  have hc : cont S1 logL = lb := hD.cont_log
  have hf : fnd S1 logL = 0 := hD.fnd_log
  refine ⟨h1.trans (cd_go hb0), hf, hc, ?_⟩
  unfold lcut
  rw [hc]
  split
  · rename_i hu
    have hb2 : S1.bud ≠ 0 := by rw [hb1]; decide
    obtain ⟨h3, h4⟩ := trunc_nx (bump := bump) (n := scU lb) hD.off hf (by rw [hc]; omega)
    rw [hD.l, fl_tr_log] at h4
    exact ⟨h3.trans (cd_go hb2), (h4.go hb2).fnd_nw⟩
  · exact ⟨rfl, hD.fnd_nw⟩
theorem doW_len (l : List PP) (w : PW) : (doW l w).length ≤ l.length + 1 := by
  unfold doW
  have h1 : (delK l w.k).length ≤ l.length := List.length_filter_le _ _
  split
  · omega
  · unfold setK
    rw [ins_length]
    omega
theorem fold_len : ∀ (W : List PW) (l : List PP), (W.foldl doW l).length ≤ l.length + W.length
  | [], l => by simp
  | w :: W, l => by
    rw [List.foldl_cons, List.length_cons]
    have h1 := fold_len W (doW l w)
    have h2 := doW_len l w
    omega
theorem opnR_len : ∀ (R : List (List UInt8)) (last : Option Nat) (K K' : KS), opnR last K R = some K' → K'.l.length ≤ K.l.length + 4096 * R.length
  | [], last, K, K', h => by
    simp only [opnR, Option.some.injEq] at h
    rw [h]; simp
  | r :: R, last, K, K', h => by
    simp only [opnR, Option.bind_eq_some_iff] at h
    obtain ⟨x, h1, h2⟩ := h
    obtain ⟨z, hz, hb, rfl⟩ := opn1_inv h1
    have h3 : K'.l.length ≤ (if K.n < z.1 then doB K z.2 else K).l.length + 4096 * R.length := opnR_len R _ _ K' h2
    have h4 := (bat_l hz).1
    have h5 := fold_len z.2 K.l
    rw [List.length_cons]
    split at h3
    · have h6 : (doB K z.2).l.length ≤ K.l.length + 4096 := by show (z.2.foldl doW K.l).length ≤ _; omega
      omega
    · omega
end Go.Cv.Kv
namespace Go.Proofs.YtjnbbfhoegeppaaGreatDoor
open Go.RowKit Go.Cv Go.Cv.Dk Go.Cv.Wal Go.Cv.Kv
theorem kcodeinf : (Tryz.prog.info? 48).map (·.comparable) = some true := by kernel_rfl
theorem kcode_und (w : World) (a b : Int) : (binOp .eql 38 (.iface 48 (.int .i64 a)) (.iface 48 (.int .i64 b))).run Tryz.prog w = .ok (.bool (a == b)) w :=
  run_eql_iface_int' w a b Tryz.underlying38 Tryz.underlying48 kcodeinf
set_option maxHeartbeats 1600000 in
theorem kcode_0 (w : World) : Calls Tryz.prog 13 #[.nilIface] w fun e w' => e = .returned (.int .i64 0) ∧ w = w' := by
  have hc := kcode_und
  go_enter Tryz.func13, Tryz.ntmps13
  go_wp2
  go_ret
  exact ⟨rfl, rfl⟩
set_option maxHeartbeats 1600000 in
theorem kcode_1 (w : World) : Calls Tryz.prog 13 #[.iface 48 (.int .i64 1)] w fun e w' => e = .returned (.int .i64 1) ∧ w = w' := by
  have hc := kcode_und
  go_enter Tryz.func13, Tryz.ntmps13
  go_wp2
  go_ret
  exact ⟨rfl, rfl⟩
set_option maxHeartbeats 1600000 in
theorem kcode_2 (w : World) : Calls Tryz.prog 13 #[.iface 48 (.int .i64 2)] w fun e w' => e = .returned (.int .i64 2) ∧ w = w' := by
  have hc := kcode_und
  go_enter Tryz.func13, Tryz.ntmps13
  go_wp2
  go_ret
  exact ⟨rfl, rfl⟩
set_option maxHeartbeats 1600000 in
theorem kcode_13 (w : World) : Calls Tryz.prog 13 #[.iface 48 (.int .i64 13)] w fun e w' => e = .returned (.int .i64 13) ∧ w = w' := by
  have hc := kcode_und
  go_enter Tryz.func13, Tryz.ntmps13
  go_wp2
  go_ret
  exact ⟨rfl, rfl⟩
end Go.Proofs.YtjnbbfhoegeppaaGreatDoor
end
