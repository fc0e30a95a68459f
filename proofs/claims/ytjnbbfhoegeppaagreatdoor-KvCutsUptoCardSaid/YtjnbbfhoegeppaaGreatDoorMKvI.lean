/-
  Texts of the lemmas below the claim, put together: KvI KvJ KwM.
-/
import Derived.Test.YtjnbbfhoegeppaaGreatDoorMKvF
import Derived.Test.YtjnbbfhoegeppaaGreatDoorMKvA
section
/-
  Walks of the store: Apply.
-/
set_option linter.unusedSimpArgs false
set_option linter.unusedVariables false
namespace Go.Cv.Kv
open Go Go.Cv.Dk Go.Cv.Wal
def logL : List UInt8 := [108, 111, 103]
/-- A batch on a disk. -/
def applyP (bump : Int → Int) (S : DS) (K : KS) (W : List PW) : Nat × DS × KS :=
  if W = [] then (0, S, K) else if may0 W ≠ 0 then (may0 W, S, K) else
  if (lapp bump S logL (recB (K.n + 1) W)).1 ≠ 0 then ((lapp bump S logL (recB (K.n + 1) W)).1, (lapp bump S logL (recB (K.n + 1) W)).2, K)
  else (0, (lapp bump S logL (recB (K.n + 1) W)).2, doB K W)
end Go.Cv.Kv
namespace Go.Proofs.YtjnbbfhoegeppaaGreatDoor
open Go.RowKit Go.Cv Go.Cv.Dk Go.Cv.Wal Go.Cv.Kv
/-- A disk and a store on it. -/
structure Both (w : World) (B d s : Nat) (S : DS) (K : KS) (bs cs : List Nat) : Prop where
  dsk : Dsk w B d S bs
  sto : Sto w B s d K cs
  ap : ∀ x ∈ bs, x ∉ cs
theorem Both.ext {w w' : World} {B d s : Nat} {S : DS} {K : KS} {bs cs : List Nat} (h : Both w B d s S K bs cs) (hx : Ext w w') : Both w' B d s S K bs cs := ⟨h.dsk.ext hx, h.sto.ext hx, h.ap⟩
theorem Both.keep {w w' : World} {B d s : Nat} {S : DS} {K : KS} {bs cs ds : List Nat} (h : Both w B d s S K bs cs) (hk : Keep ds w w') (hb : ∀ x ∈ bs ++ cs, x ∉ ds) : Both w' B d s S K bs cs := ⟨h.dsk.keep hk fun x hx => hb x (by simp [hx]), h.sto.keep hk fun x hx => hb x (by simp [hx]), h.ap⟩
theorem Both.ge {w : World} {B d s : Nat} {S : DS} {K : KS} {bs cs : List Nat} (h : Both w B d s S K bs cs) : ∀ x ∈ bs ++ cs, B ≤ x ∧ x < w.heap.size := fun x hx => by
  rcases List.mem_append.1 hx with hx | hx
  · exact h.dsk.lt x hx
  · exact h.sto.lt x hx
/-- They stand so, their blocks come from bs and cs. -/
def BN (w : World) (B d s : Nat) (bs cs : List Nat) (S' : DS) (K' : KS) (w' : World) : Prop := ∃ bs' cs', Both w' B d s S' K' bs' cs' ∧ Stp (bs ++ cs) (bs' ++ cs') w w'
theorem Both.onD {w w' : World} {B d s : Nat} {S S1 : DS} {K : KS} {bs cs : List Nat} (h : Both w B d s S K bs cs) (k : DN w B d bs S1 w') : ∃ bs', Both w' B d s S1 K bs' cs ∧ Stp (bs ++ cs) (bs' ++ cs) w w' ∧ Stp bs bs' w w' := by
  obtain ⟨bs', hD, hS⟩ := k
  refine ⟨bs', ⟨hD, h.sto.keep hS.k fun x hx hm => h.ap x hm hx, fun x hx hm => ?_⟩, ⟨hS.k.mono (fun x hx => by simp [hx]), fun x hx => ?_⟩, hS⟩
  · rcases hS.n x hx with h1 | h1
    · exact h.ap x h1 hm
    · have := (h.sto.lt x hm).2; omega
  · rcases List.mem_append.1 hx with hx | hx
    · rcases hS.n x hx with h1 | h1
      · exact .inl (by simp [h1])
      · exact .inr h1
    · exact .inl (by simp [hx])
theorem recB_len (n : Nat) (W : List PW) : (recB n W).length = 10 + (W.flatMap encW).length := by
  unfold recB; simp [leN_len]; omega
theorem wsap_stp {A : Option Addr} {W : List WV} {bs cs : List Nat} {w w' : World} (h : WsAp A W bs) (hW : WsAt w A W) (hs : Stp bs cs w w') : WsAp A W cs ∧ WsAt w' A W := by
  refine ⟨⟨?_, fun x hx => ((h.val x hx).step (hW.ok x hx).rd hs).1⟩, hW.keep h hs.k⟩
  rcases W with _ | ⟨x, r⟩
  · exact .inl rfl
  · refine .inr fun y hy => ?_
    obtain ⟨ad, rfl, hlt⟩ := hW.rd.some_ (by simp [WV.cells])
    simp [rowOf] at hy
    subst hy
    rcases h.row with h0 | h0
    · cases h0
    · exact hs.not hlt (h0 _ (by simp [rowOf]))
theorem both_fin {w w3 w4 : World} {B d s g mb : Nat} {S S1 : DS} {K K1 : KS} {bs bs' : List Nat} {L L' : List GV} (h : Both w B d s S K bs (sfoot s g mb L)) (hD : Dsk w3 B d S1 bs') (hS : Stp bs bs' w w3) (hst : StoAt w4 B s d g mb K1 L') (hk : Keep [s, mb] w3 w4)
    (hf : ∀ x ∈ sfoot s g mb L', x ∈ sfoot s g mb L ∨ w3.heap.size ≤ x) : BN w B d s bs (sfoot s g mb L) S1 K1 w4 := by
  have hn : ∀ x ∈ bs', x ∉ sfoot s g mb L := fun x hx hm => by
    rcases hS.n x hx with h1 | h1
    · exact h.ap x h1 hm
    · have := (h.sto.lt x hm).2; omega
  have hsm : ∀ x ∈ [s, mb], x ∈ sfoot s g mb L := by intro x hx; simp [sfoot] at hx ⊢; rcases hx with rfl | rfl <;> simp
  refine ⟨bs', _, ⟨hD.keep hk fun x hx hm => hn x hx (hsm x hm), ⟨g, mb, L', hst, rfl⟩, fun x hx hm => ?_⟩, (hS.k.mono (fun x hx => by simp [hx])).same (hk.mono fun x hx => by simp [hsm x hx]), fun x hx => ?_⟩
  · rcases hf x hm with h1 | h1
    · exact hn x hx h1
    · have := (hD.lt x hx).2; omega
  · rcases List.mem_append.1 hx with hx | hx
    · rcases hS.n x hx with h1 | h1
      · exact .inl (by simp [h1])
      · exact .inr h1
    · rcases hf x hx with h1 | h1
      · exact .inl (by simp [h1])
      · exact .inr (Nat.le_trans hS.k.size h1)
set_option maxRecDepth 4000 in
set_option maxHeartbeats 6400000 in
theorem apply_any (B d s : Nat) (S : DS) (K : KS) (bs cs : List Nat) (A : Option Addr) (c : Nat) (W : List WV) (w : World) (h : Both w B d s S K bs cs) (hW : WsAt w A W) (ha : WsAp A W (bs ++ cs)) (hn : W.length ≤ 1048576) (hKl : K.l.length ≤ 1099511627776) (hK : K.n < 4611686018427387904)
    (hr : (cont S logL).length + (recB (K.n + 1) (W.map WV.pw)).length ≤ 70368744177664) (hS : S.l.length < 281474976710656) :
    Calls Tryz.prog 11 #[.pointer (some ⟨s, 0, none⟩), .slice A W.length c] w fun e w' => e = .returned (errV (applyP wrap64 S K (W.map WV.pw)).1) ∧ BN w B d s bs cs (applyP wrap64 S K (W.map WV.pw)).2.1 (applyP wrap64 S K (W.map WV.pw)).2.2 w' := by
  refine calls_hid fun G hG => ?_
  by_cases h0 : W.length = 0
  · obtain rfl := List.eq_nil_of_length_eq_zero h0
    have hgg := hG.out (.returned (errV 0)) w ⟨rfl, bs, cs, h, Stp.refl _ _⟩
    clear hG h hW
    go_enter Tryz.func11, Tryz.ntmps11
    go_wp2
    exact hgg
  · have q0 : ((W.length : Int) == 0) = false := beq_false_of_ne (by omega)
    have hM := pmay_any A c W w hW hn
    have hne : ¬ W.map WV.pw = [] := by simpa using fun e => h0 (by rw [e]; rfl)
    by_cases hm : may0 (W.map WV.pw) = 0
    · rw [hm, errV_zero] at hM
      have ep : applyP wrap64 S K (W.map WV.pw) = if (lapp wrap64 S logL (recB (K.n + 1) (W.map WV.pw))).1 ≠ 0 then ((lapp wrap64 S logL (recB (K.n + 1) (W.map WV.pw))).1, (lapp wrap64 S logL (recB (K.n + 1) (W.map WV.pw))).2, K)
          else (0, (lapp wrap64 S logL (recB (K.n + 1) (W.map WV.pw))).2, doB K (W.map WV.pw)) := by
        unfold applyP; rw [if_neg hne, if_neg (by rw [hm]; simp)]
      rw [ep] at hG
      obtain ⟨g, mb, L, hst, rfl⟩ := h.sto
      have hBt := fun w1 (hx : Ext w w1) => pbatch_any A c (W) (K.n + 1) w1 (hW.ext hx) (by omega) hn (by omega)
      simp only [show ((K.n + 1 : Nat) : Int) = (K.n : Int) + 1 from by omega] at hBt
      have hgb : g ∉ bs := fun hx => h.ap g hx (by simp [sfoot])
      have hAp := fun (w1 w2 : World) (A2 : Option Addr) (c2 q : Nat) (b : List UInt8) (hx : Ext w w1) (ho : w2.ownsRow w1.heap.size 5 1 (.slice A2 q c2) q (b.map bv)) => lapp_any B g d S bs logN A2 q c2 b
      generalize hrc : recB (K.n + 1) (W.map WV.pw) = rc at *
      have hL2 := fun (w1 w2 : World) (A2 : Option Addr) (c2 : Nat) (hx : Ext w w1) (hx2 : Ext w1 w2) (ho : w2.ownsRow w1.heap.size 5 1 (.slice A2 rc.length c2) rc.length (rc.map bv)) (hr2 : Rd w2 A2 (rc.map bv)) =>
        lapp_any B g d S bs logN A2 rc.length c2 rc w2 (hst.log.ext (hx.trans hx2)) hgb (h.dsk.ext (hx.trans hx2)) (by decide) rfl hr2 (.inr fun x hx3 hm3 => by
          have h3 := base_le ho x hx3
          have h4 := (h.dsk.lt x hm3).2
          have h5 := hx.size
          omega) (by omega) (by show (cont S logL).length + _ ≤ _; omega) hS
      clear hAp
      have e1 : logN.data.toList = logL := rfl
      rw [e1] at hL2
      have c1 : ∀ w', Ext w w' → w'.cell? ⟨s, 1, none⟩ = some (.pointer (some ⟨g, 0, none⟩)) := fun w' hx => (hst.ext hx).row.cell (i := 1) (by simp)
      have c3 : ∀ w', Ext w w' → w'.cell? ⟨s, 3, none⟩ = some (.int .i64 K.n) := fun w' hx => (hst.ext hx).row.cell (i := 3) (by simp)
      generalize rc.length = rn at *
      generalize (lapp wrap64 S logL rc).2 = S1 at *
      have hDo := fun (w' : World) (h' : StoAt w' B s d g mb K L) (hW' : WsAt w' A W) => do_any B s d g mb K L A c W w' h' hW' (ha.mono (by intro x hx; simp [sfoot] at hx ⊢; rcases hx with rfl | rfl <;> simp)) hn (by rw [hst.ls, List.length_map] at hKl; exact hKl) (by omega)
      have hwr : IntKind.i64.wrap ((K.n : Int) + 1) = (K.n : Int) + 1 := IntWalk.i64_in _ (by omega)
      rcases hz : (lapp wrap64 S logL rc).1 with _ | z
      · rw [hz] at hL2 hG
        rw [errV_zero] at hL2
        have hG' : Hid (∀ e w', e = Ending.returned .nilIface ∧ BN w B d s bs (sfoot s g mb L) S1 (doB K (W.map WV.pw)) w' → G e w') := Lib.hid fun e w' x => hG.out e w' ⟨x.1, x.2⟩
        have a1 := c1 w (Ext.refl w)
        have hap := h.ap
        replace hst := Lib.hid hst
        replace h := Lib.hid h
        clear hG ep
        go_enter Tryz.func11, Tryz.ntmps11
        go_wp2_with (go_at_call 34; (with_reducible refine hM.mono ?_); rintro e' w1 ⟨rfl, hx1⟩; have b1 := c1 w1 hx1; have b3 := c3 w1 hx1)
        go_region_law (first
          | (go_simp; go_at_call 36; ((with_reducible refine (hBt _ (hx1.trans (ext_drew _))).mono ?_); rintro e w2 ⟨A2, c2, rfl, hx2, ho2, hc2, hm2, hr2⟩; have d1 := c1 _ ((hx1.trans (ext_drew _)).trans hx2); have d3 := c3 _ ((hx1.trans (ext_drew _)).trans hx2); have hL3 := hL2 _ _ A2 c2 (hx1.trans (ext_drew _)) hx2 ho2 hr2))
          | (go_simp; go_at_call 35; ((with_reducible refine hL3.mono ?_); rintro e w3 ⟨rfl, hD3⟩; obtain ⟨bs', hD', hS'⟩ := hD3.after ((hx1.trans (ext_drew _)).trans hx2); have hst3 := hst.out.keep hS'.k (fun x hx hm => hap x hm hx); have hDo3 := hDo w3 hst3 (hW.keep (ha.mono (fun x hx => List.mem_append_left _ hx)) hS'.k))))
        all_goals
          go_wp2_with (go_at_call 37; (with_reducible refine hDo3.mono ?_); rintro e w4 ⟨rfl, L', hst4, hk4, hf4, hl4⟩)
          exact hG'.out _ _ ⟨rfl, both_fin h.out hD' hS' hst4 hk4 hf4⟩
      · rw [hz] at hL2 hG
        rw [errV_ne (by omega)] at hL2
        have hgg : ∀ w', DN w B d bs S1 w' → G (.returned (.iface 48 (.int .i64 ((z + 1 : Nat) : Int)))) w' := fun w' hd => hG.out _ _ (by
          obtain ⟨bs', hB, hSt, _⟩ := h.onD hd
          exact ⟨rfl, bs', _, hB, hSt⟩)
        replace hgg := Lib.hid hgg
        generalize (((z + 1 : Nat)) : Int) = zz at *
        have a1 := c1 w (Ext.refl w)
        replace hst := Lib.hid hst
        replace h := Lib.hid h
        clear hG hDo hW ep
        go_enter Tryz.func11, Tryz.ntmps11
        go_wp2_with (go_at_call 34; (with_reducible refine hM.mono ?_); rintro e' w1 ⟨rfl, hx1⟩; have b1 := c1 w1 hx1; have b3 := c3 w1 hx1)
        go_region_law (first
          | (go_simp; go_at_call 36; ((with_reducible refine (hBt _ (hx1.trans (ext_drew _))).mono ?_); rintro e w2 ⟨A2, c2, rfl, hx2, ho2, hc2, hm2, hr2⟩; have d1 := c1 _ ((hx1.trans (ext_drew _)).trans hx2); have d3 := c3 _ ((hx1.trans (ext_drew _)).trans hx2); have hL3 := hL2 _ _ A2 c2 (hx1.trans (ext_drew _)) hx2 ho2 hr2))
          | (go_simp; go_at_call 35; ((with_reducible refine hL3.mono ?_); rintro e w3 ⟨rfl, hD3⟩)))
        all_goals
          go_wp2
          exact hgg.out _ (hD3.after ((hx1.trans (ext_drew _)).trans hx2))
    · rw [errV_ne hm] at hM
      have ep : applyP wrap64 S K (W.map WV.pw) = (may0 (W.map WV.pw), S, K) := by unfold applyP; rw [if_neg hne, if_pos hm]
      rw [ep] at hG
      have hgg : ∀ w', Ext w w' → G (.returned (.iface 48 (.int .i64 ((may0 (W.map WV.pw) : Nat) : Int)))) w' := fun w' hx => hG.out _ _ ⟨by show _ = Ending.returned (errV _); rw [errV_ne hm], bs, cs, h.ext hx, Stp.of_ext hx⟩
      replace hgg := Lib.hid hgg
      generalize ((may0 (W.map WV.pw) : Nat) : Int) = mz at *
      clear hG h hW ep
      go_enter Tryz.func11, Tryz.ntmps11
      go_wp2_with (go_at_call 34; (with_reducible refine hM.mono ?_); rintro e' w1 ⟨rfl, hx1⟩)
      exact hgg.out _ hx1
end Go.Proofs.YtjnbbfhoegeppaaGreatDoor
end
section
/-
  Walks of the store: Compact.
-/
set_option linter.unusedSimpArgs false
set_option linter.unusedVariables false
namespace Go.Cv.Kv
open Go Go.Cv.Dk Go.Cv.Wal
def nwL : List UInt8 := [115, 110, 97, 112, 46, 110, 101, 119]
def snL : List UInt8 := [115, 110, 97, 112]
variable (bump : Int → Int)
def cpA (S : DS) (K : KS) : Nat × DS := Dk.app bump S nwL (frame (snpB K))
def cpY (S : DS) (K : KS) : Nat × DS := Dk.syn bump (cpA bump S K).2 nwL
def cpR (S : DS) (K : KS) : Nat × DS := Dk.ren bump (cpY bump S K).2 nwL snL
/-- All is written anew. -/
def compactP (S : DS) (K : KS) : Nat × DS :=
  if 2097152 < (snpB K).length then (2, S) else if (cpA bump S K).1 ≠ 0 then cpA bump S K else if (cpY bump S K).1 ≠ 0 then cpY bump S K else if (cpR bump S K).1 ≠ 0 then cpR bump S K else lclr bump (cpR bump S K).2 logL
end Go.Cv.Kv
namespace Go.Proofs.YtjnbbfhoegeppaaGreatDoor
open Go.RowKit Go.Cv Go.Cv.Dk Go.Cv.Wal Go.Cv.Kv
theorem rename_dk {B d : Nat} {S : DS} {bs : List Nat} (s t : ByteArray) {w : World} (h : Dsk w B d S bs) (hs : s.size ≤ 281474976710656) (ht : t.size ≤ 281474976710656) (hL : S.l.length < 281474976710656) :
    Calls Tryz.prog 44 #[.pointer (some ⟨d, 0, none⟩), .string s, .string t] w fun e w' => e = .returned (errV (ren wrap64 S s.data.toList t.data.toList).1) ∧ DN w B d bs (ren wrap64 S s.data.toList t.data.toList).2 w' := by
  obtain ⟨mb, L, h, rfl⟩ := h
  rw [h.ls, List.length_map] at hL
  exact (rename_any B d mb S L s t w h hs ht hL).mono fun e w' x => ⟨x.1, x.2.dn⟩
theorem remove_dk {B d : Nat} {S : DS} {bs : List Nat} (s : ByteArray) {w : World} (h : Dsk w B d S bs) (hs : s.size ≤ 281474976710656) :
    Calls Tryz.prog 54 #[.pointer (some ⟨d, 0, none⟩), .string s] w fun e w' => e = .returned (errV (rem wrap64 S s.data.toList).1) ∧ DN w B d bs (rem wrap64 S s.data.toList).2 w' := by
  obtain ⟨mb, L, h, rfl⟩ := h
  exact (remove_any B d mb S L s w h hs).mono fun e w' x => ⟨x.1, x.2.dn⟩
theorem DN.then {w w1 w2 : World} {B d : Nat} {bs bs1 : List Nat} {S : DS} (h : Stp bs bs1 w w1) (h' : DN w1 B d bs1 S w2) : DN w B d bs S w2 := by
  obtain ⟨cs, hD, hS⟩ := h'
  exact ⟨cs, hD, h.trans hS⟩
theorem app_len (S : DS) (x b : List UInt8) : (app wrap64 S x b).2.l.length ≤ S.l.length + 1 := by
  unfold app
  split
  · exact Nat.le_succ _
  · split
    · exact Nat.le_succ _
    · split
      · exact Nat.le_succ _
      · show (Dk.upd (may S.l x) x _).length ≤ _
        unfold Dk.upd may
        rw [List.length_map]
        split
        · exact Nat.le_succ _
        · rw [ins_length]; exact Nat.le_refl _
theorem syn_len (S : DS) (x : List UInt8) : (syn wrap64 S x).2.l.length = S.l.length := by
  have hs := (stepd_l S wrap64).1
  unfold syn
  split
  · rfl
  · split
    · show (Dk.upd _ _ _).length = _
      unfold Dk.upd
      rw [List.length_map]
    · rw [hs]
set_option maxRecDepth 4000 in
set_option maxHeartbeats 6400000 in
theorem compact_any (B d s : Nat) (S : DS) (K : KS) (bs cs : List Nat) (w : World) (h : Both w B d s S K bs cs) (hKl : K.l.length ≤ 1099511627776) (hK : K.n < 9223372036854775808) (hb : (snpB K).length ≤ 35184372088832)
    (hr : (cont S nwL).length ≤ 35184372088832) (hS : S.l.length < 1099511627776) :
    Calls Tryz.prog 15 #[.pointer (some ⟨s, 0, none⟩)] w fun e w' => e = .returned (errV (compactP wrap64 S K).1) ∧ BN w B d s bs cs (compactP wrap64 S K).2 K w' := by
  refine calls_hid fun G hG => ?_
  have hSn := snap_any B s d K cs w h.sto hKl hK (by omega)
  obtain ⟨g, mb, L, hst, rfl⟩ := h.sto
  obtain ⟨n, hn⟩ : ∃ n, n = (snpB K).length := ⟨_, rfl⟩
  rw [← hn] at hSn hb
  by_cases h1 : 2097152 < n
  · have hF := fun A c w1 => frame_long A n c w1 h1 (by omega)
    have hgg : ∀ w', Ext w w' → G (.returned (errV 2)) w' := fun w' hx => hG.out _ _ (by
      have e : compactP wrap64 S K = (2, S) := by unfold compactP; rw [if_pos (by rw [← hn]; exact h1)]
      rw [e]; exact ⟨rfl, bs, _, h.ext hx, Stp.of_ext hx⟩)
    replace hgg := Lib.hid hgg
    replace hn := Lib.hid hn
    clear hG h hst
    go_enter Tryz.func15, Tryz.ntmps15
    go_wp2_with (first
      | (go_at_call 42; (with_reducible refine hSn.mono ?_); rintro e w1 ⟨A1, c1, rfl, hx1, ho1, hc1, hm1, hr1⟩)
      | (go_at_call 41; (with_reducible refine (hF _ _ _).mono ?_); rintro e w2 ⟨rfl, rfl⟩))
    exact hgg.out _ hx1
  · have hfl : (frame (snpB K)).length = 8 + n := by rw [frame_length, hn]
    have hF := fun A c w1 (hr1 : Rd w1 A ((snpB K).map bv)) => frame_any A n c (snpB K) w1 hn.symm hr1 (by omega)
    have hap := h.ap
    have hstk : ∀ w' bs', Stp bs bs' w w' → w'.cell? ⟨s, 0, none⟩ = some (.pointer (some ⟨d, 0, none⟩)) ∧ w'.cell? ⟨s, 1, none⟩ = some (.pointer (some ⟨g, 0, none⟩)) ∧ LogAt w' g d logN ∧ g ∉ bs' := fun w' bs' hS => by
      have h' := hst.keep hS.k fun x hx hm => hap x hm hx
      exact ⟨h'.row.cell (i := 0) (by simp), h'.row.cell (i := 1) (by simp), h'.log, hS.not hst.log.lt fun hx => hap g hx (by simp [sfoot])⟩
    have hfin : ∀ w' S', DN w B d bs S' w' → BN w B d s bs (sfoot s g mb L) S' K w' := fun w' S' hd => by
      obtain ⟨bs', hB, hSt, _⟩ := h.onD hd
      exact ⟨bs', _, hB, hSt⟩
    have hAp : ∀ (w1 w2 : World) (A2 : Option Addr) (c2 : Nat) (hx1 : Ext w w1) (hx : Ext w1 w2) (ho : w2.ownsRow w1.heap.size 5 1 (.slice A2 (8 + n) c2) (8 + n) ((frame (snpB K)).map bv)) (hr2 : Rd w2 A2 ((frame (snpB K)).map bv)),
      Calls Tryz.prog 27 #[.pointer (some ⟨d, 0, none⟩), .string ⟨#[115, 110, 97, 112, 46, 110, 101, 119]⟩, .slice A2 (8 + n) c2] w2 fun e w' => e = .returned (errV (cpA wrap64 S K).1) ∧ DN w2 B d bs (cpA wrap64 S K).2 w' := fun w1 w2 A2 c2 hx1 hx ho hr2 =>
      append_dk (w := w2) ⟨#[115, 110, 97, 112, 46, 110, 101, 119]⟩ A2 (8 + n) c2 (frame (snpB K)) (h.dsk.ext (hx1.trans hx)) (by decide) hfl hr2 (.inr fun x hx3 hm3 => by
        have h3 := base_le ho x hx3
        have h4 := (h.dsk.lt x hm3).2
        have h5 := hx1.size
        omega) (by show (cont S nwL).length + _ ≤ _; omega) (by omega)
    have hYp : ∀ w3 bs1, Dsk w3 B d (cpA wrap64 S K).2 bs1 → Calls Tryz.prog 43 #[.pointer (some ⟨d, 0, none⟩), .string ⟨#[115, 110, 97, 112, 46, 110, 101, 119]⟩] w3 fun e w' => e = .returned (errV (cpY wrap64 S K).1) ∧ DN w3 B d bs1 (cpY wrap64 S K).2 w' := fun w3 bs1 hD => sync_dk ⟨#[115, 110, 97, 112, 46, 110, 101, 119]⟩ hD (by decide)
    have hRp : ∀ w3 bs1, Dsk w3 B d (cpY wrap64 S K).2 bs1 → Calls Tryz.prog 44 #[.pointer (some ⟨d, 0, none⟩), .string ⟨#[115, 110, 97, 112, 46, 110, 101, 119]⟩, .string ⟨#[115, 110, 97, 112]⟩] w3 fun e w' => e = .returned (errV (cpR wrap64 S K).1) ∧ DN w3 B d bs1 (cpR wrap64 S K).2 w' := fun w3 bs1 hD => rename_dk ⟨#[115, 110, 97, 112, 46, 110, 101, 119]⟩ ⟨#[115, 110, 97, 112]⟩ hD (by decide) (by decide) (by
      have h1 : (cpY wrap64 S K).2.l.length = _ := syn_len _ _
      have h2 : (cpA wrap64 S K).2.l.length ≤ _ := app_len _ _ _
      rw [h1]
      omega)
    have hCp : ∀ w3 bs1, Dsk w3 B d (cpR wrap64 S K).2 bs1 → LogAt w3 g d logN → Calls Tryz.prog 45 #[.pointer (some ⟨g, 0, none⟩)] w3 fun e w' => e = .returned (errV (lclr wrap64 (cpR wrap64 S K).2 logL).1) ∧ DN w3 B d bs1 (lclr wrap64 (cpR wrap64 S K).2 logL).2 w' := fun w3 bs1 hD hl => lclr_any B g d _ bs1 logN w3 hl hD (by decide)
    have ep : compactP wrap64 S K = if (cpA wrap64 S K).1 ≠ 0 then cpA wrap64 S K else if (cpY wrap64 S K).1 ≠ 0 then cpY wrap64 S K else if (cpR wrap64 S K).1 ≠ 0 then cpR wrap64 S K else lclr wrap64 (cpR wrap64 S K).2 logL := by
      unfold compactP; rw [if_neg (by rw [← hn]; exact h1)]
    rw [ep] at hG
    have a0 := (hstk w bs (Stp.refl _ _)).1
    replace hstk := Lib.hid hstk
    replace hfin := Lib.hid hfin
    replace hst := Lib.hid hst
    replace h := Lib.hid h
    replace hn := Lib.hid hn
    generalize lclr wrap64 (cpR wrap64 S K).2 logL = xc at *
    generalize cpR wrap64 S K = xr at *
    generalize cpY wrap64 S K = xy at *
    generalize cpA wrap64 S K = xa at *
    obtain ⟨qc, S4⟩ := xc
    obtain ⟨qr, S3⟩ := xr
    obtain ⟨qy, S2⟩ := xy
    obtain ⟨qa, S1⟩ := xa
    clear ep
    dsimp only at hG hAp hYp hRp hCp
    by_cases ha : qa = 0
    · subst ha
      rw [errV_zero] at hAp
      rw [if_neg (by simp)] at hG
      by_cases hy : qy = 0
      · subst hy
        rw [errV_zero] at hYp
        rw [if_neg (by simp)] at hG
        by_cases hq : qr = 0
        · subst hq
          rw [errV_zero] at hRp
          rw [if_neg (by simp)] at hG
          have hgg : ∀ w', DN w B d bs S4 w' → G (.returned (errV qc)) w' := fun w' hd => hG.out _ _ ⟨rfl, hfin.out _ _ hd⟩
          replace hgg := Lib.hid hgg
          clear hG
          go_enter Tryz.func15, Tryz.ntmps15
          go_wp2_with (first
            | (go_at_call 42; (with_reducible refine hSn.mono ?_); rintro e w1 ⟨A1, c1, rfl, hx1, ho1, hc1, hm1, hr1⟩)
            | (go_at_call 41; (with_reducible refine (hF _ _ _ hr1).mono ?_); rintro e w2 ⟨A2, c2, rfl, hx2, ho2, hc2, hm2, hr2⟩; have b0 := (hstk.out w2 bs (Stp.of_ext (hx1.trans hx2))).1)
            | (go_at_call 27; (with_reducible refine (hAp w1 w2 A2 c2 hx1 hx2 ho2 hr2).mono ?_); rintro e w3 ⟨rfl, hD3⟩; obtain ⟨bs3, hD3, hS3⟩ := hD3.after (hx1.trans hx2); have b0' := (hstk.out w3 bs3 hS3).1)
            | (go_at_call 43; (with_reducible refine (hYp w3 bs3 hD3).mono ?_); rintro e w4 ⟨rfl, hD4⟩; obtain ⟨bs4, hD4, hS4⟩ := hD4.then hS3; have b0'' := (hstk.out w4 bs4 hS4).1)
            | (go_at_call 44; (with_reducible refine (hRp w4 bs4 hD4).mono ?_); rintro e w5 ⟨rfl, hD5⟩; obtain ⟨bs5, hD5, hS5⟩ := hD5.then hS4; obtain ⟨b0''', b1, hlg, hgn⟩ := hstk.out w5 bs5 hS5; replace hlg := Lib.hid hlg)
            | (go_at_call 45; (with_reducible refine (hCp w5 bs5 hD5 hlg.out).mono ?_); rintro e w6 ⟨rfl, hD6⟩))
          exact hgg.out _ (hD6.then hS5)
        · rw [errV_ne hq] at hRp
          rw [if_pos (by simpa using hq)] at hG
          have hgg : ∀ w', DN w B d bs S3 w' → G (.returned (.iface 48 (.int .i64 (qr : Nat)))) w' := fun w' hd => hG.out _ _ ⟨by rw [errV_ne hq], hfin.out _ _ hd⟩
          replace hgg := Lib.hid hgg
          clear hG
          generalize ((qr : Nat) : Int) = qz at *
          go_enter Tryz.func15, Tryz.ntmps15
          go_wp2_with (first
            | (go_at_call 42; (with_reducible refine hSn.mono ?_); rintro e w1 ⟨A1, c1, rfl, hx1, ho1, hc1, hm1, hr1⟩)
            | (go_at_call 41; (with_reducible refine (hF _ _ _ hr1).mono ?_); rintro e w2 ⟨A2, c2, rfl, hx2, ho2, hc2, hm2, hr2⟩; have b0 := (hstk.out w2 bs (Stp.of_ext (hx1.trans hx2))).1)
            | (go_at_call 27; (with_reducible refine (hAp w1 w2 A2 c2 hx1 hx2 ho2 hr2).mono ?_); rintro e w3 ⟨rfl, hD3⟩; obtain ⟨bs3, hD3, hS3⟩ := hD3.after (hx1.trans hx2); have b0' := (hstk.out w3 bs3 hS3).1)
            | (go_at_call 43; (with_reducible refine (hYp w3 bs3 hD3).mono ?_); rintro e w4 ⟨rfl, hD4⟩; obtain ⟨bs4, hD4, hS4⟩ := hD4.then hS3; have b0'' := (hstk.out w4 bs4 hS4).1)
            | (go_at_call 44; (with_reducible refine (hRp w4 bs4 hD4).mono ?_); rintro e w5 ⟨rfl, hD5⟩))
          exact hgg.out _ (hD5.then hS4)
      · rw [errV_ne hy] at hYp
        rw [if_pos (by simpa using hy)] at hG
        have hgg : ∀ w', DN w B d bs S2 w' → G (.returned (.iface 48 (.int .i64 (qy : Nat)))) w' := fun w' hd => hG.out _ _ ⟨by rw [errV_ne hy], hfin.out _ _ hd⟩
        replace hgg := Lib.hid hgg
        clear hG
        generalize ((qy : Nat) : Int) = qz at *
        go_enter Tryz.func15, Tryz.ntmps15
        go_wp2_with (first
          | (go_at_call 42; (with_reducible refine hSn.mono ?_); rintro e w1 ⟨A1, c1, rfl, hx1, ho1, hc1, hm1, hr1⟩)
          | (go_at_call 41; (with_reducible refine (hF _ _ _ hr1).mono ?_); rintro e w2 ⟨A2, c2, rfl, hx2, ho2, hc2, hm2, hr2⟩; have b0 := (hstk.out w2 bs (Stp.of_ext (hx1.trans hx2))).1)
          | (go_at_call 27; (with_reducible refine (hAp w1 w2 A2 c2 hx1 hx2 ho2 hr2).mono ?_); rintro e w3 ⟨rfl, hD3⟩; obtain ⟨bs3, hD3, hS3⟩ := hD3.after (hx1.trans hx2); have b0' := (hstk.out w3 bs3 hS3).1)
          | (go_at_call 43; (with_reducible refine (hYp w3 bs3 hD3).mono ?_); rintro e w4 ⟨rfl, hD4⟩))
        exact hgg.out _ (hD4.then hS3)
    · rw [errV_ne ha] at hAp
      rw [if_pos (by simpa using ha)] at hG
      have hgg : ∀ w', DN w B d bs S1 w' → G (.returned (.iface 48 (.int .i64 (qa : Nat)))) w' := fun w' hd => hG.out _ _ ⟨by rw [errV_ne ha], hfin.out _ _ hd⟩
      replace hgg := Lib.hid hgg
      clear hG
      generalize ((qa : Nat) : Int) = qz at *
      go_enter Tryz.func15, Tryz.ntmps15
      go_wp2_with (first
        | (go_at_call 42; (with_reducible refine hSn.mono ?_); rintro e w1 ⟨A1, c1, rfl, hx1, ho1, hc1, hm1, hr1⟩)
        | (go_at_call 41; (with_reducible refine (hF _ _ _ hr1).mono ?_); rintro e w2 ⟨A2, c2, rfl, hx2, ho2, hc2, hm2, hr2⟩; have b0 := (hstk.out w2 bs (Stp.of_ext (hx1.trans hx2))).1)
        | (go_at_call 27; (with_reducible refine (hAp w1 w2 A2 c2 hx1 hx2 ho2 hr2).mono ?_); rintro e w3 ⟨rfl, hD3⟩))
      exact hgg.out _ (hD3.after (hx1.trans hx2))
end Go.Proofs.YtjnbbfhoegeppaaGreatDoor
end
section
/-
  Plain: a disk of a store's three files.
-/
set_option linter.unusedSimpArgs false
set_option linter.unusedVariables false
namespace Go.Cv.Kv
open Go Go.Cv.Dk Go.Cv.Wal
/-- A file's bytes, and how many are synced. -/
abbrev FB := Option (List UInt8 × Nat)
def one (x : List UInt8) (f : FB) : List PF := match f with | some y => [⟨x, y.1, y.2⟩] | none => []
def fl (lg sn nw : FB) : List PF := one logL lg ++ (one snL sn ++ one nwL nw)
def szF (f : FB) : Nat := match f with | some y => y.1.length | none => 0
def cutm (keep : Int) (f : FB) : FB := f.map fun y => (y.1.take (y.2 + (max keep 0).toNat % (y.1.length - y.2 + 1)), y.2 + (max keep 0).toNat % (y.1.length - y.2 + 1))
def addm (b : List UInt8) (f : FB) : FB := match f with | some y => some (y.1 ++ b, y.2) | none => some (b, 0)
def synm (f : FB) : FB := f.map fun y => (y.1, y.1.length)
def trm (n : Nat) (f : FB) : FB := f.map fun y => (y.1.take n, n)
def ctF (f : FB) : List UInt8 := match f with | some y => y.1 | none => []
theorem nm_ne : (logL = snL) = False ∧ (logL = nwL) = False ∧ (snL = nwL) = False ∧ (snL = logL) = False ∧ (nwL = logL) = False ∧ (nwL = snL) = False := by
  refine ⟨?_, ?_, ?_, ?_, ?_, ?_⟩ <;> exact eq_false (by decide)
theorem nm_bb : bytesBefore logL snL = true ∧ bytesBefore logL nwL = true ∧ bytesBefore snL nwL = true ∧ bytesBefore snL logL = false ∧ bytesBefore nwL logL = false ∧ bytesBefore nwL snL = false := by decide
theorem nm_ok : nameOk logL = true ∧ nameOk snL = true ∧ nameOk nwL = true := by decide
section
variable (lg sn nw : FB)
theorem fl_used : used (fl lg sn nw) = szF lg + szF sn + szF nw := by
  rcases lg with _ | ⟨b1, y1⟩ <;> rcases sn with _ | ⟨b2, y2⟩ <;> rcases nw with _ | ⟨b3, y3⟩ <;> simp [fl, one, used, szF] <;> omega
theorem fl_get_log : Dk.get (fl lg sn nw) logL = lg.map fun y => ⟨logL, y.1, y.2⟩ := by
  obtain ⟨h1, h2, h3, h4, h5, h6⟩ := nm_ne
  rcases lg with _ | ⟨b1, y1⟩ <;> rcases sn with _ | ⟨b2, y2⟩ <;> rcases nw with _ | ⟨b3, y3⟩ <;> simp [fl, one, Dk.get, h1, h2, h3, h4, h5, h6]
theorem fl_get_sn : Dk.get (fl lg sn nw) snL = sn.map fun y => ⟨snL, y.1, y.2⟩ := by
  obtain ⟨h1, h2, h3, h4, h5, h6⟩ := nm_ne
  rcases lg with _ | ⟨b1, y1⟩ <;> rcases sn with _ | ⟨b2, y2⟩ <;> rcases nw with _ | ⟨b3, y3⟩ <;> simp [fl, one, Dk.get, h1, h2, h3, h4, h5, h6]
theorem fl_get_nw : Dk.get (fl lg sn nw) nwL = nw.map fun y => ⟨nwL, y.1, y.2⟩ := by
  obtain ⟨h1, h2, h3, h4, h5, h6⟩ := nm_ne
  rcases lg with _ | ⟨b1, y1⟩ <;> rcases sn with _ | ⟨b2, y2⟩ <;> rcases nw with _ | ⟨b3, y3⟩ <;> simp [fl, one, Dk.get, h1, h2, h3, h4, h5, h6]
theorem fl_add_log (b : List UInt8) : upd (Dk.may (fl lg sn nw) logL) logL (fun f => { f with b := f.b ++ b }) = fl (addm b lg) sn nw := by
  obtain ⟨h1, h2, h3, h4, h5, h6⟩ := nm_ne
  obtain ⟨g1, g2, g3, g4, g5, g6⟩ := nm_bb
  unfold Dk.may has
  rw [fl_get_log]
  rcases lg with _ | ⟨b1, y1⟩ <;> rcases sn with _ | ⟨b2, y2⟩ <;> rcases nw with _ | ⟨b3, y3⟩ <;> simp [fl, one, upd, ins, addm, h1, h2, h3, h4, h5, h6, g1, g2, g3, g4, g5, g6]
theorem fl_add_nw (b : List UInt8) : upd (Dk.may (fl lg sn nw) nwL) nwL (fun f => { f with b := f.b ++ b }) = fl lg sn (addm b nw) := by
  obtain ⟨h1, h2, h3, h4, h5, h6⟩ := nm_ne
  obtain ⟨g1, g2, g3, g4, g5, g6⟩ := nm_bb
  unfold Dk.may has
  rw [fl_get_nw]
  rcases lg with _ | ⟨b1, y1⟩ <;> rcases sn with _ | ⟨b2, y2⟩ <;> rcases nw with _ | ⟨b3, y3⟩ <;> simp [fl, one, upd, ins, addm, h1, h2, h3, h4, h5, h6, g1, g2, g3, g4, g5, g6]
theorem fl_add_sn (b : List UInt8) : upd (Dk.may (fl lg sn nw) snL) snL (fun f => { f with b := f.b ++ b }) = fl lg (addm b sn) nw := by
  obtain ⟨h1, h2, h3, h4, h5, h6⟩ := nm_ne
  obtain ⟨g1, g2, g3, g4, g5, g6⟩ := nm_bb
  unfold Dk.may has
  rw [fl_get_sn]
  rcases lg with _ | ⟨b1, y1⟩ <;> rcases sn with _ | ⟨b2, y2⟩ <;> rcases nw with _ | ⟨b3, y3⟩ <;> simp [fl, one, upd, ins, addm, h1, h2, h3, h4, h5, h6, g1, g2, g3, g4, g5, g6]
theorem fl_syn_log : upd (fl lg sn nw) logL (fun f => { f with sy := f.b.length }) = fl (synm lg) sn nw := by
  obtain ⟨h1, h2, h3, h4, h5, h6⟩ := nm_ne
  rcases lg with _ | ⟨b1, y1⟩ <;> rcases sn with _ | ⟨b2, y2⟩ <;> rcases nw with _ | ⟨b3, y3⟩ <;> simp [fl, one, upd, synm, h1, h2, h3, h4, h5, h6]
theorem fl_syn_nw : upd (fl lg sn nw) nwL (fun f => { f with sy := f.b.length }) = fl lg sn (synm nw) := by
  obtain ⟨h1, h2, h3, h4, h5, h6⟩ := nm_ne
  rcases lg with _ | ⟨b1, y1⟩ <;> rcases sn with _ | ⟨b2, y2⟩ <;> rcases nw with _ | ⟨b3, y3⟩ <;> simp [fl, one, upd, synm, h1, h2, h3, h4, h5, h6]
theorem fl_tr_log (n : Nat) : upd (fl lg sn nw) logL (fun f => { f with b := f.b.take ((n : Int)).toNat, sy := ((n : Int)).toNat }) = fl (trm n lg) sn nw := by
  obtain ⟨h1, h2, h3, h4, h5, h6⟩ := nm_ne
  rcases lg with _ | ⟨b1, y1⟩ <;> rcases sn with _ | ⟨b2, y2⟩ <;> rcases nw with _ | ⟨b3, y3⟩ <;> simp [fl, one, upd, trm, h1, h2, h3, h4, h5, h6]
theorem fl_del_nw : del (fl lg sn nw) nwL = fl lg sn none := by
  obtain ⟨h1, h2, h3, h4, h5, h6⟩ := nm_ne
  rcases lg with _ | ⟨b1, y1⟩ <;> rcases sn with _ | ⟨b2, y2⟩ <;> rcases nw with _ | ⟨b3, y3⟩ <;> simp [fl, one, del, h1, h2, h3, h4, h5, h6]
theorem fl_del_sn : del (fl lg sn nw) snL = fl lg none nw := by
  obtain ⟨h1, h2, h3, h4, h5, h6⟩ := nm_ne
  rcases lg with _ | ⟨b1, y1⟩ <;> rcases sn with _ | ⟨b2, y2⟩ <;> rcases nw with _ | ⟨b3, y3⟩ <;> simp [fl, one, del, h1, h2, h3, h4, h5, h6]
theorem fl_ins_sn (b : List UInt8) (y : Nat) : ins PF.nm ⟨snL, b, y⟩ (fl lg none none) = fl lg (some (b, y)) none := by
  obtain ⟨g1, g2, g3, g4, g5, g6⟩ := nm_bb
  rcases lg with _ | ⟨b1, y1⟩ <;> simp [fl, one, ins, g1, g2, g3, g4, g5, g6]
theorem fl_cut (keep : Int) : (fl lg sn nw).map (cutf keep) = fl (cutm keep lg) (cutm keep sn) (cutm keep nw) := by
  rcases lg with _ | ⟨b1, y1⟩ <;> rcases sn with _ | ⟨b2, y2⟩ <;> rcases nw with _ | ⟨b3, y3⟩ <;> rfl
theorem fl_len : (fl lg sn nw).length ≤ 3 := by
  rcases lg with _ | ⟨b1, y1⟩ <;> rcases sn with _ | ⟨b2, y2⟩ <;> rcases nw with _ | ⟨b3, y3⟩ <;> simp [fl, one]
end
/-! ### a disk whose files are so -/
/-- The power is on, the files are so. -/
structure Df (S : DS) (lg sn nw : FB) : Prop where
  off : S.off = false
  l : S.l = fl lg sn nw
/-- What one step makes: the files l' where it's done, l0 where the power goes. -/
structure Nx (S S' : DS) (l0 l' : List PF) : Prop where
  l : S'.l = if S.bud = 0 then l0 else l'
  room : S'.room = S.room
  off : S'.off = decide (S.bud = 0)
  b1 : S.bud = -1 → S'.bud = -1
def cd (S : DS) : Nat := if S.bud = 0 then 11 else 0
variable {bump : Int → Int}
theorem stepd_no {S : DS} (h : S.bud = 0) : stepd S bump = (false, { S with off := true }) := by unfold stepd; exact if_pos h
theorem stepd_go {S : DS} (h : S.bud ≠ 0) : stepd S bump = (true, { S with bud := if S.bud > 0 then S.bud - 1 else S.bud, st := bump (S.st + 1) }) := by unfold stepd; exact if_neg h
theorem nx_of {S S' : DS} {l0 l' : List PF} (ho : S.off = false) (h : S' = if S.bud = 0 then { S with off := true, l := l0 } else { S with bud := (if S.bud > 0 then S.bud - 1 else S.bud), st := bump (S.st + 1), l := l' }) : Nx S S' l0 l' := by
  by_cases hb : S.bud = 0
  · rw [if_pos hb] at h
    subst h
    exact ⟨by rw [if_pos hb], rfl, by rw [decide_eq_true hb], fun e => by rw [e] at hb; cases hb⟩
  · rw [if_neg hb] at h
    subst h
    refine ⟨by rw [if_neg hb], rfl, by rw [decide_eq_false hb]; exact ho, fun e => ?_⟩
    show (if S.bud > 0 then S.bud - 1 else S.bud) = -1
    rw [e]; decide
theorem app_nx {S : DS} {x b : List UInt8} (hx : nameOk x = true) (ho : S.off = false) (hr : ¬ (b.length : Int) > S.room - used S.l) :
    (Dk.app bump S x b).1 = cd S ∧ Nx S (Dk.app bump S x b).2 (upd (Dk.may S.l x) x fun f => { f with b := f.b ++ b }) (upd (Dk.may S.l x) x fun f => { f with b := f.b ++ b }) := by
  unfold Dk.app
  rw [if_neg (by rw [hx]; simp), if_neg (by rw [ho]; simp), if_neg hr]
  by_cases hb : S.bud = 0
  · rw [stepd_no hb]
    exact ⟨by unfold cd; rw [if_pos hb]; rfl, nx_of (bump := bump) ho (by rw [if_pos hb])⟩
  · rw [stepd_go hb]
    exact ⟨by unfold cd; rw [if_neg hb]; rfl, nx_of (bump := bump) ho (by rw [if_neg hb])⟩
theorem app_full {S : DS} {x b : List UInt8} (hx : nameOk x = true) (ho : S.off = false) (hr : (b.length : Int) > S.room - used S.l) : Dk.app bump S x b = (12, S) := by
  unfold Dk.app
  rw [if_neg (by rw [hx]; simp), if_neg (by rw [ho]; simp), if_pos hr]
theorem syn_nx {S : DS} {x : List UInt8} (ho : S.off = false) (hf : fnd S x = 0) :
    (Dk.syn bump S x).1 = cd S ∧ Nx S (Dk.syn bump S x).2 S.l (upd S.l x fun f => { f with sy := f.b.length }) := by
  unfold Dk.syn
  rw [if_neg (by rw [hf]; simp)]
  by_cases hb : S.bud = 0
  · rw [stepd_no hb]
    exact ⟨by unfold cd; rw [if_pos hb]; rfl, nx_of (bump := bump) ho (by rw [if_pos hb]; rfl)⟩
  · rw [stepd_go hb]
    exact ⟨by unfold cd; rw [if_neg hb]; rfl, nx_of (bump := bump) ho (by rw [if_neg hb]; rfl)⟩
theorem trunc_nx {S : DS} {x : List UInt8} {n : Nat} (ho : S.off = false) (hf : fnd S x = 0) (hn : n ≤ (cont S x).length) :
    (Dk.trunc bump S x n).1 = cd S ∧ Nx S (Dk.trunc bump S x n).2 S.l (upd S.l x fun f => { f with b := f.b.take ((n : Int)).toNat, sy := ((n : Int)).toNat }) := by
  unfold Dk.trunc
  rw [if_neg (by rw [hf]; simp), if_neg (by omega)]
  by_cases hb : S.bud = 0
  · rw [stepd_no hb]
    exact ⟨by unfold cd; rw [if_pos hb]; rfl, nx_of (bump := bump) ho (by rw [if_pos hb]; rfl)⟩
  · rw [stepd_go hb]
    exact ⟨by unfold cd; rw [if_neg hb]; rfl, nx_of (bump := bump) ho (by rw [if_neg hb]; rfl)⟩
theorem rem_nx {S : DS} {x : List UInt8} (ho : S.off = false) (hf : fnd S x = 0) : (Dk.rem bump S x).1 = cd S ∧ Nx S (Dk.rem bump S x).2 S.l (del S.l x) := by
  unfold Dk.rem
  rw [if_neg (by rw [hf]; simp)]
  by_cases hb : S.bud = 0
  · rw [stepd_no hb]
    exact ⟨by unfold cd; rw [if_pos hb]; rfl, nx_of (bump := bump) ho (by rw [if_pos hb]; rfl)⟩
  · rw [stepd_go hb]
    exact ⟨by unfold cd; rw [if_neg hb]; rfl, nx_of (bump := bump) ho (by rw [if_neg hb]; rfl)⟩
theorem ren_nx {S : DS} {x y : List UInt8} {f : PF} (hy : nameOk y = true) (ho : S.off = false) (hg : Dk.get S.l x = some f) :
    (Dk.ren bump S x y).1 = cd S ∧ Nx S (Dk.ren bump S x y).2 S.l (ins PF.nm { f with nm := y } (del (del S.l x) y)) := by
  have hf : fnd S x = 0 := by unfold fnd has; rw [ho, hg]; rfl
  unfold Dk.ren
  rw [if_neg (by rw [hy]; simp), if_neg (by rw [hf]; simp), hg]
  by_cases hb : S.bud = 0
  · rw [stepd_no hb]
    exact ⟨by unfold cd; rw [if_pos hb]; rfl, nx_of (bump := bump) ho (by rw [if_pos hb]; rfl)⟩
  · rw [stepd_go hb]
    exact ⟨by unfold cd; rw [if_neg hb]; rfl, nx_of (bump := bump) ho (by rw [if_neg hb]; rfl)⟩
theorem Nx.go {S S' : DS} {l0 lg sn nw} (h : Nx S S' l0 (fl lg sn nw)) (hb : S.bud ≠ 0) : Df S' lg sn nw := ⟨by rw [h.off, decide_eq_false hb], by rw [h.l, if_neg hb]⟩
theorem Nx.no {S S' : DS} {l0 l' : List PF} (h : Nx S S' l0 l') (hb : S.bud = 0) : S'.off = true ∧ S'.l = l0 := ⟨by rw [h.off, decide_eq_true hb], by rw [h.l, if_pos hb]⟩
section
variable {S : DS} {lg sn nw : FB}
theorem Df.fnd_log (h : Df S lg sn nw) : fnd S logL = if lg.isSome then 0 else 9 := by unfold fnd has; rw [h.off, h.l, fl_get_log, Option.isSome_map]; rfl
theorem Df.fnd_sn (h : Df S lg sn nw) : fnd S snL = if sn.isSome then 0 else 9 := by unfold fnd has; rw [h.off, h.l, fl_get_sn, Option.isSome_map]; rfl
theorem Df.fnd_nw (h : Df S lg sn nw) : fnd S nwL = if nw.isSome then 0 else 9 := by unfold fnd has; rw [h.off, h.l, fl_get_nw, Option.isSome_map]; rfl
theorem Df.cont_log (h : Df S lg sn nw) : cont S logL = ctF lg := by unfold cont; rw [h.l, fl_get_log]; cases lg <;> rfl
theorem Df.cont_sn (h : Df S lg sn nw) : cont S snL = ctF sn := by unfold cont; rw [h.l, fl_get_sn]; cases sn <;> rfl
theorem Df.cont_nw (h : Df S lg sn nw) : cont S nwL = ctF nw := by unfold cont; rw [h.l, fl_get_nw]; cases nw <;> rfl
theorem ctF_len (f : FB) : (ctF f).length = szF f := by cases f <;> rfl
theorem addm_some (b : List UInt8) (f : FB) : (addm b f).isSome = true := by cases f <;> rfl
theorem cd_go (h : S.bud ≠ 0) : cd S = 0 := if_neg h
theorem cd_no (h : S.bud = 0) : cd S = 11 := if_pos h
/-- A record is appended. -/
theorem lapp_fl {b : List UInt8} (h : Df S lg sn nw) (hb : b.length ≤ 2097152) (hr : ¬ ((frame b).length : Int) > S.room - used S.l) :
    (lapp bump S logL b).2.room = S.room ∧
    (((lapp bump S logL b).1 = 0 ∧ Df (lapp bump S logL b).2 (synm (addm (frame b) lg)) sn nw ∧ (S.bud = -1 → (lapp bump S logL b).2.bud = -1)) ∨
     ((lapp bump S logL b).1 = 11 ∧ S.bud ≠ -1 ∧ (lapp bump S logL b).2.off = true ∧ (lapp bump S logL b).2.l = fl (addm (frame b) lg) sn nw)) := by
  obtain ⟨h1, h2⟩ := app_nx (bump := bump) (x := logL) (b := frame b) nm_ok.1 h.off hr
  rw [h.l, fl_add_log] at h2
  unfold lapp
  rw [if_neg (by omega)]
  by_cases hb0 : S.bud = 0
  · rw [h1, cd_no hb0, if_pos (by simp)]
    obtain ⟨h3, h4⟩ := h2.no hb0
    exact ⟨h2.room, .inr ⟨h1.trans (cd_no hb0), by rw [hb0]; decide, h3, h4⟩⟩
  · rw [h1, cd_go hb0, if_neg (by simp)]
    have hD := h2.go hb0
    have hr2 := h2.room
    have hn2 := h2.b1
    generalize (Dk.app bump S logL (frame b)).2 = S1 at *
    have hf : fnd S1 logL = 0 := by rw [hD.fnd_log, addm_some]; rfl
    obtain ⟨h5, h6⟩ := syn_nx (bump := bump) hD.off hf
    rw [hD.l, fl_syn_log] at h6
    refine ⟨h6.room.trans hr2, ?_⟩
    by_cases hb1 : S1.bud = 0
    · obtain ⟨h7, h8⟩ := h6.no hb1
      exact .inr ⟨h5.trans (cd_no hb1), (fun e => by rw [hn2 e] at hb1; cases hb1), h7, h8⟩
    · exact .inl ⟨h5.trans (cd_go hb1), h6.go hb1, fun e => h6.b1 (hn2 e)⟩
theorem lapp_full {b : List UInt8} (h : Df S lg sn nw) (hb : b.length ≤ 2097152) (hr : ((frame b).length : Int) > S.room - used S.l) : lapp bump S logL b = (12, S) := by
  unfold lapp
  rw [if_neg (by omega), app_full nm_ok.1 h.off hr]
  rfl
/-- A log is cleared. -/
theorem lclr_fl (h : Df S lg sn nw) :
    (lclr bump S logL).2.room = S.room ∧
    (((lclr bump S logL).1 = 0 ∧ Df (lclr bump S logL).2 (trm 0 lg) sn nw ∧ (S.bud = -1 → (lclr bump S logL).2.bud = -1)) ∨
     ((lclr bump S logL).1 = 11 ∧ S.bud ≠ -1 ∧ (lclr bump S logL).2.off = true ∧ (lclr bump S logL).2.l = fl lg sn nw)) := by
  unfold lclr
  have hf := h.fnd_log
  rcases lg with _ | y
  · have e : Dk.trunc bump S logL 0 = (9, S) := by
      unfold Dk.trunc
      rw [hf]
      rfl
    rw [e]
    exact ⟨rfl, .inl ⟨rfl, h, fun e => e⟩⟩
  · obtain ⟨h1, h2⟩ := trunc_nx (bump := bump) (n := 0) h.off (show fnd S logL = 0 from hf) (Nat.zero_le _)
    rw [h.l, fl_tr_log] at h2
    have e0 : ((0 : Nat) : Int) = 0 := rfl
    rw [e0] at h1 h2
    refine ⟨h2.room, ?_⟩
    by_cases hb0 : S.bud = 0
    · rw [h1, cd_no hb0]
      obtain ⟨h3, h4⟩ := h2.no hb0
      exact .inr ⟨rfl, by rw [hb0]; decide, h3, h4⟩
    · rw [h1, cd_go hb0]
      exact .inl ⟨rfl, h2.go hb0, h2.b1⟩
/-- All is written anew. -/
theorem compact_fl {K : KS} (h : Df S lg sn none) (hb : (snpB K).length ≤ 2097152) (hr : ¬ ((frame (snpB K)).length : Int) > S.room - used S.l) :
    (compactP bump S K).2.room = S.room ∧
    (((compactP bump S K).1 = 0 ∧ Df (compactP bump S K).2 (trm 0 lg) (some (frame (snpB K), (frame (snpB K)).length)) none ∧ (S.bud = -1 → (compactP bump S K).2.bud = -1)) ∨
     ((compactP bump S K).1 = 11 ∧ S.bud ≠ -1 ∧ (compactP bump S K).2.off = true ∧ ((∃ nw, (compactP bump S K).2.l = fl lg sn nw) ∨ (compactP bump S K).2.l = fl lg (some (frame (snpB K), (frame (snpB K)).length)) none))) := by
  unfold compactP
  rw [if_neg (by omega)]
  obtain ⟨h1, h2⟩ := app_nx (bump := bump) (x := nwL) (b := frame (snpB K)) nm_ok.2.2 h.off hr
  rw [h.l, fl_add_nw] at h2
  unfold cpR cpY cpA
  by_cases hb0 : S.bud = 0
  · rw [if_pos (by rw [h1, cd_no hb0]; simp)]
    obtain ⟨h3, h4⟩ := h2.no hb0
    exact ⟨h2.room, .inr ⟨h1.trans (cd_no hb0), by rw [hb0]; decide, h3, .inl ⟨_, h4⟩⟩⟩
  · rw [if_neg (by rw [h1, cd_go hb0]; simp)]
    have hD := h2.go hb0
    have hr2 := h2.room
    have hn2 := h2.b1
    generalize (Dk.app bump S nwL (frame (snpB K))).2 = S1 at *
    have hf : fnd S1 nwL = 0 := by rw [hD.fnd_nw, addm_some]; rfl
    obtain ⟨h5, h6⟩ := syn_nx (bump := bump) hD.off hf
    rw [hD.l, fl_syn_nw] at h6
    by_cases hb1 : S1.bud = 0
    · rw [if_pos (by rw [h5, cd_no hb1]; simp)]
      obtain ⟨h7, h8⟩ := h6.no hb1
      exact ⟨h6.room.trans hr2, .inr ⟨h5.trans (cd_no hb1), (fun e => by rw [hn2 e] at hb1; cases hb1), h7, .inl ⟨_, h8⟩⟩⟩
    · rw [if_neg (by rw [h5, cd_go hb1]; simp)]
      have hD3 := h6.go hb1
      have hr3 := h6.room.trans hr2
      have hn3 : S.bud = -1 → _ := fun e => h6.b1 (hn2 e)
      clear h5 h6
      generalize (Dk.syn bump S1 nwL).2 = S2 at *
      have hsy : synm (addm (frame (snpB K)) none) = some (frame (snpB K), (frame (snpB K)).length) := rfl
      rw [hsy] at hD3
      obtain ⟨h9, h10⟩ := ren_nx (bump := bump) (y := snL) nm_ok.2.1 hD3.off (f := ⟨nwL, frame (snpB K), (frame (snpB K)).length⟩) (by rw [hD3.l, fl_get_nw]; rfl)
      rw [hD3.l, fl_del_nw, fl_del_sn, fl_ins_sn] at h10
      by_cases hb2 : S2.bud = 0
      · rw [if_pos (by rw [h9, cd_no hb2]; simp)]
        obtain ⟨h7, h8⟩ := h10.no hb2
        exact ⟨h10.room.trans hr3, .inr ⟨h9.trans (cd_no hb2), (fun e => by rw [hn3 e] at hb2; cases hb2), h7, .inl ⟨_, h8⟩⟩⟩
      · rw [if_neg (by rw [h9, cd_go hb2]; simp)]
        have hD4 := h10.go hb2
        have hr4 := h10.room.trans hr3
        have hn4 : S.bud = -1 → _ := fun e => h10.b1 (hn3 e)
        clear h9 h10
        generalize (Dk.ren bump S2 nwL snL).2 = S3 at *
        obtain ⟨h11, h12⟩ := lclr_fl (bump := bump) hD4
        refine ⟨h11.trans hr4, ?_⟩
        rcases h12 with ⟨h13, h14, h15⟩ | ⟨h13, h14, h15, h16⟩
        · exact .inl ⟨h13, h14, fun e => h15 (hn4 e)⟩
        · exact .inr ⟨h13, fun e => h14 (hn4 e), h15, .inr h16⟩
theorem compact_long {K : KS} (hb : 2097152 < (snpB K).length) : compactP bump S K = (2, S) := by unfold compactP; exact if_pos hb
theorem compact_full {K : KS} (h : Df S lg sn nw) (hb : (snpB K).length ≤ 2097152) (hr : ((frame (snpB K)).length : Int) > S.room - used S.l) : compactP bump S K = (12, S) := by
  unfold compactP cpA
  rw [if_neg (by omega), app_full nm_ok.2.2 h.off hr]
  rfl
end
end Go.Cv.Kv
end
