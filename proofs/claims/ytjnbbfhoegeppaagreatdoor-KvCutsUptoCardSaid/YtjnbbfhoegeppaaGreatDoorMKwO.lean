/-
  Texts of the lemmas below the claim, put together: KwK KwL KwO.
-/
import Derived.Test.YtjnbbfhoegeppaaGreatDoorMKwI
import Derived.Test.YtjnbbfhoegeppaaGreatDoorMKwN
section
/-
  Walks of the laws' helpers: pick.
-/
set_option linter.unusedSimpArgs false
set_option linter.unusedVariables false
namespace Go.Proofs.YtjnbbfhoegeppaaGreatDoor
open Go.RowKit Go.Cv Go.Cv.Dk Go.Cv.Wal Go.Cv.Kv
def pickI (c m : Int) : Int := (if c < 0 then -(c + 1) else c) % m
set_option maxHeartbeats 800000 in
theorem pick_any (c m : Int) (w : World) (hc : -9223372036854775808 ≤ c ∧ c ≤ 9223372036854775807) (hm : 0 < m) :
    Calls Tryz.prog 9 #[.int .i64 c, .int .i64 m] w fun e w' => e = .returned (.int .i64 (pickI c m)) ∧ w = w' := by
  have hm0 : ¬ (m = 0) := by omega
  by_cases h0 : c < 0
  · have e : pickI c m = -((c + 1).tmod m) := by unfold pickI; rw [if_pos h0, ← Int.tmod_eq_emod_of_nonneg (by omega), Int.neg_tmod]
    rw [e]
    have hw1 : IntKind.i64.wrap (c + 1) = c + 1 := IntWalk.i64_in _ (by omega)
    have hw2 : IntKind.i64.wrap (-(c + 1)) = -(c + 1) := IntWalk.i64_in _ (by omega)
    clear e
    go_enter Tryz.func9, Tryz.ntmps9
    go_wp2
    go_ret
    exact ⟨rfl, rfl⟩
  · have e : pickI c m = c % m := by unfold pickI; rw [if_neg h0]
    rw [e]
    clear e
    go_enter Tryz.func9, Tryz.ntmps9
    go_wp2
    go_ret
    exact ⟨rfl, rfl⟩
theorem pickI_bd {c m : Int} (hm : 0 < m) : 0 ≤ pickI c m ∧ pickI c m < m := ⟨Int.emod_nonneg _ (by omega), Int.emod_lt_of_pos _ hm⟩
end Go.Proofs.YtjnbbfhoegeppaaGreatDoor
end
section
/-
  Walks of the laws' helpers: own.
-/
set_option linter.unusedSimpArgs false
set_option linter.unusedVariables false
namespace Go.Proofs.YtjnbbfhoegeppaaGreatDoor
open Go.RowKit Go.Cv Go.Cv.Dk Go.Cv.Wal Go.Cv.Kv
/-- A list of writes of the call's own. -/
structure OWst (w wr : World) (T : Option Addr) (k c' : Nat) (L : List WV) : Prop where
  own : wr.ownsRow w.heap.size 45 3 (.slice T k c') k (L.flatMap WV.cells)
  V : ∀ x ∈ L, VOk wr w.heap.size x
  E : Ext w wr
theorem OWst.ext {w wr wr' : World} {T : Option Addr} {k c' : Nat} {L : List WV} (h : OWst w wr T k c' L) (hx : Ext wr wr') : OWst w wr' T k c' L :=
  ⟨own_ext h.own hx, fun x hm => (h.V x hm).ext hx, h.E.trans hx⟩
theorem OWst.box {w wr : World} {T : Option Addr} {k c' bx i : Nat} {L : List WV} {cs : List Value} {v : Value} (h : OWst w wr T k c' L) (hrow : Row wr bx 45 cs) (hb : w.heap.size ≤ bx) (hT : bx ∉ rowOf T) : OWst w (wr.setCell ⟨bx, i, none⟩ v) T k c' L := by
  have hk := Keep.setCell wr ⟨bx, i, none⟩ v
  refine ⟨own_keep h.own hk fun g hg hm => ?_, fun x hx => (h.V x hx).keep hk fun y hy => ?_, ext_keep h.E hk fun x hx => ?_⟩
  · rw [List.mem_singleton.1 hm] at hg
    exact hT (own_rowOf hg)
  · rw [List.mem_singleton.1 hy]
    exact ⟨_, by decide, Ty.of_row hrow⟩
  · rw [List.mem_singleton.1 hx]
    exact hb
theorem OWst.push {w w6 w7 w8 : World} {T T8 : Option Addr} {k c' c8 : Nat} {L : List WV} {x : WV} (h : OWst w w6 T k c' L) (hx : VOk w6 w.heap.size x) (h67 : Ext w6 w7) (hk : Keep (rowOf T) w7 w8)
    (ho : w8.ownsRow w.heap.size 45 3 (.slice T8 (k + 1) c8) (k + 1) (L.flatMap WV.cells ++ x.cells)) : OWst w w8 T8 (k + 1) c8 (L ++ [x]) := by
  have h7 := h.ext h67
  have hty : ∀ y ∈ rowOf T, ∃ U, U ≠ 5 ∧ Ty w7 y U := fun y hy => ⟨_, by decide, row_ty h7.own y hy⟩
  refine ⟨by rw [List.flatMap_append]; simpa using ho, fun z hz => ?_, ext_keep h7.E hk (base_le h7.own)⟩
  rcases List.mem_append.1 hz with hz | hz
  · exact (h7.V z hz).keep hk hty
  · rw [List.mem_singleton.1 hz]
    exact (hx.ext h67).keep hk hty
/-- What own gives. -/
def Owned (w : World) (W : List WV) (e : Ending) (w' : World) : Prop :=
  ∃ T c L, e = .returned (.slice T W.length c) ∧ OWst w w' T W.length c L ∧ L.map WV.pw = W.map WV.pw ∧ L.length = W.length
set_option maxRecDepth 4000 in
set_option maxHeartbeats 6400000 in
theorem own_any (A : Option Addr) (c : Nat) (W : List WV) (w : World) (hW : WsAt w A W) (hn : W.length ≤ 1048576) :
    Calls Tryz.prog 10 #[.slice A W.length c] w (Owned w W) := by
  refine calls_hid fun G hG => ?_
  go_enter Tryz.func10, Tryz.ntmps10
  go_wp2
  go_loopw [3, 4] (fun t i wr => ∃ (k c' : Nat) (T : Option Addr) (L : List WV), k ≤ W.length ∧ i = .int .i64 k ∧ t = .slice T k c' ∧ Hid (OWst w wr T k c' L) ∧ Hid (L.map WV.pw = (W.take k).map WV.pw)) (fun _ i _ => W.length - (intOf i).toNat)
  case atStart => exact ⟨0, 0, none, [], Nat.zero_le _, rfl, rfl, Lib.hid ⟨World.ownsRow_nil _ _ _ _, by simp, Ext.refl w⟩, Lib.hid rfl⟩
  case round =>
    obtain ⟨k, c', T, L, hk, rfl, rfl, hO, hM⟩ := hrel
    have hE := hO.out.E
    by_cases hlt : k < W.length
    · obtain ⟨ad, rfl, p0, p1, p2⟩ := (hW.ext hE).at hlt
      have hx := (hW.ok _ (List.getElem_mem hlt)).ext hE
      have hMn : (W.take (k + 1)).map WV.pw = (W.take k).map WV.pw ++ [W[k].pw] := by
        rw [List.take_succ_eq_append_getElem hlt, List.map_append]; rfl
      generalize W[k] = x at *
      have hkb := hx.kb
      have hvb := hx.vb
      have hB : Row (wr.alloc (.cells #[.string x.k, .slice x.A x.v.length x.c, .bool x.d] 45)) wr.heap.size 45 [.string x.k, .slice x.A x.v.length x.c, .bool x.d] := Row.alloc wr _ _
      have hx1 := ext_alloc wr (.cells #[.string x.k, .slice x.A x.v.length x.c, .bool x.d] 45)
      have hO1 := hO.out.ext hx1
      have hr1 := hx.rd.ext hx1
      have hbT : wr.heap.size ∉ rowOf T := fun hm => by have := row_lt hO.out.own _ hm; omega
      have hws := hE.size
      replace hMn := Lib.hid hMn
      replace hE := Lib.hid hE
      replace hx := Lib.hid hx
      go_wp2_with (first
        | (at_builtin; refine wpList_appS rfl (.tmp 17) (.tmp 19) 43 5 rfl u8rowD wr.heap.size none 0 0 [] rfl (World.ownsRow_nil _ _ _ _) x.A x.v.length x.c x.v rfl rfl hr1 (by omega) hx1.size ?_; intro A5 c5 w5 ho5 hS5; have hx5 : Ext (wr.alloc (.cells #[.string x.k, .slice x.A x.v.length x.c, .bool x.d] 45)) w5 := ext_keep (Ext.refl _) hS5.k (by simp [rowOf]); have hO5 := hO1.ext hx5; have hB5 := hB.ext hx5; have g0 : w5.cell? ⟨wr.heap.size, 0, none⟩ = some (.string x.k) := hB5.cell (i := 0) (by simp); have g1 : w5.cell? ⟨wr.heap.size, 1, none⟩ = some (.slice x.A x.v.length x.c) := hB5.cell (i := 1) (by simp); have g2 : w5.cell? ⟨wr.heap.size, 2, none⟩ = some (.bool x.d) := hB5.cell (i := 2) (by simp); have gf := hB5.fro 1; have hO6 := hO5.box (i := 1) (v := .slice A5 x.v.length c5) hB5 hws hbT)
        | (at_builtin; refine wpList_appfam rfl (.tmp 23) (.tmp 25) 32 45 3 48 rfl writeRow w.heap.size T k c' _ rfl (hO6.ext (ext_alloc _ _)).own ⟨w5.heap.size, 0, none⟩ 1 1 [.string x.k, .slice A5 x.v.length c5, .bool x.d] rfl rfl (rd_list' _ _ _ (by simp)) (by intro u hu; simp at hu; rcases hu with rfl | rfl | rfl <;> rfl) (by unfold maxLen; omega) (by omega) (hO6.ext (ext_alloc _ _)).E.size ?_; intro T8 c8 w8 ho8 hk8 hn8))
      rw [Nat.zero_add, List.nil_append] at ho5
      have hV := (vok_of (w0 := w) ho5 hws x.k x.d hkb hvb).keep (Keep.setCell w5 ⟨wr.heap.size, 1, none⟩ (.slice A5 x.v.length c5)) (fun y hy => ⟨45, by decide, by have := List.mem_singleton.1 hy; subst this; exact Ty.of_row hB5⟩)
      have hfin := hO6.push hV (ext_alloc _ _) hk8 ho8
      go_roundw
      case rel => exact ⟨k + 1, c8, T8, _, hlt, by go_num, rfl, Lib.hid hfin, Lib.hid (by rw [hMn.out, List.map_append, hM.out]; rfl)⟩
      case measure => simp [intOf]; omega
    · obtain rfl : k = W.length := by omega
      rw [List.take_length] at hM
      have hgg := Lib.hid (hG.out _ wr ⟨T, c', L, rfl, hO.out, hM.out, by have := congrArg List.length hM.out; simpa using this⟩)
      go_wp2
      exact hgg.out
end Go.Proofs.YtjnbbfhoegeppaaGreatDoor
end
section
/-
  Walks of the laws' helpers: stands.
-/
set_option linter.unusedSimpArgs false
set_option linter.unusedVariables false
namespace Go.Cv.Kv
open Go Go.Cv.Dk
theorem ks_ext {K K' : KS} (h1 : K.l = K'.l) (h2 : K.n = K'.n) : K = K' := by
  cases K; cases K'; simp at h1 h2; rw [h1, h2]
theorem take_eq_succ {α : Type} {l m : List α} {k : Nat} (h1 : k < l.length) (h2 : k < m.length) (h : l.take k = m.take k) (he : l[k] = m[k]) : l.take (k + 1) = m.take (k + 1) := by
  rw [List.take_succ_eq_append_getElem h1, List.take_succ_eq_append_getElem h2, h, he]
theorem ris_fnd {l : List PP} (h : Ris PP.k l) {k : Nat} (hk : k < l.length) : fndK l l[k].k = some l[k] := by
  have e : l = l.take k ++ l[k] :: l.drop (k + 1) := by
    rw [← List.drop_eq_getElem_cons hk, List.take_append_drop]
  have h2 := h
  rw [e] at h2
  have h3 := (ris_after h2).1
  unfold fndK
  have h4 : (l.take k).find? (fun p => p.k == l[k].k) = none := List.find?_eq_none.2 fun p hp => by simpa using h3 p hp
  have h5 := congrArg (fun z => z.find? (fun p => p.k == l[k].k)) e
  rw [List.find?_append, h4] at h5
  rw [h5, Option.none_or, List.find?_cons_of_pos (by simp)]
end Go.Cv.Kv
namespace Go.Proofs.YtjnbbfhoegeppaaGreatDoor
open Go.RowKit Go.Cv Go.Cv.Dk Go.Cv.Wal Go.Cv.Kv
theorem Sto.kb {w : World} {B s d : Nat} {K : KS} {bs : List Nat} (h : Sto w B s d K bs) : (∀ p ∈ K.l, p.k.length ≤ 1099511627776 ∧ p.v.length ≤ 1099511627776) ∧ Ris PP.k K.l := by
  obtain ⟨g, mb, L, h, _⟩ := h
  rw [h.ls]
  refine ⟨fun p hp => ?_, ris_pp h.map.ris⟩
  obtain ⟨z, hz, rfl⟩ := List.mem_map.1 hp
  exact ⟨(h.val z hz).kb, (h.val z hz).vb⟩
set_option maxRecDepth 8000 in
set_option maxHeartbeats 12800000 in
theorem stands_any (B s d r : Nat) (K K' : KS) (bs cs : List Nat) (w : World) (h : Sto w B s d K bs) (hr : Rto w r K' cs) (hL : K.l.length ≤ 1099511627776) (hkb : ∀ p ∈ K'.l, p.k.length ≤ 1099511627776) :
    Calls Tryz.prog 24 #[.pointer (some ⟨s, 0, none⟩), .pointer (some ⟨r, 0, none⟩)] w fun e w' => (∃ b, e = .returned (.bool b) ∧ (b = true ↔ K = K')) ∧ Ext w w' := by
  refine calls_hid fun G hG => ?_
  have hgt : Hid (K.l = K'.l → K.n = K'.n → ∀ w', Ext w w' → G (.returned (.bool true)) w') := Lib.hid fun h1 h2 w' hx => hG.out _ _ ⟨⟨true, rfl, by simp [ks_ext h1 h2]⟩, hx⟩
  have hgf : Hid (K ≠ K' → ∀ w', Ext w w' → G (.returned (.bool false)) w') := Lib.hid fun h1 w' hx => hG.out _ _ ⟨⟨false, rfl, by simpa using h1⟩, hx⟩
  have hK := keys_any B s d K bs ⟨#[]⟩ w h hL
  rw [show keysK K.l (ByteArray.mk #[]).data.toList = K.l.map PP.k from keysK_nil _, List.length_map] at hK
  have hCt := fun w1 (hx : Ext w w1) => (count_any B s d K bs w1 (h.ext hx)).mono fun e w' (x : e = .returned (.int .i64 K.n) ∧ w1 = w') => (⟨x.1, x.2.symm⟩ : e = .returned (.int .i64 K.n) ∧ w' = w1)
  have hGt := fun (k : ByteArray) (hk : k.size ≤ 281474976710656) w1 (hx : Ext w w1) => get_any B s d K bs k w1 (h.ext hx) hk
  obtain ⟨hkv, hris⟩ := h.kb
  replace hkv := Lib.hid hkv
  replace hris := Lib.hid hris
  obtain ⟨T, c, L, hR, hap⟩ := hr
  obtain ⟨N, hN⟩ : ∃ N, N = K.l.length := ⟨_, rfl⟩
  obtain ⟨M, hM⟩ : ∃ M, M = L.length := ⟨_, rfl⟩
  have hMK : M = K'.l.length := by rw [hM, hR.ls, List.length_map]
  have c0 : w.cell? ⟨r, 0, none⟩ = some (.slice T M c) := by rw [hM]; exact hR.row.cell (i := 0) (by simp)
  have c1 : w.cell? ⟨r, 1, none⟩ = some (.int .i64 K'.n) := hR.row.cell (i := 1) (by simp)
  rw [← hN] at hK hL
  replace hN := Lib.hid hN
  replace hM := Lib.hid hM
  replace hMK := Lib.hid hMK
  clear hG hap h
  by_cases hNM : N = M
  · subst hNM
    have q0 : ((N : Int) != (N : Int)) = false := by simp
    by_cases hn : K.n = K'.n
    · have q1 : ((K.n : Int) != (K'.n : Int)) = false := by rw [hn]; simp
      replace hn := Lib.hid hn
      go_enter Tryz.func24, Tryz.ntmps24
      go_wp2_with (go_at_call 22; (with_reducible refine hK.mono ?_); rintro e w1 ⟨A1, c1', rfl, ho1, hx1⟩; have d0 := hx1.cell c0; have d1 := hx1.cell c1; have hCt1 := fun w2 (hx : Ext w1 w2) => hCt w2 (hx1.trans hx))
      go_quiet ((go_at_call 33; with_reducible exact Calls.quiet_of_same (hCt1 _ ((Ext.refl _).drewN _))))
      go_wp2
      clear q0 q1 hCt hCt1 hK
      go_loopw [6] (fun i wr => ∃ k : Nat, k ≤ N ∧ i = .int .i64 k ∧ Hid (K.l.take k = K'.l.take k) ∧ Ext w1 wr) (fun i _ => N - (intOf i).toNat)
      case atStart => exact ⟨0, Nat.zero_le _, rfl, Lib.hid rfl, (Ext.refl w1).drewN _⟩
      case round =>
        obtain ⟨k, hk, rfl, hT, hx⟩ := hrel
        by_cases hlt : k < N
        · have hjL : k < L.length := by rw [← hM.out]; exact hlt
          have hkK : k < K.l.length := by rw [← hN.out]; exact hlt
          have hkK' : k < K'.l.length := by rw [← hMK.out]; exact hlt
          obtain ⟨ad, rfl, p0, p1⟩ := (hR.ext (hx1.trans hx)).at hjL
          have hpk : K'.l[k] = (L[k]).pp := by
            have h1 : K'.l[k]? = some (L[k]).pp := by rw [hR.ls, List.getElem?_map, List.getElem?_eq_getElem hjL]; rfl
            rw [List.getElem?_eq_getElem hkK'] at h1
            injection h1
          have hkb' := hkb _ (List.getElem_mem hkK')
          have hv := (hR.ext (hx1.trans hx)).val _ (List.getElem_mem hjL)
          have hT1 := take_eq_succ hkK hkK' hT.out
          have hNe : K.l[k] ≠ K'.l[k] → K ≠ K' := fun h1 h2 => h1 (by subst h2; rfl)
          have hkv1 := (hkv.out _ (List.getElem_mem hkK)).2
          have hF := ris_fnd hris.out hkK
          obtain ⟨ad1, rfl, z0⟩ := rd_own (own_ext ho1 hx) k (.string ⟨K.l[k].k.toArray⟩) (by rw [List.getElem?_map, List.getElem?_map, List.getElem?_eq_getElem hkK]; rfl)
          have e0 := hx.cell d0
          rw [hpk] at hkb' hT1 hNe
          generalize L[k] = x at *
          generalize K.l[k] = y at *
          have hks : x.k.size ≤ 281474976710656 := by
            have h1 : x.pp.k.length = x.k.size := by show x.k.data.toList.length = _; rw [Array.length_toList]; rfl
            rw [h1] at hkb'; omega
          have hG1 := hGt x.k hks wr (hx1.trans hx)
          clear hpk hkb' hks hGt
          replace hris := Lib.hid hris
          by_cases hkey : y.k = x.k.data.toList
          · have eF : fndK K.l x.k.data.toList = some y := by rw [← hkey]; exact hF
            have eG : getK K.l x.k.data.toList = y.v := by unfold getK; rw [eF]; rfl
            rw [eF, eG] at hG1
            simp only [Option.isSome_some] at hG1
            have hq : (!y.k == x.k.toList) = false := by rw [Lib.toList_data]; simpa using hkey
            obtain ⟨m, hm⟩ : ∃ m, m = y.v.length := ⟨_, rfl⟩
            rw [← hm] at hG1 hkv1
            replace hm := Lib.hid hm
            by_cases hval : y.v = x.v
            · have hqv : (!y.v == x.v) = false := by simpa using hval
              have hT2 := Lib.hid (hT1 (by
                have e1 : y = ⟨y.k, y.v⟩ := rfl
                rw [e1, hkey, hval]; rfl))
              replace hkey := Lib.hid hkey
              replace hval := Lib.hid hval
              replace hv := Lib.hid hv
              clear hNe hT1 hF eF eG
              go_wp2_with (go_at_call 20; (with_reducible refine hG1.mono ?_); rintro e w2 ⟨v, rfl, A2, c2, rfl, hx2, ho2, hc2, hm2, hr2⟩; have f0 := hx2.cell e0; have z1 := hx2.cell z0; have p2 := hx2.cell p0; have p3 := hx2.cell p1; have hcv1 := fun q => run_convert_rd (P := Tryz.prog) (w2.drewN q) 43 9 5 Tryz.underlying43 Tryz.underlying5 Tryz.underlying9 A2 m c2 y.v hm.out.symm (hr2.drewN q); have hcv2 := fun q => run_convert_rd (P := Tryz.prog) (w2.drewN q) 43 9 5 Tryz.underlying43 Tryz.underlying5 Tryz.underlying9 x.A x.v.length x.c x.v rfl ((hv.out.ext hx2).drewN q))
              go_quiet (fail)
              go_wp2
              have hx5 : Ext wr (w2.drewN nq) := hx2.drewN _
              have ho5 := own_ext ho2 ((Ext.refl w2).drewN nq)
              generalize w2.drewN nq = w5 at *
              clear hcv1 hcv2 hr2 ho2 hG1 hv hq hqv
              have hmb : m ≤ 9223372036854775807 := by omega
              replace hm := Lib.hid hm.out.symm
              go_loopw [9] (fun i wq => ∃ (j : Nat) (l : List UInt8), j ≤ m ∧ i = .int .i64 j ∧ Hid (l.length = m) ∧ wq.ownsRow wr.heap.size 5 1 (.slice A2 m c2) m (l.map bv) ∧ Ext wr wq) (fun i _ => m - (intOf i).toNat)
              case atStart => exact ⟨0, y.v, Nat.zero_le _, rfl, hm, ho5, hx5⟩
              case round =>
                obtain ⟨j, l, hjm, rfl, hlm, ho, hxq⟩ := hrel
                by_cases hlj : j < m
                · obtain ⟨g3, cs3, hA3, hbg, hnc3, hcm3, hrw, hlc, htk⟩ := own_pos ho (by omega)
                  subst hA3
                  have hjl : j < l.length := by rw [hlm.out]; exact hlj
                  have hcell : wr.cell? ⟨g3, j, none⟩ = some (bv l[j]) := by
                    have h1 := ho.cells (g := g3) rfl j (bv l[j]) (by rw [List.getElem?_map, List.getElem?_eq_getElem hjl]; rfl)
                    have e1 : (⟨g3, 0, none⟩ : Addr).add j = ⟨g3, j, none⟩ := by unfold Addr.add; split <;> simp_all
                    rwa [e1] at h1
                  have hfr := hrw.fro j
                  have hset := own_set ho j (bv (l[j] ^^^ 255))
                  have hks := ext_keep hxq (Keep.setCell wr ⟨g3, j, none⟩ (bv (l[j] ^^^ 255))) (fun x hx => by rw [List.mem_singleton.1 hx]; exact hbg)
                  replace hset := Lib.hid hset
                  clear hrw htk ho
                  go_wp2
                  exact ⟨⟨j + 1, l.set j (l[j] ^^^ 255), hlj, by simp, Lib.hid (by rw [List.length_set]; exact hlm.out), by rw [List.map_set]; exact hset.out, hks⟩, meas hlj⟩
                · clear ho
                  go_wp2
                  go_roundw
                  case rel => exact ⟨k + 1, hlt, by go_num, hT2, hx.trans hxq⟩
                  case measure => exact meas hlt
            · have hqv : (!y.v == x.v) = true := by simpa using hval
              have hgg := Lib.hid (hgf.out (hNe (fun e => hval (congrArg PP.v e))))
              replace hkey := Lib.hid hkey
              replace hval := Lib.hid hval
              replace hv := Lib.hid hv
              clear hNe hT1 hF eF eG
              go_wp2_with (go_at_call 20; (with_reducible refine hG1.mono ?_); rintro e w2 ⟨v, rfl, A2, c2, rfl, hx2, ho2, hc2, hm2, hr2⟩; have f0 := hx2.cell e0; have z1 := hx2.cell z0; have p2 := hx2.cell p0; have p3 := hx2.cell p1; have hcv1 := fun q => run_convert_rd (P := Tryz.prog) (w2.drewN q) 43 9 5 Tryz.underlying43 Tryz.underlying5 Tryz.underlying9 A2 m c2 y.v hm.out.symm (hr2.drewN q); have hcv2 := fun q => run_convert_rd (P := Tryz.prog) (w2.drewN q) 43 9 5 Tryz.underlying43 Tryz.underlying5 Tryz.underlying9 x.A x.v.length x.c x.v rfl ((hv.out.ext hx2).drewN q))
              go_quiet (fail)
              go_wp2
              exact hgg.out _ (by first | exact (hx1.trans hx).trans hx2 | exact ((hx1.trans hx).trans hx2).trans (ext_drew _) | exact ((hx1.trans hx).trans hx2).drewN _)
          · have hq : (!y.k == x.k.toList) = true := by rw [Lib.toList_data]; simpa using hkey
            have hgg := Lib.hid (hgf.out (hNe (fun e => hkey (congrArg PP.k e))))
            replace hkey := Lib.hid hkey
            clear hNe hT1 hF
            go_wp2_with (go_at_call 20; (with_reducible refine hG1.mono ?_); rintro e w2 ⟨v, rfl, A2, c2, rfl, hx2, ho2, hc2, hm2, hr2⟩; have f0 := hx2.cell e0; have z1 := hx2.cell z0; have p2 := hx2.cell p0; have p3 := hx2.cell p1)
            go_region
            all_goals
              go_wp2
              exact hgg.out _ (by first | exact (hx1.trans hx).trans hx2 | exact ((hx1.trans hx).trans hx2).trans (ext_drew _) | exact ((hx1.trans hx).trans hx2).drewN _)
        · obtain rfl : k = N := by omega
          have hl : K.l = K'.l := by
            have := hT.out
            rwa [hN.out, List.take_length, List.take_of_length_le (by rw [← hMK.out, hN.out]; exact Nat.le_refl _)] at this
          have hgg := Lib.hid (hgt.out hl hn.out wr (hx1.trans hx))
          go_wp2
          exact hgg.out
    · have q1 : ((K.n : Int) != (K'.n : Int)) = true := bne_iff_ne.2 (by omega)
      have hgg := hgf.out (fun e => hn (by rw [e]))
      replace hgg := Lib.hid hgg
      go_enter Tryz.func24, Tryz.ntmps24
      go_wp2_with (go_at_call 22; (with_reducible refine hK.mono ?_); rintro e w1 ⟨A1, c1', rfl, ho1, hx1⟩; have d0 := hx1.cell c0; have d1 := hx1.cell c1; have hCt1 := fun w2 (hx : Ext w1 w2) => hCt w2 (hx1.trans hx))
      go_quiet ((go_at_call 33; with_reducible exact Calls.quiet_of_same (hCt1 _ ((Ext.refl _).drewN _))))
      all_goals
        go_wp2
        exact hgg.out _ (by first | exact hx1 | exact hx1.trans (ext_drew _) | exact (hx1).drewN _)
  · have q0 : ((N : Int) != (M : Int)) = true := bne_iff_ne.2 (by omega)
    have hgg := hgf.out (fun e => hNM (by rw [hN.out, hMK.out, e]))
    replace hgg := Lib.hid hgg
    go_enter Tryz.func24, Tryz.ntmps24
    go_wp2_with (go_at_call 22; (with_reducible refine hK.mono ?_); rintro e w1 ⟨A1, c1', rfl, ho1, hx1⟩; have d0 := hx1.cell c0)
    go_region
    all_goals
      go_wp2
      exact hgg.out _ (by first | exact hx1 | exact hx1.trans (ext_drew _) | exact (hx1).drewN _)
end Go.Proofs.YtjnbbfhoegeppaaGreatDoor
end
