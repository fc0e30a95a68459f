/-
  Texts of the lemmas below the claim, put together: KvF KvG KvH.
-/
import Derived.Test.YtjnbbfhoegeppaaGreatDoorMKvM
import Derived.Test.YtjnbbfhoegeppaaGreatDoorSorts
import Derived.Sort.KeysCollected
import Derived.Sort.OwnSorted
import Derived.Lib.Strings
import Derived.Laws.Strings3
section
/-
  Walks of the store: a value, how many batches, whether a batch may be.
-/
set_option linter.unusedSimpArgs false
set_option linter.unusedVariables false
namespace Go.Cv.Kv
open Go Go.Cv.Dk
def fndK (l : List PP) (x : List UInt8) : Option PP := l.find? fun p => p.k == x
def getK (l : List PP) (x : List UInt8) : List UInt8 := ((fndK l x).map PP.v).getD []
theorem any_take_succ {α : Type} {l : List α} {p : α → Bool} {k : Nat} (h : k < l.length) (h0 : (l.take k).any p = false) (hp : p l[k] = false) : (l.take (k + 1)).any p = false := by
  rw [List.take_succ_eq_append_getElem h, List.any_append, h0]
  simp [hp]
theorem any_at {α : Type} {l : List α} {p : α → Bool} {k : Nat} (h : k < l.length) (hp : p l[k] = true) : l.any p = true := List.any_eq_true.2 ⟨_, List.getElem_mem h, hp⟩
end Go.Cv.Kv
namespace Go.Proofs.YtjnbbfhoegeppaaGreatDoor
open Go.RowKit Go.Cv Go.Cv.Dk Go.Cv.Wal Go.Cv.Kv
theorem find_pp (L : List GV) (x : List UInt8) : fndK (L.map GV.pp) x = (L.find? fun g => g.k == x).map GV.pp := by
  unfold fndK
  rw [List.find?_map]
  rfl
set_option maxHeartbeats 1600000 in
theorem get_any (B s d : Nat) (K : KS) (bs : List Nat) (k : ByteArray) (w : World) (h : Sto w B s d K bs) (hk : k.size ≤ 281474976710656) :
    Calls Tryz.prog 20 #[.pointer (some ⟨s, 0, none⟩), .string k] w fun e w' => ∃ v, e = .returned (.tuple #[v, .bool (fndK K.l k.data.toList).isSome]) ∧ RetB w (getK K.l k.data.toList).length (getK K.l k.data.toList) v w' := by
  refine calls_hid fun G hG => ?_
  obtain ⟨g, mb, L, h, rfl⟩ := h
  have c2 : w.cell? ⟨s, 2, none⟩ = some (.map (some mb)) := h.row.cell (i := 2) (by simp)
  have hM := h.map
  unfold getK at hG
  rw [h.ls, find_pp] at hG
  rcases hf : L.find? (fun z => z.k == k.data.toList) with _ | z
  · rw [hf] at hG
    have hl := hM.look (s := k) (by unfold maxLen; omega) (fun z hz e => by have := List.find?_eq_none.1 hf z hz; simp [e] at this)
    have hC := clone_any none 0 0 [] w rfl Rd.nil_ (fun _ => ⟨rfl, rfl⟩) (by omega)
    clear h hM hf
    go_enter Tryz.func20, Tryz.ntmps20
    go_wp2_with (go_at_call 50; (with_reducible refine hC.mono ?_); rintro e w2 ⟨v, rfl, hv⟩)
    exact hG.out _ _ ⟨v, rfl, hv⟩
  · rw [hf] at hG
    obtain ⟨l1, l2, hL, hn, hz⟩ := ris_split (key := GV.k) hf
    subst hL
    have hl := (hM.look' (s := k) (by unfold maxLen; omega) (by rw [hz]; exact hn) hz).1
    have hok := h.val z (by simp)
    have hC := clone_any z.A z.v.length z.c z.v w rfl hok.rd hok.nl (by have := hok.vb; omega)
    replace hG := hG.out
    simp only [Option.map_some, Option.getD_some, Option.isSome_some] at hG
    replace hG := Lib.hid hG
    have hvl : z.pp.v = z.v := rfl
    rw [hvl] at hG
    clear h hM hf hok hvl hn
    unfold GV.val at hl
    go_enter Tryz.func20, Tryz.ntmps20
    go_wp2_with (go_at_call 50; (with_reducible refine hC.mono ?_); rintro e w2 ⟨v, rfl, hv⟩)
    exact hG.out _ _ ⟨v, rfl, hv⟩
set_option maxHeartbeats 800000 in
theorem count_any (B s d : Nat) (K : KS) (bs : List Nat) (w : World) (h : Sto w B s d K bs) :
    Calls Tryz.prog 33 #[.pointer (some ⟨s, 0, none⟩)] w fun e w' => e = .returned (.int .i64 K.n) ∧ w = w' := by
  obtain ⟨g, mb, L, h, rfl⟩ := h
  have c3 : w.cell? ⟨s, 3, none⟩ = some (.int .i64 K.n) := h.row.cell (i := 3) (by simp)
  clear h
  go_enter Tryz.func33, Tryz.ntmps33
  go_wp2
  go_ret
  exact ⟨rfl, rfl⟩
set_option maxRecDepth 4000 in
set_option maxHeartbeats 3200000 in
theorem pmay_any (A : Option Addr) (c : Nat) (W : List WV) (w : World) (hW : WsAt w A W) (hn : W.length ≤ 1048576) :
    Calls Tryz.prog 34 #[.slice A W.length c] w fun e w' => e = .returned (errV (may0 (W.map WV.pw))) ∧ Ext w w' := by
  refine calls_hid fun G hG => ?_
  by_cases h1 : 4096 < W.length
  · have hg := hG.out _ w ⟨rfl, Ext.refl w⟩
    have e : may0 (W.map WV.pw) = 1 := by unfold may0; rw [if_pos (by simpa using h1)]
    rw [e] at hg
    have q : decide ((W.length : Int) > 4096) = true := decide_eq_true (by omega)
    clear hG hW
    go_enter Tryz.func34, Tryz.ntmps34
    go_wp2
    exact hg
  · have q : decide ((W.length : Int) > 4096) = false := decide_eq_false (by omega)
    have hG1 : ∀ w', Ext w w' → (W.map WV.pw).any badK = true → G (.returned (.iface 48 (.int .i64 1))) w' := fun w' hx hb => hG.out _ _ ⟨by
      have e : may0 (W.map WV.pw) = 1 := by unfold may0; rw [if_neg (by simpa using h1), if_pos hb]
      rw [e]; rfl, hx⟩
    have hG2 : ∀ w', Ext w w' → (W.map WV.pw).any badK = false → (W.map WV.pw).any badV = true → G (.returned (.iface 48 (.int .i64 2))) w' := fun w' hx hb hv => hG.out _ _ ⟨by
      have e : may0 (W.map WV.pw) = 2 := by unfold may0; rw [if_neg (by simpa using h1), if_neg (by show ¬ (W.map WV.pw).any badK = true; rw [hb]; simp), if_pos hv]
      rw [e]; rfl, hx⟩
    have hG0 : ∀ w', Ext w w' → (W.map WV.pw).any badK = false → (W.map WV.pw).any badV = false → G (.returned .nilIface) w' := fun w' hx hb hv => hG.out _ _ ⟨by
      have e : may0 (W.map WV.pw) = 0 := by unfold may0; rw [if_neg (by simpa using h1), if_neg (by show ¬ (W.map WV.pw).any badK = true; rw [hb]; simp), if_neg (by show ¬ (W.map WV.pw).any badV = true; rw [hv]; simp)]
      rw [e]; rfl, hx⟩
    replace hG1 := Lib.hid hG1
    replace hG2 := Lib.hid hG2
    replace hG0 := Lib.hid hG0
    clear hG
    go_enter Tryz.func34, Tryz.ntmps34
    go_wp2
    go_loopw [4, 13] (fun _ i wr => ∃ k : Nat, k ≤ W.length ∧ i = .int .i64 k ∧ Hid (((W.map WV.pw).take k).any badK = false) ∧ Hid (Ext w wr)) (fun _ i _ => W.length - (intOf i).toNat)
    case atStart => exact ⟨0, Nat.zero_le _, rfl, Lib.hid rfl, Lib.hid (Ext.refl w)⟩
    case round =>
      obtain ⟨k, hk, rfl, hany, hE⟩ := hrel
      by_cases hlt : k < W.length
      · obtain ⟨ad, rfl, p0, p1, p2⟩ := (hW.ext hE.out).at hlt
        have hlm : k < (W.map WV.pw).length := by simpa using hlt
        have hgk : (W.map WV.pw)[k] = W[k].pw := by simp
        have hks : W[k].pw.k.length = W[k].k.size := by show W[k].k.data.toList.length = _; rw [Array.length_toList]; rfl
        have hkb := ((hW.ok _ (List.getElem_mem hlt)).kb)
        have hbk : ∀ b, badK W[k].pw = b → (W.map WV.pw)[k] = W[k].pw := fun _ _ => hgk
        have hE' := hE.out.trans (ext_alloc wr (.cells #[.string W[k].k, .slice W[k].A W[k].v.length W[k].c, .bool W[k].d] 45))
        rcases hb : badK W[k].pw with _ | _
        · have hn := any_take_succ hlm hany.out (by rw [hgk]; exact hb)
          unfold badK at hb
          rw [hks] at hb
          have q1 : decide ((W[k].k.size : Int) < 1) = false := decide_eq_false (by have := of_decide_eq_false hb; omega)
          have q2 : decide ((W[k].k.size : Int) > 255) = false := decide_eq_false (by have := of_decide_eq_false hb; omega)
          replace hn := Lib.hid hn
          clear hb hgk hbk hks
          generalize W[k] = x at *
          go_wp2
          go_roundw
          case rel => exact ⟨k + 1, hlt, by go_num, hn, Lib.hid hE'⟩
          case measure => simp [intOf]; omega
        · have hn := any_at hlm (p := badK) (by rw [hgk]; exact hb)
          have hgg := hG1.out _ hE' hn
          unfold badK at hb
          rw [hks] at hb
          have hb := of_decide_eq_true hb
          replace hgg := Lib.hid hgg
          clear hn hgk hbk hks
          generalize W[k] = x at *
          rcases Nat.lt_or_ge x.k.size 1 with h0 | h0
          · have q1 : decide ((x.k.size : Int) < 1) = true := decide_eq_true (by omega)
            go_wp2
            exact hgg.out
          · have q1 : decide ((x.k.size : Int) < 1) = false := decide_eq_false (by omega)
            have q2 : decide ((x.k.size : Int) > 255) = true := decide_eq_true (by omega)
            go_wp2
            exact hgg.out
      · obtain rfl : k = W.length := by omega
        have hk0 : (W.map WV.pw).any badK = false := by have := hany.out; rwa [List.take_of_length_le (by simp)] at this
        replace hk0 := Lib.hid hk0
        go_wp2
        go_loopw [6, 31] (fun _ i wr => ∃ k : Nat, k ≤ W.length ∧ i = .int .i64 k ∧ Hid (((W.map WV.pw).take k).any badV = false) ∧ Hid (Ext w wr)) (fun _ i _ => W.length - (intOf i).toNat)
        case atStart => exact ⟨0, Nat.zero_le _, rfl, Lib.hid rfl, hE⟩
        case round =>
          obtain ⟨k, hk, rfl, hany, hE⟩ := hrel
          by_cases hlt : k < W.length
          · obtain ⟨ad, rfl, p0, p1, p2⟩ := (hW.ext hE.out).at hlt
            have hlm : k < (W.map WV.pw).length := by simpa using hlt
            have hgk : (W.map WV.pw)[k] = W[k].pw := by simp
            have hE' := hE.out.trans (ext_alloc wr (.cells #[.string W[k].k, .slice W[k].A W[k].v.length W[k].c, .bool W[k].d] 45))
            rcases hb : badV W[k].pw with _ | _
            · have hn := any_take_succ hlm hany.out (by rw [hgk]; exact hb)
              replace hn := Lib.hid hn
              have hb : (!W[k].d && decide (262144 < W[k].v.length)) = false := hb
              generalize W[k] = x at *
              rcases hd : x.d with _ | _
              · rw [hd] at p2 hE' hb
                have q1 : decide ((x.v.length : Int) > 262144) = false := decide_eq_false (by have := of_decide_eq_false (show decide (262144 < x.v.length) = false by simpa using hb); omega)
                replace hb := Lib.hid hb
                replace hd := Lib.hid hd
                clear hgk
                go_wp2
                go_roundw
                case rel => exact ⟨k + 1, hlt, by go_num, hn, Lib.hid hE'⟩
                case measure => simp [intOf]; omega
              · rw [hd] at p2 hE'
                replace hb := Lib.hid hb
                replace hd := Lib.hid hd
                clear hgk
                go_wp2
                go_roundw
                case rel => exact ⟨k + 1, hlt, by go_num, hn, Lib.hid hE'⟩
                case measure => simp [intOf]; omega
            · have hn := any_at hlm (p := badV) (by rw [hgk]; exact hb)
              have hgg := hG2.out _ hE' hk0.out hn
              have hb : (!W[k].d && decide (262144 < W[k].v.length)) = true := hb
              rw [Bool.and_eq_true] at hb
              obtain ⟨hb1, hb2⟩ := hb
              have hb2 := of_decide_eq_true hb2
              have hd : W[k].d = false := by simpa using hb1
              rw [hd] at hgg p2
              have q1 : decide ((W[k].v.length : Int) > 262144) = true := decide_eq_true (by omega)
              replace hgg := Lib.hid hgg
              replace hd := Lib.hid hd
              replace hb1 := Lib.hid hb1
              clear hn hgk
              generalize W[k] = x at *
              go_wp2
              exact hgg.out
          · obtain rfl : k = W.length := by omega
            have hv0 : (W.map WV.pw).any badV = false := by have := hany.out; rwa [List.take_of_length_le (by simp)] at this
            have hgg := hG0.out _ hE.out hk0.out hv0
            go_wp2
            exact hgg
end Go.Proofs.YtjnbbfhoegeppaaGreatDoor
end
section
/-
  Walks of the store: its keys.
-/
set_option linter.unusedSimpArgs false
set_option linter.unusedVariables false
namespace Go.Cv.Kv
open Go Go.Cv.Dk
def keysK (l : List PP) (p : List UInt8) : List (List UInt8) := (l.map PP.k).filter fun k => Lib.hasPrefix k p
end Go.Cv.Kv
namespace Go.Proofs.YtjnbbfhoegeppaaGreatDoor
open Go.RowKit Go.Cv Go.Cv.Dk Go.Cv.Wal Go.Cv.Kv
set_option maxHeartbeats 1000000 in
theorem slhp_any (s p : ByteArray) (w : World) :
    Calls Tryz.prog 75 #[.string s, .string p] w fun e w' => e = .returned (.bool (Lib.hasPrefix s.data.toList p.data.toList)) ∧ w = w' := by
  rw [← Lib.hasPrefix_of_take, ← Lib.size_eq, ← Lib.size_eq]
  go_enter Tryz.func75, Tryz.ntmps75
  go_wp2
  · rename_i h
    go_ret
    refine ⟨?_, rfl⟩
    show Ending.returned (Value.bool ((s.extract 0 p.size).toList == p.toList)) = _
    rw [Lib.extract_toList, Lib.toList_data]
    simp [h]
  · rename_i h
    go_ret
    refine ⟨?_, rfl⟩
    show Ending.returned (Value.bool false) = _
    simp [h]
set_option maxHeartbeats 1000000 in
theorem shp_any (s p : ByteArray) (w : World) :
    Calls Tryz.prog 57 #[.string s, .string p] w fun e w' => e = .returned (.bool (Lib.hasPrefix s.data.toList p.data.toList)) ∧ w = w' := by
  have hI := slhp_any s p
  go_enter Tryz.func57, Tryz.ntmps57
  go_wp2_with (go_at_call 75; (with_reducible refine (hI _).mono ?_); rintro e w' ⟨rfl, rfl⟩)
  go_ret
  exact ⟨rfl, rfl⟩
section
variable {w : World} {ops : Array Oper} {rest : List Oper} {o : Oper} {a : Act} {Q : Exit → Act → World → Prop}
/-- A step of a range over the map of values. -/
theorem wpList_nextV (hg : o.guard = none) (it : Operand) (hop : o.op = Op.next it false) (mb r n : Nat) (L : List GV) (left : Lit → Bool) (cnt : Nat)
    (hit : a.eval it = .pointer (some ⟨r, 0, none⟩)) (h : w.ranges Tryz.prog 9 RV mb r n (.map (entv L)) left cnt)
    (hDone : (∀ g ∈ L, left (.string g.k) = false) → wpList Tryz.prog ops Q rest (a.put o.dst (.tuple #[.bool false])) w)
    (hMore : ∀ (l1 l2 : List GV) (g : GV) (s : ByteArray) (w' : World) (cnt' : Nat), Hid (L = l1 ++ g :: l2) → Hid (g.k = s.data.toList) → Hid (left (.string g.k) = true) → w'.ranges Tryz.prog 9 RV mb r n (.map (entv L)) (fun z => left z && !z.sameKey (.string g.k)) cnt' → cnt' < cnt → Keep [r] w w' →
      (Instr.entry (.pointer (some ⟨r, 0, none⟩))).run Tryz.prog w' = .ok (.tuple #[.string s, g.val]) w' → wpList Tryz.prog ops Q rest (a.put o.dst (.tuple #[.bool true, .string s, g.val])) w') :
    wpList Tryz.prog ops Q (o :: rest) a w := by
  refine wpList_next_ranges w hg it hop 9 strK RV (fun l : List UInt8 => .string ⟨l.toArray⟩) (fun v : Value => v) (fun key kl hk => ?_) (fun v y hv => ⟨v, rfl⟩) mb r n _ left cnt hit h (fun _ hl => hDone fun g _ => hl _) ?_
  · cases key <;> simp [keyOf, Tryz.underlying9, mapKey] at hk
    rename_i s
    exact ⟨s.data.toList, by simp⟩
  · intro x v kl y w' cnt' hkey hl hv hat hrg hlt hgr hsz hen
    have hkl : kl = .string x := by
      simp [keyOf, Tryz.underlying9, mapKey] at hkey
      exact hkey.2.symm
    subst hkl
    rcases hf : L.find? (fun g => g.k == x) with _ | g
    · exfalso
      have hn : ∀ g ∈ L, g.k ≠ x := fun g hg e => by
        have := List.find?_eq_none.1 hf g hg
        simp [e] at this
      have h1 := (atV_none hn (.lit (.bool true))).1.symm.trans (hat _)
      have h2 := (atV_none hn (.lit (.bool false))).1.symm.trans (hat _)
      rw [← h2] at h1
      simp at h1
    · obtain ⟨l1, l2, rfl, hn, rfl⟩ := ris_split (key := GV.k) hf
      have h1 := (atV_some (l2 := l2) hn .nil).1.symm.trans (hat _)
      obtain ⟨y1, y2⟩ := y
      simp only at h1
      subst h1
      obtain rfl := RV_inv hv
      exact hMore l1 l2 g ⟨g.k.toArray⟩ w' cnt' (Lib.hid rfl) (Lib.hid (by simp)) (Lib.hid hl) hrg hlt (Keep.grown hgr (by simp)) hen
end
/-- The keys met that begin so. -/
def MetV (L : List GV) (p : List UInt8) (left : Lit → Bool) (ss : List (List UInt8)) : Prop := ss.Perm (((L.filter fun g => !left (.string g.k)).map GV.k).filter fun k => Lib.hasPrefix k p)
theorem MetV.start {L : List GV} {p : List UInt8} {left : Lit → Bool} (h : ∀ g ∈ L, left (.string g.k) = true) : MetV L p left [] := by
  have e : (L.filter fun g => !left (.string g.k)) = [] := List.filter_eq_nil_iff.2 (fun g hg => by rw [h g hg]; simp)
  unfold MetV
  rw [e]
  exact List.Perm.refl _
theorem MetV.step {l1 l2 : List GV} {g : GV} {p : List UInt8} {left : Lit → Bool} {ss : List (List UInt8)} (h : MetV (l1 ++ g :: l2) p left ss) (h1 : ∀ z ∈ l1, z.k ≠ g.k) (h2 : ∀ z ∈ l2, z.k ≠ g.k) (hl : left (.string g.k) = true) :
    MetV (l1 ++ g :: l2) p (fun z => left z && !z.sameKey (.string g.k)) (if Lib.hasPrefix g.k p then ss ++ [g.k] else ss) := by
  have e : ∀ l : List GV, (∀ z ∈ l, z.k ≠ g.k) → (l.filter fun z => !(left (.string z.k) && !(Lit.string z.k).sameKey (.string g.k))) = l.filter fun z => !left (.string z.k) := fun l hl => List.filter_congr fun z hz => by
    have : (Lit.string z.k).sameKey (.string g.k) = false := by simpa [Lit.sameKey] using hl z hz
    rw [this]; simp
  unfold MetV at h ⊢
  rw [List.filter_append, List.filter_cons_of_neg (by simp [hl])] at h
  rw [List.filter_append, List.filter_cons_of_pos (by simp [Lit.sameKey]), e l1 h1, e l2 h2, List.map_append, List.map_cons, List.filter_append]
  rw [List.map_append, List.filter_append] at h
  split
  · rename_i hp
    rw [List.filter_cons_of_pos (p := fun k => Lib.hasPrefix k p) hp]
    exact (h.append_right [g.k]).trans ((List.append_assoc _ _ _ ▸ (List.perm_append_comm.append_left _)) |> fun p => p)
  · rename_i hp
    rw [List.filter_cons_of_neg (p := fun k => Lib.hasPrefix k p) hp]
    exact h
theorem MetV.len {L : List GV} {p : List UInt8} {left : Lit → Bool} {ss : List (List UInt8)} (h : MetV L p left ss) : ss.length ≤ L.length := by
  rw [h.length_eq]
  refine Nat.le_trans (List.length_filter_le _ _) ?_
  rw [List.length_map]
  exact List.length_filter_le _ _
theorem MetV.all {L : List GV} {p : List UInt8} {left : Lit → Bool} {ss : List (List UInt8)} (h : MetV L p left ss) (hl : ∀ g ∈ L, left (.string g.k) = false) : ss.Perm (keysK (L.map GV.pp) p) := by
  have e : (L.filter fun g => !left (.string g.k)) = L := filter_all_ (fun g hg => by rw [hl g hg]; rfl)
  unfold MetV at h
  rw [e] at h
  unfold keysK
  rw [List.map_map]
  exact h
theorem keys_sorted {l : List PP} {p : List UInt8} (h : Ris PP.k l) : (keysK l p).mergeSort (fun x y => decide (x ≤ y)) = keysK l p := by
  have h0 : (l.map PP.k).Pairwise fun a b => bytesBefore a b = true := List.pairwise_map.2 h
  refine List.mergeSort_of_pairwise ((h0.filter _).imp fun {a b} hab => ?_)
  have h1 : Op.bytesLess a b = true := by rw [bl_eq]; exact hab
  rw [bytesLess_eq] at h1
  exact decide_eq_true (List.le_of_lt (of_decide_eq_true h1))
theorem hasV_all {L : List GV} : ∀ g ∈ L, Maps.has (.map (entv L)) (.string g.k) = true := fun g hg => by
  show (entv L).any (fun p => p.1.sameKey (.string g.k)) = true
  exact List.any_eq_true.2 ⟨_, List.mem_map.2 ⟨g, hg, rfl⟩, by simp [Lit.sameKey]⟩
theorem risV_after {l1 l2 : List GV} {g : GV} (h : Ris GV.k (l1 ++ g :: l2)) : (∀ z ∈ l1, z.k ≠ g.k) ∧ ∀ z ∈ l2, z.k ≠ g.k := by
  have h1 := List.pairwise_append.1 h.ne
  refine ⟨fun z hz => h1.2.2 z hz g (by simp), fun z hz => ?_⟩
  exact fun e => (List.pairwise_cons.1 h1.2.1).1 z hz e.symm
set_option maxHeartbeats 6400000 in
theorem keys_any (B s d : Nat) (K : KS) (bs : List Nat) (pf : ByteArray) (w : World) (h : Sto w B s d K bs) (hL : K.l.length ≤ 1099511627776) :
    Calls Tryz.prog 22 #[.pointer (some ⟨s, 0, none⟩), .string pf] w fun e w' => ∃ A c, e = .returned (.slice A (keysK K.l pf.data.toList).length c) ∧ w'.ownsRow w.heap.size 9 1 (.slice A (keysK K.l pf.data.toList).length c) (keysK K.l pf.data.toList).length ((keysK K.l pf.data.toList).map fun k => .string ⟨k.toArray⟩) ∧ Ext w w' := by
  refine calls_hid fun G hG => ?_
  obtain ⟨g0, mb, L, h, rfl⟩ := h
  have c2 : w.cell? ⟨s, 2, none⟩ = some (.map (some mb)) := h.row.cell (i := 2) (by simp)
  have hown := h.map
  have hris := Lib.hid h.map.ris
  have hmlt := h.map.lt
  have hpr : Ris PP.k K.l := by rw [h.ls]; exact ris_pp h.map.ris
  have hls := Lib.hid h.ls
  rw [h.ls, List.length_map] at hL
  clear h
  have hsort := Lib.hid (keys_sorted (p := pf.data.toList) hpr)
  have hKS : Hid (∀ left ss, MetV L pf.data.toList left ss → (∀ g ∈ L, left (.string g.k) = false) → ss.Perm (keysK K.l pf.data.toList)) := Lib.hid fun left ss h1 h2 => by rw [hls.out]; exact h1.all h2
  clear hls hpr
  generalize keysK K.l pf.data.toList = ks at *
  obtain ⟨n, hn⟩ : ∃ n, n = ks.length := ⟨_, rfl⟩
  rw [← hn] at hG
  have hg : ∀ A c w', w'.ownsRow w.heap.size 9 1 (.slice A n c) n (ks.map encStr) → Ext w w' → G (.returned (.slice A n c)) w' := fun A c w' h1 h2 => hG.out _ _ ⟨A, c, rfl, h1, h2⟩
  replace hg := Lib.hid hg
  replace hn := Lib.hid hn
  clear hG
  have hP := fun k => shp_any k pf
  unfold MapV at hown
  go_enter Tryz.func22, Tryz.ntmps22
  go_wp2_with (at_range; refine wpList_range_own _ rfl _ 76 rfl 9 43 strK Tryz.underlying76 RV mb L.length (.map (entv L)) rfl hown ?_; intro w0 hrg0 hg0 hs0)
  go_frame
  go_loopw [5, 6] (fun t _ wr => ∃ (left : Lit → Bool) (cnt m c' : Nat) (T : Option Addr) (ss : List (List UInt8)), wr.ranges Tryz.prog 9 RV mb w.heap.size L.length (.map (entv L)) left cnt ∧ t = .slice T m c' ∧ Hid (MetV L pf.data.toList left ss) ∧ Hid (ss.length = m) ∧ wr.ownsRow w0.heap.size 9 1 (.slice T m c') m (ss.map encStr) ∧ Ext w wr ∧ w0.heap.size ≤ wr.heap.size) (fun _ _ wr => wr.rangeLeft mb w.heap.size)
  case atStart => exact ⟨_, _, 0, 0, none, [], hrg0, rfl, Lib.hid (MetV.start hasV_all), Lib.hid rfl, World.ownsRow_nil _ _ _ _, ext_grown hg0, Nat.le_refl _⟩
  case round =>
    obtain ⟨left, cnt, m, c', T, ss, hrg, rfl, hmet, hm, ho, hE, hsz⟩ := hrel
    have hmb : m ≤ 1099511627776 := by have := hmet.out.len; rw [hm.out] at this; omega
    have hsw : w.heap.size < w0.heap.size := by omega
    go_wp2_with (at_next; refine wpList_nextV rfl _ rfl mb w.heap.size L.length L left cnt rfl hrg ?_ ?_)
    · intro hdone
      have hp := hKS.out _ _ hmet.out hdone
      have hmn : m = n := by rw [← hm.out, hn.out, hp.length_eq]
      subst hmn
      have hsrt : ss.mergeSort (fun x y => decide (x ≤ y)) = ks := (mergeSort_of_perm hp).trans hsort.out
      have hB : w.heap.size ≤ w0.heap.size := by omega
      by_cases hm0 : m = 0
      · subst hm0
        have hL0 : ks = [] := List.eq_nil_of_length_eq_zero hn.out.symm
        have hs0' : ss = [] := List.eq_nil_of_length_eq_zero hm.out
        have hgg := hg.out T c' wr (by rw [hL0]; rw [hs0'] at ho; exact own_base ho hB) hE
        have hS := Tryz.slices_Sort_string_none T c' wr
        clear hg ho hmet hp hsrt hrg hrg0 hown
        go_wp2_with (go_at_call 58; (with_reducible refine hS.mono ?_); rintro e w' ⟨rfl, rfl⟩)
        exact hgg
      · obtain ⟨g, cs, rfl, hb, hnc, hcm, hr, hlc, htk⟩ := own_pos ho (by omega)
        have hS := Tryz.slices_Sort_string g 0 c' ss wr (holds_of_block (cur := cs.toArray) hr (by rw [hm.out]; rw [Nat.mul_one] at htk; exact htk)) hr.lt (by rw [hm.out]; omega)
        rw [hm.out, hsrt] at hS
        have hgg : ∀ q os, G (.returned (.slice (some ⟨g, 0, none⟩) m c')) (Go.Sort.grow (Go.Sort.putRow encStr (Go.Sort.ahead wr q) g 0 ks.toArray) os) := fun q os => hg.out _ _ _ (by
          have h1 := ownsRow_sorted (base := w0.heap.size) (n := q) (os := os) (ss := ss) (ts := ks) (by rw [← hn.out, hm.out]) hb hr (by rw [hm.out]; exact hnc) hcm (by simpa using hlc)
          rw [hm.out] at h1
          exact own_base h1 hB) (ext_keep hE (Keep.grown (bs := [g]) (grownBy_sorted _) (fun k hk => by simp at hk; simp [hk])) (fun x hx => by rw [List.mem_singleton.1 hx]; omega))
        replace hgg := Lib.hid hgg
        clear hg ho hmet hp hsrt hrg hrg0 hown hr hlc htk
        go_wp2_with (go_at_call 58; (with_reducible refine hS.mono ?_); rintro e w' ⟨rfl, q, os, rfl⟩)
        exact hgg.out q os
    · intro l1 l2 g k w' cnt' hLe hnm hl hrg' hlt' hk hen
      have hrT : ∀ x ∈ rowOf T, w0.heap.size ≤ x := fun x hx => (ho.lt x (rowOf_own hx)).1
      have ho' := own_keep ho hk (fun k hk' hm' => by rw [List.mem_singleton.1 hm'] at hk'; have := hrT _ (own_rowOf hk'); omega)
      have hE' : Ext w w' := ext_keep hE hk (by simp)
      have hszk := Nat.le_trans hsz hk.size
      have hms : Hid (MetV L pf.data.toList (fun z => left z && !z.sameKey (.string g.k)) (if Lib.hasPrefix k.data.toList pf.data.toList then ss ++ [g.k] else ss)) := Lib.hid (by
        have h4 := hris.out
        have h5 := hmet.out
        rw [hLe.out] at h4 h5 ⊢
        rw [← hnm.out]
        exact h5.step (risV_after h4).1 (risV_after h4).2 hl.out)
      have hes : encStr g.k = .string k := by rw [hnm.out]
      replace hes := Lib.hid hes
      clear hg hrg0 hown
      rcases hpp : Lib.hasPrefix k.data.toList pf.data.toList with _ | _
      · have hP' := hP k w'
        rw [hpp] at hP' hms
        go_wp2_with (go_at_call 57; (with_reducible refine hP'.mono ?_); rintro e w2 ⟨rfl, rfl⟩)
        go_roundw
        case rel => exact ⟨_, cnt', m, c', T, ss, hrg', rfl, by simpa using hms, hm, ho', hE', hszk⟩
        case measure => rw [hrg'.left_eq, hrg.left_eq]; omega
      · have hP' := hP k w'
        rw [hpp] at hP' hms
        go_wp2_with (first
          | (go_at_call 57; (with_reducible refine hP'.mono ?_); rintro e w2 ⟨rfl, rfl⟩)
          | (at_builtin; (refine wpList_appfam rfl (.tmp 19) (.tmp 21) 57 9 1 16 rfl stringRow w0.heap.size _ _ _ _ rfl (own_ext ho' (ext_alloc _ _)) ⟨_, 0, none⟩ 1 1 [.string k] rfl rfl (rd_list _ [.string k] _) (by intro u hu; rw [List.mem_singleton.1 hu]; rfl) (by unfold maxLen; omega) (by omega) (Nat.le_trans hszk (by simp)) ?_; intro T3 c3 w3 ho3 hk3 hn3)))
        have hxa := ext_alloc w' (.cells #[.string k] 9)
        have hr3 := ranges_keep (ranges_keep hrg' (Keep.of_ext (bs := []) hxa) (by simp) (by simp)) hk3 (fun hm' => by have := hrT _ hm'; omega) (fun hm' => by have := hrT _ hm'; omega)
        go_roundw
        case rel => exact ⟨_, cnt', m + 1, c3, T3, ss ++ [g.k], hr3, rfl, by simpa using hms, Lib.hid (len_snoc hm.out), by rw [List.map_append, List.map_cons, List.map_nil, hes.out]; exact ho3, ext_keep (hE'.trans hxa) hk3 (fun x hx => by have := hrT x hx; omega), by have := hk3.size; have := hxa.size; omega⟩
        case measure => rw [hr3.left_eq, hrg.left_eq]; omega
end Go.Proofs.YtjnbbfhoegeppaaGreatDoor
end
section
/-
  Walks of the store: the record of all that is kept.
-/
set_option linter.unusedSimpArgs false
set_option linter.unusedVariables false
namespace Go.Proofs.YtjnbbfhoegeppaaGreatDoor
open Go.RowKit Go.Cv Go.Cv.Dk Go.Cv.Wal Go.Cv.Kv
theorem keysK_nil (l : List PP) : keysK l [] = l.map PP.k := by
  unfold keysK
  exact filter_all_ (fun k _ => by simp [Lib.hasPrefix])
theorem snp_snoc {l : List PP} {k : Nat} (h : k < l.length) : (l.take (k + 1)).flatMap encP = (l.take k).flatMap encP ++ encP l[k] := by
  rw [List.take_succ_eq_append_getElem h, List.flatMap_append]
  simp
theorem take_flat_le {l : List PP} (k : Nat) : ((l.take k).flatMap encP).length ≤ (l.flatMap encP).length := by
  have : (l.take k).flatMap encP <+: l.flatMap encP := ⟨(l.drop k).flatMap encP, by rw [← List.flatMap_append, List.take_append_drop]⟩
  exact this.length_le
set_option maxRecDepth 4000 in
set_option maxHeartbeats 6400000 in
theorem snap_any (B s d : Nat) (K : KS) (bs : List Nat) (w : World) (h : Sto w B s d K bs) (hL : K.l.length ≤ 1099511627776) (hn : K.n < 9223372036854775808) (hb : (snpB K).length ≤ 70368744177664) :
    Calls Tryz.prog 42 #[.pointer (some ⟨s, 0, none⟩)] w (RetBytes w (snpB K).length (snpB K)) := by
  refine calls_hid fun G hG => ?_
  have hKy := fun w1 (hx : Ext w w1) => keys_any B s d K bs ⟨#[]⟩ w1 (h.ext hx) hL
  obtain ⟨g0, mb, L, h, rfl⟩ := h
  have c3 : w.cell? ⟨s, 3, none⟩ = some (.int .i64 K.n) := h.row.cell (i := 3) (by simp)
  have hB1 := pnumb8 w.heap.size none 0 0 [] K.n w (World.ownsRow_nil w _ _ _) (Nat.le_refl _) (by omega) (by omega)
  have e0 : keysK K.l (ByteArray.mk #[]).data.toList = L.map GV.k := by
    rw [h.ls]
    show keysK _ [] = _
    rw [keysK_nil, List.map_map]
    rfl
  rw [e0] at hKy
  have hLl : K.l.length = L.length := by rw [h.ls, List.length_map]
  rw [hLl] at hL
  obtain ⟨N, hN⟩ : ∃ N, N = (L.map GV.k).length := ⟨_, rfl⟩
  have hNL : Hid (N = L.length) := Lib.hid (by rw [hN, List.length_map])
  have hNle : N ≤ 1099511627776 := by rw [hNL.out]; exact hL
  rw [← hN] at hKy
  replace hN := Lib.hid hN
  go_enter Tryz.func42, Tryz.ntmps42
  go_wp2_with (first
    | (go_at_call 64; (with_reducible refine hB1.mono ?_); rintro e' w1 ⟨A1, c1, q1, rfl, ho1, hS1⟩; have hq1 : q1 ≤ 8 := Nat.le_of_eq (by rw [← own_q ho1]; simp [leN_len]); have hx1 : Ext w w1 := ext_keep (Ext.refl w) hS1.k (by simp [rowOf]))
    | (go_at_call 22; (with_reducible refine (hKy w1 hx1).mono ?_); rintro e' w2 ⟨T, cT, rfl, hoT, hx2⟩; have ho2 := own_ext ho1 hx2; have hB2 := pnumb4 w.heap.size A1 q1 c1 _ N w2 ho2 (hx1.trans hx2).size (by omega) (by omega); have hTA : ∀ x ∈ rowOf T, x ∉ rowOf A1 := (fun x hx hm => by have h1 := row_lt ho1 x hm; have h2 := base_le hoT x hx; omega))
    | (go_at_call 64; (with_reducible refine (hB2).mono ?_); rintro e' w3 ⟨A3, c3', q3, rfl, ho3, hS3⟩))
  have hx3 : Ext w w3 := ext_keep (hx1.trans hx2) hS3.k (base_le ho1)
  have hT3 : w3.ownsRow w1.heap.size 9 1 (.slice T N cT) N ((L.map GV.k).map fun k => .string ⟨k.toArray⟩) := own_keep hoT hS3.k fun g hg => hTA _ (own_rowOf hg)
  have hTA3 : ∀ x ∈ rowOf T, x ∉ rowOf A3 := fun x hx => hS3.not (row_lt hoT x hx) (hTA x hx)
  have hgo : ∀ A' c' q wr, wr.ownsRow w.heap.size 5 1 (.slice A' q c') q ((snpB K).map bv) → Ext w wr → G (.returned (.slice A' q c')) wr := fun A' c' q wr h1 h2 => by
    have hq := own_q h1
    subst hq
    exact hG.out _ _ (RetBytes.mk_ h2 h1)
  have hsn : snpB K = leN 8 K.n ++ (leN 4 N ++ K.l.flatMap encP) := by unfold snpB; rw [hLl, hNL.out]
  have hbl : (K.l.flatMap encP).length ≤ 70368744177664 := by
    refine Nat.le_trans ?_ hb
    rw [hsn]
    simp
    omega
  rw [hsn] at hgo
  replace hgo := Lib.hid hgo
  replace h := Lib.hid h
  replace hLl := Lib.hid hLl
  clear hB1 hB2 hS1 hG hq1 ho1 hKy hsn
  go_loopw [3, 6, 22] (fun b _ i wr => ∃ (k : Nat) (A' : Option Addr) (c' q : Nat), k ≤ N ∧ i = .int .i64 k ∧ b = .slice A' q c' ∧ wr.ownsRow w.heap.size 5 1 (.slice A' q c') q ((leN 8 K.n ++ (leN 4 N ++ (K.l.take k).flatMap encP)).map bv) ∧ wr.ownsRow w1.heap.size 9 1 (.slice T N cT) N ((L.map GV.k).map fun k => .string ⟨k.toArray⟩) ∧ Hid (Ext w wr) ∧ Hid (∀ x ∈ rowOf T, x ∉ rowOf A')) (fun _ _ i _ => N - (intOf i).toNat)
  case atStart => exact ⟨0, A3, c3', q3, Nat.zero_le _, rfl, rfl, by simpa using ho3, hT3, Lib.hid hx3, Lib.hid hTA3⟩
  case round =>
    obtain ⟨k, A', c', q, hk, rfl, rfl, ho, hT, hE, hap⟩ := hrel
    by_cases hlt : k < N
    · have hkL : k < L.length := by rw [← hNL.out]; exact hlt
      have hkK : k < K.l.length := by rw [hLl.out]; exact hkL
      have hnext := snp_snoc hkK
      have hpk : K.l[k] = (L[k]).pp := by
        have h1 : K.l[k]? = some (L[k]).pp := by rw [h.out.ls, List.getElem?_map, List.getElem?_eq_getElem hkL]; rfl
        rw [List.getElem?_eq_getElem hkK] at h1
        injection h1
      rw [hpk] at hnext
      obtain ⟨ad, rfl, p0⟩ := (Rd.of_own hT) k (.string ⟨(L[k].k).toArray⟩) (by rw [List.getElem?_map, List.getElem?_map, List.getElem?_eq_getElem hkL]; rfl)
      have hlen : q ≤ 70368744178000 := by
        rw [← own_q ho]
        have := take_flat_le (l := K.l) k
        simp only [List.length_append, leN_len]
        omega
      have hok := h.out.val L[k] (List.getElem_mem hkL)
      obtain ⟨l1, x, l2, hL1, hl1, _, _⟩ := split_at hkL
      have hxk : L[k] = x := by
        have h1 : L[k]? = some x := by rw [hL1, List.getElem?_append_right (by omega), hl1, Nat.sub_self]; rfl
        rw [List.getElem?_eq_getElem hkL] at h1
        injection h1
      rw [hxk] at hnext p0 hok
      have hsx := toA_size x.k
      have hlook : ∀ w', Ext w w' → (Instr.lookup 76 (.map (some mb)) (.string ⟨x.k.toArray⟩) false).run Tryz.prog w' = .ok (.slice x.A x.v.length x.c) w' := fun w' hx => by
        have hM := (h.out.ext hx).map
        have hr := h.out.map.ris
        rw [hL1] at hM hr
        exact (hM.look' (s := ⟨x.k.toArray⟩) (by have := hok.kb; unfold maxLen; omega) (risV_after hr).1 (by simp)).2
      have hcell : ∀ w', Ext w w' → w'.cell? ⟨s, 2, none⟩ = some (.map (some mb)) := fun w' hx => (h.out.ext hx).row.cell (i := 2) (by simp)
      have hnx : leN 8 K.n ++ (leN 4 N ++ (K.l.take (k + 1)).flatMap encP) = leN 8 K.n ++ (leN 4 N ++ (K.l.take k).flatMap encP) ++ leN 1 (ByteArray.mk x.k.toArray).size ++ (ByteArray.mk x.k.toArray).data.toList ++ leN 4 x.v.length ++ x.v := by
        rw [hnext, hsx]
        simp [encP, GV.pp, leN]
      generalize leN 8 K.n ++ (leN 4 N ++ (K.l.take k).flatMap encP) = xs at *
      replace hnx := Lib.hid hnx
      have hkb := hok.kb
      have hvb := hok.vb
      have hrdx : ∀ w', Ext w w' → Rd w' x.A (x.v.map bv) := fun w' hx => hok.rd.ext hx
      obtain ⟨kz, hkz⟩ : ∃ kz, kz = ByteArray.mk x.k.toArray := ⟨_, rfl⟩
      rw [← hkz] at p0 hsx hlook hnx
      replace hkz := Lib.hid hkz
      have hA' := base_le ho
      have hEs := hE.out.size
      have hN1 := pnumb1 w.heap.size A' q c' _ kz.size wr ho hEs (by omega) (by omega)
      replace hlook := Lib.hid hlook
      replace hcell := Lib.hid hcell
      replace hsx := Lib.hid hsx
      clear hnext hpk hxk hL1
      go_wp2_with (first
        | (go_at_call 64; (with_reducible refine hN1.mono ?_); rintro e' w4 ⟨A4, c4, q4, rfl, ho4, hS4⟩; have hq4 : q4 ≤ q + 1 := Nat.le_of_eq (q_app ho ho4); have hE4 : Ext w w4 := ext_keep hE.out hS4.k hA')
        | (at_builtin; refine wpList_appstr rfl (.tmp 31) (.tmp 32) 43 9 5 rfl Tryz.underlying43 Tryz.underlying9 u8info w.heap.size A4 q4 c4 _ rfl ho4 kz rfl (by have := hsx.out; omega) hE4.size ?_; intro A5 c5 w5 ho5 hS5; have hE5 : Ext w w5 := ext_keep hE4 hS5.k (base_le ho4); have m2 := hcell.out w5 hE5; have hl5 := hlook.out w5 hE5; have hN4 := pnumb4 w.heap.size A5 (q4 + kz.size) c5 _ x.v.length w5 ho5 hE5.size (by omega) (by have := hsx.out; omega))
        | (go_at_call 64; (with_reducible refine hN4.mono ?_); rintro e' w6 ⟨A6, c6, q6, rfl, ho6, hS6⟩; have hE6 : Ext w w6 := ext_keep hE5 hS6.k (base_le ho5); have m3 := hcell.out w6 hE6; have hl6 := hlook.out w6 hE6; have hq6 : q6 ≤ q4 + kz.size + 4 := Nat.le_of_eq (q_app ho5 ho6))
        | (at_builtin; refine wpList_appS rfl (.tmp 44) (.tmp 50) 43 5 rfl u8rowD w.heap.size A6 q6 c6 _ rfl ho6 x.A x.v.length x.c x.v rfl rfl (hrdx _ hE6) (by have := hsx.out; omega) hE6.size ?_; intro A7 c7 w7 ho7 hS7; have hE7 : Ext w w7 := ext_keep hE6 hS7.k (base_le ho6)))
      have hSS := ((hS4.trans hS5).trans hS6).trans hS7
      go_roundw
      case rel => exact ⟨k + 1, A7, c7, _, hlt, by go_num, rfl, by rw [hnx.out]; exact ho7, own_keep hT hSS.k fun g hg => hap.out _ (own_rowOf hg), Lib.hid hE7, Lib.hid fun y hy => hSS.not (row_lt hT y hy) (hap.out y hy)⟩
      case measure => simp [intOf]; omega
    · obtain rfl : k = N := by omega
      rw [List.take_of_length_le (by rw [hLl.out, hNL.out]; exact Nat.le_refl _)] at ho
      go_wp2
      exact hgo.out _ _ _ _ ho hE.out
end Go.Proofs.YtjnbbfhoegeppaaGreatDoor
end
