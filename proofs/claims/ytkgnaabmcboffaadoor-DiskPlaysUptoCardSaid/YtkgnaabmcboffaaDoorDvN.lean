/-
  Walks of the disk: its names.
-/
import Derived.Test.YtkgnaabmcboffaaDoorDvG
import Derived.Test.YtkgnaabmcboffaaDoorSorts
import Derived.Sort.KeysCollected
import Derived.Sort.OwnSorted
set_option linter.unusedSimpArgs false
set_option linter.unusedVariables false
namespace Go.Proofs.YtkgnaabmcboffaaDoor
open Go.RowKit Go.Cv Go.Cv.Dk
/-- The names met. -/
def Met (L : List GF) (left : Lit → Bool) (ss : List (List UInt8)) : Prop := ss.Perm ((L.filter fun g => !left (.string g.f.nm)).map fun g => g.f.nm)
theorem Met.start {L : List GF} {left : Lit → Bool} (h : ∀ g ∈ L, left (.string g.f.nm) = true) : Met L left [] := by
  unfold Met
  rw [List.filter_eq_nil_iff.2 (fun g hg => by rw [h g hg]; simp)]
  exact List.Perm.refl _
theorem Met.step {l1 l2 : List GF} {g : GF} {left : Lit → Bool} {ss : List (List UInt8)} (h : Met (l1 ++ g :: l2) left ss) (h1 : ∀ z ∈ l1, z.f.nm ≠ g.f.nm) (h2 : ∀ z ∈ l2, z.f.nm ≠ g.f.nm) (hl : left (.string g.f.nm) = true) :
    Met (l1 ++ g :: l2) (fun z => left z && !z.sameKey (.string g.f.nm)) (ss ++ [g.f.nm]) := by
  have e : ∀ l : List GF, (∀ z ∈ l, z.f.nm ≠ g.f.nm) → (l.filter fun z => !(left (.string z.f.nm) && !(Lit.string z.f.nm).sameKey (.string g.f.nm))) = l.filter fun z => !left (.string z.f.nm) := fun l hl => List.filter_congr fun z hz => by
    have : (Lit.string z.f.nm).sameKey (.string g.f.nm) = false := by simpa [Lit.sameKey] using hl z hz
    rw [this]; simp
  unfold Met at h ⊢
  rw [List.filter_append, List.filter_cons_of_neg (by simp [hl])] at h
  rw [List.filter_append, List.filter_cons_of_pos (by simp [Lit.sameKey]), e l1 h1, e l2 h2, List.map_append, List.map_cons]
  rw [List.map_append] at h
  exact (h.append_right [g.f.nm]).trans ((List.append_assoc _ _ _ ▸ (List.perm_append_comm.append_left _)) |> fun p => p)
theorem Met.len {L : List GF} {left : Lit → Bool} {ss : List (List UInt8)} (h : Met L left ss) : ss.length ≤ L.length := by
  rw [h.length_eq, List.length_map]
  exact List.length_filter_le _ _
theorem Met.all {L : List GF} {left : Lit → Bool} {ss : List (List UInt8)} (h : Met L left ss) (hl : ∀ g ∈ L, left (.string g.f.nm) = false) : ss.Perm (L.map fun g => g.f.nm) := by
  unfold Met at h
  rwa [filter_all_ (fun g hg => by rw [hl g hg]; rfl)] at h
theorem ris_sorted {L : List GF} (h : Ris GF.nm L) : (L.map fun g => g.f.nm).mergeSort (fun x y => decide (x ≤ y)) = L.map fun g => g.f.nm := by
  refine List.mergeSort_of_pairwise (List.pairwise_map.2 (List.Pairwise.imp (fun {a b} hab => ?_) h))
  have h1 : Op.bytesLess a.f.nm b.f.nm = true := by rw [bl_eq]; exact hab
  rw [bytesLess_eq] at h1
  exact decide_eq_true (List.le_of_lt (of_decide_eq_true h1))
theorem stringRow : RowS Tryd.prog 71 9 1 16 := RowS.of (z := .string ⟨#[]⟩) (by omega) Tryd.underlying71 (by kernel_rfl) rfl
set_option maxHeartbeats 3200000 in
theorem names_any (B d mb : Nat) (S : DS) (L : List GF) (w : World) (h : DiskAt w B d mb S L) (hL : L.length ≤ 1099511627776) :
    Calls Tryd.prog 35 #[.pointer (some ⟨d, 0, none⟩)] w fun e w' => ∃ A c, e = .returned (.slice A L.length c) ∧ w'.ownsRow w.heap.size 9 1 (.slice A L.length c) L.length (L.map fun g => .string ⟨g.f.nm.toArray⟩) ∧ Ext w w' := by
  refine calls_hid fun G hG => ?_
  have c1 : w.cell? ⟨d, 1, none⟩ = some (.map (some mb)) := h.row.cell (i := 1) (by simp)
  have hown := h.map
  have hris := Lib.hid h.map.ris
  have hmlt := h.map.lt
  clear h
  obtain ⟨n, hn⟩ : ∃ n, n = L.length := ⟨_, rfl⟩
  rw [← hn] at hL hG
  have hg : ∀ A c w', w'.ownsRow w.heap.size 9 1 (.slice A n c) n (L.map fun g => .string ⟨g.f.nm.toArray⟩) → Ext w w' → G (.returned (.slice A n c)) w' := fun A c w' h1 h2 => hG.out _ _ ⟨A, c, rfl, h1, h2⟩
  replace hg := Lib.hid hg
  replace hn := Lib.hid hn
  clear hG
  unfold MapAt at hown
  go_enter Tryd.func35, Tryd.ntmps35
  go_wp2_with (at_range; refine wpList_range_own _ rfl _ 50 rfl 9 55 strK Tryd.underlying50 RF mb L.length (.map (ents L)) rfl hown ?_; intro w0 hrg0 hg0 hs0)
  go_frame
  go_loopw [3] (fun t wr => ∃ (left : Lit → Bool) (cnt m c' : Nat) (T : Option Addr) (ss : List (List UInt8)), wr.ranges Tryd.prog 9 RF mb w.heap.size L.length (.map (ents L)) left cnt ∧ t = .slice T m c' ∧ Hid (Met L left ss) ∧ Hid (ss.length = m) ∧ wr.ownsRow w0.heap.size 9 1 (.slice T m c') m (ss.map encStr) ∧ Ext w wr ∧ w0.heap.size ≤ wr.heap.size) (fun _ wr => wr.rangeLeft mb w.heap.size)
  case atStart => exact ⟨_, _, 0, 0, none, [], hrg0, rfl, Lib.hid (Met.start has_all), Lib.hid rfl, World.ownsRow_nil _ _ _ _, ext_grown hg0, Nat.le_refl _⟩
  case round =>
    obtain ⟨left, cnt, m, c', T, ss, hrg, rfl, hmet, hm, ho, hE, hsz⟩ := hrel
    have hmb : m ≤ 1099511627776 := by have := hmet.out.len; rw [hm.out, ← hn.out] at this; omega
    have hsw : w.heap.size < w0.heap.size := by omega
    go_wp2_with (at_next; refine wpList_next_files rfl _ rfl mb w.heap.size L.length L left cnt rfl hrg ?_ ?_)
    · intro hdone
      have hp := hmet.out.all hdone
      have hmn : m = n := by rw [← hm.out, hn.out, hp.length_eq, List.length_map]
      subst hmn
      have hsrt : ss.mergeSort (fun x y => decide (x ≤ y)) = L.map fun g => g.f.nm := (mergeSort_of_perm hp).trans (ris_sorted hris.out)
      have hB : w.heap.size ≤ w0.heap.size := by omega
      by_cases hm0 : m = 0
      · subst hm0
        have hL0 : L = [] := List.eq_nil_of_length_eq_zero hn.out.symm
        have hs0' : ss = [] := List.eq_nil_of_length_eq_zero hm.out
        have hgg := hg.out T c' wr (by rw [hL0]; rw [hs0'] at ho; exact own_base ho hB) hE
        have hS := Tryd.slices_Sort_string_none T c' wr
        clear hg ho hmet hp hsrt hrg hrg0 hown
        go_wp2_with (go_at_call 45; (with_reducible refine hS.mono ?_); rintro e w' ⟨rfl, rfl⟩)
        exact hgg
      · obtain ⟨g, cs, rfl, hb, hnc, hcm, hr, hlc, htk⟩ := own_pos ho (by omega)
        have hS := Tryd.slices_Sort_string g 0 c' ss wr (holds_of_block (cur := cs.toArray) hr (by rw [hm.out]; rw [Nat.mul_one] at htk; exact htk)) hr.lt (by rw [hm.out]; omega)
        rw [hm.out, hsrt] at hS
        have hgg : ∀ q os, G (.returned (.slice (some ⟨g, 0, none⟩) m c')) (Go.Sort.grow (Go.Sort.putRow encStr (Go.Sort.ahead wr q) g 0 (L.map fun g => g.f.nm).toArray) os) := fun q os => hg.out _ _ _ (by
          have h1 := ownsRow_sorted (base := w0.heap.size) (n := q) (os := os) (ss := ss) (ts := L.map fun g => g.f.nm) (by rw [List.length_map, ← hn.out, hm.out]) hb hr (by rw [hm.out]; exact hnc) hcm (by simpa using hlc)
          rw [hm.out, List.map_map] at h1
          exact own_base h1 hB) (ext_keep hE (Keep.grown (bs := [g]) (grownBy_sorted _) (fun k hk => by simp at hk; simp [hk])) (fun x hx => by rw [List.mem_singleton.1 hx]; omega))
        replace hgg := Lib.hid hgg
        clear hg ho hmet hp hsrt hrg hrg0 hown hr hlc htk
        go_wp2_with (go_at_call 45; (with_reducible refine hS.mono ?_); rintro e w' ⟨rfl, q, os, rfl⟩)
        exact hgg.out q os
    · intro l1 l2 g s w' cnt' hLe hnm hl hrg' hlt' hk hen
      have hrT : ∀ x ∈ rowOf T, w0.heap.size ≤ x := fun x hx => (ho.lt x (rowOf_own hx)).1
      have ho' := own_keep ho hk (fun k hk' hm' => by rw [List.mem_singleton.1 hm'] at hk'; have := hrT _ (own_rowOf hk'); omega)
      have hE' : Ext w w' := ext_keep hE hk (by simp)
      have hszk := Nat.le_trans hsz hk.size
      have hms : Hid (Met L (fun z => left z && !z.sameKey (.string g.f.nm)) (ss ++ [g.f.nm])) := Lib.hid (by
        have h4 := hris.out
        have h5 := hmet.out
        rw [hLe.out] at h4 h5 ⊢
        exact h5.step (ris_after h4).1 (ris_after h4).2 hl.out)
      have hes : encStr g.f.nm = .string s := by rw [hnm.out]
      replace hes := Lib.hid hes
      clear hg hrg0 hown
      go_wp2_with (at_builtin; (refine wpList_appfam rfl (.tmp 14) (.tmp 16) 71 9 1 16 rfl stringRow w0.heap.size _ _ _ _ rfl (own_ext ho' (ext_alloc _ _)) ⟨_, 0, none⟩ 1 1 [.string s] rfl rfl (rd_list _ [.string s] _) (by intro u hu; rw [List.mem_singleton.1 hu]; rfl) (by unfold maxLen; omega) (by omega) (Nat.le_trans hszk (by simp)) ?_; intro T3 c3 w3 ho3 hk3 hn3))
      have hxa := ext_alloc w' (.cells #[.string s] 9)
      have hr3 := ranges_keep (ranges_keep hrg' (Keep.of_ext (bs := []) hxa) (by simp) (by simp)) hk3 (fun hm' => by have := hrT _ hm'; omega) (fun hm' => by have := hrT _ hm'; omega)
      go_round
      case rel => exact ⟨_, cnt', m + 1, c3, T3, ss ++ [g.f.nm], hr3, rfl, hms, Lib.hid (len_snoc hm.out), by rw [List.map_append, List.map_cons, List.map_nil, hes.out]; exact ho3, ext_keep (hE'.trans hxa) hk3 (fun x hx => by have := hrT x hx; omega), by have := hk3.size; have := hxa.size; omega⟩
      case measure => rw [hr3.left_eq, hrg.left_eq]; omega
theorem names_dk {B d : Nat} {S : DS} {bs : List Nat} {w : World} (h : Dsk w B d S bs) (hL : S.l.length ≤ 1099511627776) :
    Calls Tryd.prog 35 #[.pointer (some ⟨d, 0, none⟩)] w fun e w' => ∃ A c, e = .returned (.slice A S.l.length c) ∧ w'.ownsRow w.heap.size 9 1 (.slice A S.l.length c) S.l.length (S.l.map fun f => .string ⟨f.nm.toArray⟩) ∧ Ext w w' := by
  obtain ⟨mb, L, h, rfl⟩ := h
  rw [h.ls, List.length_map] at hL ⊢
  rw [List.map_map]
  exact names_any B d mb S L w h hL
end Go.Proofs.YtkgnaabmcboffaaDoor
