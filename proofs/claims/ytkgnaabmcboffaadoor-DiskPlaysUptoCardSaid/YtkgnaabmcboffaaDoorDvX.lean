/-
  How much a request can add.
-/
import Derived.Test.YtkgnaabmcboffaaDoorDvW
set_option linter.unusedSimpArgs false
set_option linter.unusedVariables false
namespace Go.Proofs.YtkgnaabmcboffaaDoor
open Go.RowKit Go.Cv Go.Cv.Dk
theorem used_map_le {g : PF → PF} (hg : ∀ f, (g f).b.length ≤ f.b.length) : ∀ l : List PF, used (l.map g) ≤ used l
  | [] => Nat.le_refl _
  | f :: r => by
    have := used_map_le hg r
    have := hg f
    rw [List.map_cons, used_cons, used_cons]
    omega
theorem used_upd_le {l : List PF} {x : List UInt8} {g : PF → PF} (hg : ∀ f, (g f).b.length ≤ f.b.length) : used (Dk.upd l x g) ≤ used l :=
  used_map_le (fun f => by
    split
    · exact hg f
    · exact Nat.le_refl _) l
theorem upd_len (l : List PF) (x : List UInt8) (g : PF → PF) : (Dk.upd l x g).length = l.length := by unfold Dk.upd; rw [List.length_map]
theorem del_len (l : List PF) (x : List UInt8) : (Dk.del l x).length ≤ l.length := List.length_filter_le _ _
theorem used_ins_f (f : PF) (l : List PF) : used (ins PF.nm f l) = used l + f.b.length := by
  obtain ⟨m1, m2, e1, e2⟩ := ins_split PF.nm f l
  rw [e2, e1, used_app, used_cons, used_app]
  omega
theorem used_app_le {l : List PF} (hr : Ris PF.nm l) (x b : List UInt8) : used (Dk.upd l x fun f => { f with b := f.b ++ b }) ≤ used l + b.length := by
  rcases hq : Dk.get l x with _ | f
  · have e : (Dk.upd l x fun f => { f with b := f.b ++ b }) = l := by
      unfold Dk.upd
      exact (List.map_congr_left fun z hz => if_neg (get_none hq z hz)).trans (List.map_id' l)
    rw [e]; omega
  · obtain ⟨l1, l2, rfl, hn, h1, h2⟩ := get_split hr hq
    rw [upd_split _ h1 h2 hn, used_app, used_cons, used_app, used_cons]
    show used l1 + ((f.b ++ b).length + used l2) ≤ _
    rw [List.length_append]
    omega
theorem may_ris {S : DS} (h : S.Ok) (x : List UInt8) : Ris PF.nm (may S.l x) ∧ used (may S.l x) = used S.l ∧ (may S.l x).length ≤ S.l.length + 1 := by
  unfold may
  split
  · exact ⟨h.ris, rfl, by omega⟩
  · rename_i hh
    refine ⟨h.ris.ins fun y hy e => hh ?_, used_ins _ _, by rw [ins_length]; exact Nat.le_refl _⟩
    unfold Dk.has Dk.get
    exact List.find?_isSome.2 ⟨y, hy, by simpa using e⟩
theorem app_bd {S : DS} (h : S.Ok) (x b : List UInt8) : used (app wrap64 S x b).2.l ≤ used S.l + b.length ∧ (app wrap64 S x b).2.l.length ≤ S.l.length + 1 := by
  unfold app
  split
  · exact ⟨Nat.le_add_right _ _, Nat.le_add_right _ _⟩
  · split
    · exact ⟨Nat.le_add_right _ _, Nat.le_add_right _ _⟩
    · split
      · exact ⟨Nat.le_add_right _ _, Nat.le_add_right _ _⟩
      · obtain ⟨h1, h2, h3⟩ := may_ris h x
        have h4 := used_app_le h1 x b
        refine ⟨?_, ?_⟩
        · show used (Dk.upd (may S.l x) x fun f => { f with b := f.b ++ b }) ≤ _
          omega
        · show (Dk.upd (may S.l x) x fun f => { f with b := f.b ++ b }).length ≤ _
          rw [upd_len]; exact h3
/-- Behind any request. -/
theorem op_bd {S : DS} (h : S.Ok) (o : OpV) (hm : o.b.length = o.m) (hl : o.m ≤ 1048576) : used (opS S o).l ≤ used S.l + 1048576 ∧ (opS S o).l.length ≤ S.l.length + 1 := by
  have ha := app_bd h o.x.data.toList o.b
  have hs := (stepd_l S wrap64).1
  have triv : ∀ S' : DS, used S'.l ≤ used S.l → S'.l.length ≤ S.l.length → used S'.l ≤ used S.l + 1048576 ∧ S'.l.length ≤ S.l.length + 1 := fun S' h1 h2 => ⟨by omega, by omega⟩
  unfold opS
  split
  · exact ⟨by omega, ha.2⟩
  split
  · exact ⟨by omega, ha.2⟩
  split
  · refine triv _ ?_ ?_ <;> unfold syn <;> split
    · exact Nat.le_refl _
    · split
      · exact used_upd_le fun f => Nat.le_refl _
      · rw [hs]; exact Nat.le_refl _
    · exact Nat.le_refl _
    · split
      · show (Dk.upd _ _ _).length ≤ _; rw [upd_len]; exact Nat.le_refl _
      · rw [hs]; exact Nat.le_refl _
  split
  · refine triv _ ?_ ?_ <;> unfold trunc <;> split
    · exact Nat.le_refl _
    · split
      · exact Nat.le_refl _
      · split
        · exact used_upd_le fun f => by show (f.b.take _).length ≤ _; rw [List.length_take]; omega
        · rw [hs]; exact Nat.le_refl _
    · exact Nat.le_refl _
    · split
      · exact Nat.le_refl _
      · split
        · show (Dk.upd _ _ _).length ≤ _; rw [upd_len]; exact Nat.le_refl _
        · rw [hs]; exact Nat.le_refl _
  split
  · rcases hq : Dk.get S.l o.x.data.toList with _ | f
    · have e : (ren wrap64 S o.x.data.toList o.y.data.toList).2.l = S.l := by
        unfold ren
        split
        · rfl
        · split
          · rfl
          · split
            · rw [hq]
            · exact hs
      exact triv _ (by rw [e]; exact Nat.le_refl _) (by rw [e]; exact Nat.le_refl _)
    · obtain ⟨l1, l2, hl', hn, h1, h2⟩ := get_split h.ris hq
      have e : ren wrap64 S o.x.data.toList o.y.data.toList = ren wrap64 S o.x.data.toList o.y.data.toList := rfl
      have hd : Dk.del S.l o.x.data.toList = l1 ++ l2 := by rw [hl']; exact del_split h1 h2 hn
      have hu1 := used_del (l1 ++ l2) o.y.data.toList
      have hu2 : used S.l = used (l1 ++ l2) + f.b.length := by rw [hl', used_app, used_cons, used_app]; omega
      have hn1 := del_len (l1 ++ l2) o.y.data.toList
      have hn2 : S.l.length = (l1 ++ l2).length + 1 := by rw [hl']; simp; omega
      refine triv _ ?_ ?_ <;> unfold ren <;> split
      · exact Nat.le_refl _
      · split
        · exact Nat.le_refl _
        · split
          · rw [hq, hd]
            show used (ins PF.nm { f with nm := o.y.data.toList } _) ≤ _
            rw [used_ins_f]
            show _ + f.b.length ≤ _
            omega
          · rw [hs]; exact Nat.le_refl _
      · exact Nat.le_refl _
      · split
        · exact Nat.le_refl _
        · split
          · rw [hq, hd]
            show (ins PF.nm { f with nm := o.y.data.toList } _).length ≤ _
            rw [ins_length]
            omega
          · rw [hs]; exact Nat.le_refl _
  split
  · refine triv _ ?_ ?_ <;> unfold rem <;> split
    · exact Nat.le_refl _
    · split
      · exact used_del _ _
      · rw [hs]; exact Nat.le_refl _
    · exact Nat.le_refl _
    · split
      · exact del_len _ _
      · rw [hs]; exact Nat.le_refl _
  split
  · refine triv _ ?_ ?_ <;> unfold cutd <;> split
    · exact Nat.le_refl _
    · split <;> exact Nat.le_refl _
    · exact Nat.le_refl _
    · split <;> exact Nat.le_refl _
  split
  · refine triv _ ?_ ?_ <;> unfold Dk.pow <;> split
    · exact used_map_le (fun f => by show (f.b.take _).length ≤ _; rw [List.length_take]; omega) _
    · exact Nat.le_refl _
    · show (List.map _ _).length ≤ _; rw [List.length_map]; exact Nat.le_refl _
    · exact Nat.le_refl _
  · exact triv _ (Nat.le_refl _) (Nat.le_refl _)
end Go.Proofs.YtkgnaabmcboffaaDoor
