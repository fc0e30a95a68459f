/-
  KvOpens: the law's walk.
-/
import Derived.Test.YtjnbbfhoegeppaaGreatDoorMKwR
import Derived.Test.YtjnbbfhoegeppaaGreatDoorMKvR
import Derived.Test.YtjnbbfhoegeppaaGreatDoorMKwI
import Derived.Test.YtjnbbfhoegeppaaGreatDoorMArgs
set_option linter.unusedSimpArgs false
set_option linter.unusedVariables false
namespace Go.Proofs.YtjnbbfhoegeppaaGreatDoor
open Go.RowKit Go.Cv Go.Cv.Dk Go.Cv.Wal Go.Cv.Kv
/-- Two files of any bytes are opened. -/
def FOpens (w : World) (B d : Nat) (bs : List Nat) (o : Option KS) (e : Ending) (w' : World) : Prop :=
  ∃ S', (∀ K, o = some K → fnd S' nwL = 9 ∧ K.l.length ≤ 1099511627776) ∧ Opens w B d bs S' o e w'
theorem kopen_file (B d : Nat) (S : DS) (bs : List Nat) (w : World) (has : Bool) (sb lb : List UInt8) (y : List UInt8 × Nat) (h : Dsk w B d S bs) (hD : Df S (some (lb, 0)) (if has then some (sb, 0) else none) (some y)) (hb : S.bud = -1) (h1 : sb.length ≤ 1048576) (h2 : lb.length ≤ 1048576) :
    Calls Tryz.prog 19 #[.pointer (some ⟨d, 0, none⟩)] w (FOpens w B d bs (openR (if has then sb else []) has lb)) := by
  have hfs := hD.fnd_sn
  have hcs := hD.cont_sn
  obtain ⟨g1, g2, g3, g4, g5⟩ := file_open (bump := wrap64) hD hb
  have hO : fnd S snL = 0 ∨ fnd S snL = 9 := by rw [hfs]; cases has <;> simp
  have hl : (cont S snL).length ≤ 134217728 := by rw [hcs]; cases has <;> simp [ctF]; omega
  have key : ∀ K0, snpS S = some K0 → openR (if has then sb else []) has lb = opnR none K0 (scR lb) → K0.l.length < 4294967296 → Calls Tryz.prog 19 #[.pointer (some ⟨d, 0, none⟩)] w (FOpens w B d bs (openR (if has then sb else []) has lb)) := fun K0 hs ho hK => by
    rw [ho]
    refine (kopen_main B d S _ K0 bs (scR lb) w h hs hO hl (.inl g1) (.inr ⟨g2, by rw [g3], rfl, by rw [g3]; exact g4⟩) (by rw [g3]; omega)).mono fun e w' x => ⟨_, fun K hk => ⟨by rw [g3]; exact g5, ?_⟩, x⟩
    have h3 := opnR_len _ _ _ _ hk
    have h4 := (sc_spec lb).count
    omega
  rcases has with _ | _
  · have hs : snpS S = some emptyK := by unfold snpS; rw [hfs]; rfl
    exact key emptyK hs rfl (by decide)
  · have hf0 : fnd S snL = 0 := hfs
    have hc0 : cont S snL = sb := hcs
    have hs : snpS S = snpF sb := by unfold snpS; rw [if_neg (by omega), hc0]
    rcases hq : snpF sb with _ | K0
    · have hno : openR sb true lb = none := by unfold openR; rw [if_pos rfl, hq]; rfl
      show Calls _ _ _ _ (FOpens w B d bs (openR sb true lb))
      rw [hno]
      exact (kopen_snap B d S bs w h hf0 (by rw [hc0]; exact hq) hl).mono fun e w' x => ⟨S, fun K hk => (by cases hk), .inr ⟨rfl, x⟩⟩
    · exact key K0 (hs.trans hq) (by show openR sb true lb = _; unfold openR; rw [if_pos rfl, hq]; rfl) (snpF_some hq).2
theorem rows_lt {w w' : World} {A : Option Addr} {b : List UInt8} (hr : Rd w A (b.map bv)) (hx : Ext w w') : b ≠ [] → ∀ x ∈ rowOf A, x ∉ ([] : List Nat) ∧ x < w'.heap.size := fun hb x hm => by
  rcases b with _ | ⟨y, r⟩
  · exact absurd rfl hb
  · obtain ⟨ad, rfl, hlt⟩ := hr.some_ (by simp)
    simp [rowOf] at hm
    subst hm
    exact ⟨by simp, Nat.lt_of_lt_of_le hlt hx.size⟩
theorem ropen_both (A1 : Option Addr) (n1 c1 : Nat) (sb : List UInt8) (has : Bool) (A2 : Option Addr) (n2 c2 : Nat) (lb : List UInt8) (w w' : World) (h1 : ArgB w A1 n1 c1 sb) (h2 : ArgB w A2 n2 c2 lb) (hx : Ext w w') (hb : c1 + c2 ≤ 1048576) :
    Calls Tryz.prog 25 #[.slice A1 n1 c1, .bool has, .slice A2 n2 c2] w' (ROpens w' [] (openR (if has then sb else []) has lb)) := by
  have := h1.le
  have := h2.le
  rcases has with _ | _
  · exact ropen_no [] _ A2 n2 c2 lb w' h2.len h2.le h2.max (h2.rd.ext hx) (rows_lt h2.rd hx) (by simp) (by omega)
  · exact ropen_yes [] A1 n1 c1 sb A2 n2 c2 lb w' h1.len h1.le h1.max (h1.rd.ext hx) (rows_lt h1.rd hx) (by omega) h2.len h2.le h2.max (h2.rd.ext hx) (rows_lt h2.rd hx) (by simp) (by omega)
theorem ap_new {w a : World} {B d : Nat} {S : DS} {bs : List Nat} {A : Option Addr} {l : List UInt8} (hr : Rd w A (l.map bv)) (hB : w.heap.size ≤ B) (hD : Dsk a B d S bs) : Ap A l bs := Ap.of_lt hr fun x h => Nat.le_trans hB (hD.lt x h).1
/-- A file is laid down. -/
theorem lay_sn {w w2 : World} {B d : Nat} {S : DS} {bs : List Nat} {lg nw : FB} (hD : Dsk w2 B d S bs) (hF : Dfp S lg none nw 1048576) {A : Option Addr} {n c : Nat} {b : List UInt8} (hb : b.length ≤ 1048576) (hl : b.length = n) (hr : Rd w A (b.map bv)) (hx : Ext w w2) (hB : w.heap.size ≤ B) :
    Calls Tryz.prog 27 #[.pointer (some ⟨d, 0, none⟩), .string ⟨#[115, 110, 97, 112]⟩, .slice A n c] w2 fun e w' => e = .returned .nilIface ∧ ∃ S' bs', Dsk w' B d S' bs' ∧ Dfp S' lg (some (b, 0)) nw 1048576 ∧ Stp bs bs' w2 w' := by
  obtain ⟨h1, h2⟩ := hF.app_sn (bump := wrap64) hb
  refine (append_dk ⟨#[115, 110, 97, 112]⟩ A n c b hD (by decide) hl (hr.ext hx) (ap_new hr hB hD) (by show (cont S snL).length + _ ≤ _; rw [hF.df.cont_sn]; simp [ctF]; omega) (by have := hF.len; omega)).mono fun e w' x => ?_
  obtain ⟨he, bs', h3, h4⟩ := x
  refine ⟨?_, _, bs', h3, h2, h4⟩
  rw [he]
  show Ending.returned (errV (Dk.app wrap64 S snL b).1) = _
  rw [h1]; rfl
theorem lay_log {w w2 : World} {B d : Nat} {S : DS} {bs : List Nat} {sn nw : FB} (hD : Dsk w2 B d S bs) (hF : Dfp S none sn nw 1048576) {A : Option Addr} {n c : Nat} {b : List UInt8} (hb : b.length ≤ 1048576) (hl : b.length = n) (hr : Rd w A (b.map bv)) (hx : Ext w w2) (hB : w.heap.size ≤ B) :
    Calls Tryz.prog 27 #[.pointer (some ⟨d, 0, none⟩), .string ⟨#[108, 111, 103]⟩, .slice A n c] w2 fun e w' => e = .returned .nilIface ∧ ∃ S' bs', Dsk w' B d S' bs' ∧ Dfp S' (some (b, 0)) sn nw 1048576 ∧ Stp bs bs' w2 w' := by
  obtain ⟨h1, h2⟩ := hF.app_log (bump := wrap64) hb
  refine (append_dk ⟨#[108, 111, 103]⟩ A n c b hD (by decide) hl (hr.ext hx) (ap_new hr hB hD) (by show (cont S logL).length + _ ≤ _; rw [hF.df.cont_log]; simp [ctF]; omega) (by have := hF.len; omega)).mono fun e w' x => ?_
  obtain ⟨he, bs', h3, h4⟩ := x
  refine ⟨?_, _, bs', h3, h2, h4⟩
  rw [he]
  show Ending.returned (errV (Dk.app wrap64 S logL b).1) = _
  rw [h1]; rfl
theorem lay_nw {w2 w3 : World} {B d : Nat} {S : DS} {bs : List Nat} {lg sn : FB} (hD : Dsk w2 B d S bs) (hF : Dfp S lg sn none 1048576) {A : Option Addr} {n c : Nat} {b : List UInt8} (hb : b.length ≤ 1048576) (hl : b.length = n) (hr : Rd w3 A (b.map bv)) (hx : Ext w2 w3) (hA : ∀ y ∈ rowOf A, w2.heap.size ≤ y) :
    Calls Tryz.prog 27 #[.pointer (some ⟨d, 0, none⟩), .string ⟨#[115, 110, 97, 112, 46, 110, 101, 119]⟩, .slice A n c] w3 fun e w' => e = .returned .nilIface ∧ ∃ S' bs', Dsk w' B d S' bs' ∧ Dfp S' lg sn (some (b, 0)) 1048576 ∧ Stp bs bs' w2 w' := by
  obtain ⟨h1, h2⟩ := hF.app_nw (bump := wrap64) hb
  refine (append_dk ⟨#[115, 110, 97, 112, 46, 110, 101, 119]⟩ A n c b (hD.ext hx) (by decide) hl hr (.inr fun y hy hm => by have := hA y hy; have := (hD.lt y hm).2; omega) (by show (cont S nwL).length + _ ≤ _; rw [hF.df.cont_nw]; simp [ctF]; omega) (by have := hF.len; omega)).mono fun e w' x => ?_
  obtain ⟨he, bs', h3, h4⟩ := x
  refine ⟨?_, _, bs', h3, h2, Stp.after hx h4⟩
  rw [he]
  show Ending.returned (errV (Dk.app wrap64 S nwL b).1) = _
  rw [h1]; rfl
theorem ext_dk {w w1 w2 : World} {B d : Nat} {S : DS} {bs ds : List Nat} (hx : Ext w w1) (hB : w.heap.size ≤ B) (h : Dsk w1 B d S bs) (hs : Stp bs ds w1 w2) : Ext w w2 :=
  ext_keep hx hs.k fun x hm => Nat.le_trans hB (h.lt x hm).1
theorem fopens_none {w w' : World} {B d : Nat} {bs : List Nat} {e : Ending} (h : FOpens w B d bs none e w') : e = .returned (.tuple #[.pointer none, .iface 48 (.int .i64 13)]) ∧ ∃ bs', Stp bs bs' w w' := by
  obtain ⟨S', _, h⟩ := h
  rcases h with ⟨K2, _, _, _, ho, _⟩ | ⟨_, rfl, bs', _, h3⟩
  · cases ho
  · exact ⟨rfl, bs', h3⟩
theorem fopens_some {w w' : World} {B d : Nat} {bs : List Nat} {K : KS} {e : Ending} (h : FOpens w B d bs (some K) e w') : ∃ S' s bs' cs', e = .returned (.tuple #[.pointer (some ⟨s, 0, none⟩), .nilIface]) ∧ fnd S' nwL = 9 ∧ K.l.length ≤ 1099511627776 ∧ Both w' B d s S' K bs' cs' ∧ Stp bs bs' w w' := by
  obtain ⟨S', hk, h⟩ := h
  rcases h with ⟨K2, s, bs', cs', ho, rfl, h1, h2, _⟩ | ⟨ho, _⟩
  · injection ho with ho
    subst ho
    exact ⟨S', s, bs', cs', rfl, (hk _ rfl).1, (hk _ rfl).2, h1, h2⟩
  · cases ho
theorem read_nw {w : World} {B d : Nat} {S : DS} {bs : List Nat} (h : Dsk w B d S bs) (hf : fnd S nwL = 9) :
    Calls Tryz.prog 18 #[.pointer (some ⟨d, 0, none⟩), .string ⟨#[115, 110, 97, 112, 46, 110, 101, 119]⟩] w fun e w' => e = .returned (.tuple #[.slice none 0 0, .iface 48 (.int .i64 9)]) ∧ w = w' := by
  have := read_bad_dk B d S bs ⟨#[115, 110, 97, 112, 46, 110, 101, 119]⟩ w h (by decide) (by show fnd S nwL ≠ 0; omega)
  rw [show fnd S (ByteArray.mk #[115, 110, 97, 112, 46, 110, 101, 119]).data.toList = 9 from hf] at this
  exact this
theorem stands_self {B s d r : Nat} {K : KS} {bs cs : List Nat} {w : World} (h : Sto w B s d K bs) (hr : Rto w r K cs) (hL : K.l.length ≤ 1099511627776) :
    Calls Tryz.prog 24 #[.pointer (some ⟨s, 0, none⟩), .pointer (some ⟨r, 0, none⟩)] w fun e w' => e = .returned (.bool true) ∧ Ext w w' :=
  (stands_any B s d r K K bs cs w h hr hL (fun p hp => (h.kb.1 p hp).1)).mono fun e w' x => by
    obtain ⟨⟨b, he, hb⟩, hx⟩ := x
    rw [hb.2 rfl] at he
    exact ⟨he, hx⟩
set_option maxRecDepth 4000 in
set_option maxHeartbeats 6400000 in
theorem opens_w (A1 : Option Addr) (n1 c1 : Nat) (sb : List UInt8) (has : Bool) (A2 : Option Addr) (n2 c2 : Nat) (lb : List UInt8) (w : World) (_ : True) (hb1 : ArgB w A1 n1 c1 sb) (hb2 : ArgB w A2 n2 c2 lb) (hbnd : c1 + c2 ≤ 1048576) :
    Calls Tryz.prog 4 #[.slice A1 n1 c1, .bool has, .slice A2 n2 c2] w fun e w' => e = .returned (.bool true) ∧ Ext w w' := by
  refine calls_hid fun G hG => ?_
  have hgg : Hid (∀ w', Ext w w' → G (.returned (.bool true)) w') := Lib.hid fun w' hx => hG.out _ _ ⟨rfl, hx⟩
  have hU := up_any w
  have hN := fun w1 => new_dk 1099511627776 w1 (by omega) (by omega)
  have hRo := fun w1 (hx : Ext w w1) => ropen_both A1 n1 c1 sb has A2 n2 c2 lb w w1 hb1 hb2 hx hbnd
  have z1 : sb.length ≤ 1048576 := by have := hb1.len; have := hb1.le; omega
  have z2 : lb.length ≤ 1048576 := by have := hb2.len; have := hb2.le; omega
  have hc13 := kcode_13
  have hcu := kcode_und
  replace hb1 := Lib.hid hb1
  replace hb2 := Lib.hid hb2
  clear hG
  have hKo : Hid (∀ (w1 : World) (B d : Nat) (S : DS) (bs : List Nat) (y : List UInt8 × Nat), Dsk w1 B d S bs → Df S (some (lb, 0)) (if has then some (sb, 0) else none) (some y) → S.bud = -1 → Calls Tryz.prog 19 #[.pointer (some ⟨d, 0, none⟩)] w1 (FOpens w1 B d bs (openR (if has then sb else []) has lb))) := Lib.hid fun w1 B d S bs y h hD hb => kopen_file B d S bs w1 has sb lb y h hD hb z1 z2
  generalize openR (if has then sb else []) has lb = o at *
  rcases has with _ | _ <;> rcases o with _ | K
  all_goals
    go_enter Tryz.func4, Tryz.ntmps4
    go_wp2_with (first
        | (go_at_call 7; (with_reducible refine hU.mono ?_); rintro e w1 ⟨rfl, hx1⟩)
        | (go_at_call 26; (with_reducible refine (hN _).mono ?_); rintro e w2 ⟨d, bs, rfl, hD, hx2⟩; have hE := hx1.trans hx2; have hF : Dfp (newD 1099511627776) none none none 1048576 := dfp_new; have hBw := hx1.size)
        | (go_at_call 27; (with_reducible refine (lay_sn hD hF z1 hb1.out.len hb1.out.rd hE hBw).mono ?_); rintro e w3 ⟨rfl, S3, bs3, hD3, hF3, hS3⟩; have hE3 := ext_dk hE hBw hD hS3; clear hD hF; have hD := hD3; have hF := hF3; clear hE; have hE := hE3)
        | (go_at_call 27; (with_reducible refine (lay_log hD hF z2 hb2.out.len hb2.out.rd hE hBw).mono ?_); rintro e w4 ⟨rfl, S4, bs4, hD4, hF4, hS4⟩; have hE4 := ext_dk hE hBw hD hS4; have hy : Rd (w4.alloc (.cells #[.int .u8 1, .int .u8 2, .int .u8 3] 5)) (some ⟨w4.heap.size, 0, none⟩) (([1, 2, 3] : List UInt8).map bv) := rd_list' w4 [bv 1, bv 2, bv 3] _ rfl; have hAn := lay_nw hD4 hF4 (n := 3) (c := 3) (by decide) rfl hy (ext_alloc _ _) (by simp [rowOf]))
        | (go_at_call 27; (with_reducible refine hAn.mono ?_); rintro e w5 ⟨rfl, S5, bs5, hD5, hF5, hS5⟩; clear hAn; have hE5 := ext_dk hE4 hBw hD4 hS5; have hO := hKo.out w5 _ d S5 bs5 _ hD5 hF5.df hF5.bud)
        | (go_at_call 19; (with_reducible refine hO.mono ?_); rintro e w6 hfo; obtain ⟨rfl, bs6, hS6⟩ := fopens_none hfo; clear hO; have hE6 := ext_dk hE5 hBw hD5 hS6)
        | (go_at_call 19; (with_reducible refine hO.mono ?_); rintro e w6 hfo; obtain ⟨S6, s, bs6, cs6, rfl, hf6, hKl, hB6, hS6⟩ := fopens_some hfo; clear hO; have hE6 := ext_dk hE5 hBw hD5 hS6)
        | (go_at_call 25; (with_reducible refine (hRo w6 hE6).mono ?_); rintro e w7 ⟨hx7, rfl⟩)
        | (go_at_call 25; (with_reducible refine (hRo w6 hE6).mono ?_); rintro e w7 ⟨hx7, r, rfl, hr7, _⟩; have hRd := read_nw (hB6.dsk.ext hx7) hf6; have hSt := stands_self (hB6.sto.ext hx7) hr7 hKl)
        | (go_at_call 13; (with_reducible refine (hc13 _).mono ?_); rintro e w8 ⟨rfl, rfl⟩)
        | (go_at_call 18; (with_reducible refine hRd.mono ?_); rintro e w8 ⟨rfl, rfl⟩)
        | (go_at_call 24; (with_reducible refine hSt.mono ?_); rintro e w9 ⟨rfl, hx9⟩))
    first
      | exact hgg.out _ (hE6.trans hx7)
      | exact hgg.out _ ((hE6.trans hx7).trans hx9)
end Go.Proofs.YtjnbbfhoegeppaaGreatDoor
