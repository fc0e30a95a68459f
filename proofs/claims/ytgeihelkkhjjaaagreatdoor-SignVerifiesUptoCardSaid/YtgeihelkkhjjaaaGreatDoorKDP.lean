/-
  Texts of the lemmas below the claim, put together: DP RN.
-/
import Derived.Test.YtgeihelkkhjjaaaGreatDoorKKern
import Derived.Test.YtgeihelkkhjjaaaGreatDoorKEC
set_option linter.unusedSimpArgs false
set_option linter.unusedVariables false
set_option maxRecDepth 20000
set_option maxHeartbeats 2000000
section
section
namespace Go.Cv.Dig

@[reducible] def iv (d : Nat) : Value:=.int .i64 (d : Int)
theorem qb0 (l : List Nat) : ∀ u ∈ l.map iv,u.oneCell' = true:=by
 intro u hu
 obtain ⟨b,_,rfl⟩:=List.mem_map.1 hu
 rfl

def dval : List Nat→Nat
 | []=>0
 | d :: l=>d + 16777216 * dval l
def qa4 (l : List Nat) : Prop:=∀ d ∈ l,d < 16777216
def Canon (l : List Nat) : Prop:=qa4 l∧l.getLast? ≠ some 0

theorem qf6 (l m : List Nat) : dval (l ++ m) = dval l + 16777216 ^ l.length * dval m:=by
 induction l with
 | nil=>simp [dval]
 | cons d l ih =>
  simp only [List.cons_append,dval,ih,List.length_cons,Nat.pow_succ]
  rw [Nat.mul_add,← Nat.add_assoc]
  congr 1
  rw [← Nat.mul_assoc,Nat.mul_comm 16777216 (16777216 ^ l.length)]
theorem qdv (l : List Nat) (d : Nat) : dval (l ++ [d]) = dval l + 16777216 ^ l.length * d:=by
 rw [qf6];simp [dval]
theorem qa4.lt {l : List Nat} (h : qa4 l) : dval l < 16777216 ^ l.length:=by
 induction l with
 | nil=>simp [dval]
 | cons d l ih =>
  have h1:=h d (by simp)
  have h2:=ih fun x hx=>h x (by simp [hx])
  simp only [dval,List.length_cons,Nat.pow_succ]
  have : 16777216 * (dval l + 1) ≤ 16777216 * 16777216 ^ l.length:=Nat.mul_le_mul_left _ h2
  omega
theorem qa4.nil_ : qa4 []:=fun d h=>by simp at h
theorem qa4.append {l m : List Nat} (h : qa4 l) (k : qa4 m) : qa4 (l ++ m):=fun d hd=>by
 rcases List.mem_append.1 hd with h1 | h1
 ·exact h d h1
 ·exact k d h1
theorem qa4.snoc {l : List Nat} {d : Nat} (h : qa4 l) (hd : d < 16777216) : qa4 (l ++ [d]) :=
 h.append fun x hx=>by rw [List.mem_singleton.1 hx];exact hd
theorem qa4.take {l : List Nat} (h : qa4 l) (n : Nat) : qa4 (l.take n):=fun d hd=>h d (List.mem_of_mem_take hd)
theorem Canon.nil_ : Canon []:=⟨qa4.nil_,by simp⟩
theorem Canon.snoc {l : List Nat} {d : Nat} (h : qa4 l) (hd : d < 16777216) (h0 : d ≠ 0) : Canon (l ++ [d]):=⟨h.snoc hd,by simpa using h0⟩

theorem qfk : ∀ {l : List Nat},(∀ d ∈ l,d = 0)→dval l = 0
 | [],_=>rfl
 | d :: l,h=>by
  have h1:=h d (by simp)
  have h2:=qfk (l:=l) fun x hx=>h x (by simp [hx])
  simp [dval,h1,h2]
theorem qez : ∀ {l : List Nat},dval l = 0→∀ d ∈ l,d = 0
 | [],_,d,h=>by simp at h
 | x :: l,h,d,hd=>by
  simp only [dval] at h
  rcases List.mem_cons.1 hd with rfl | hd
  ·omega
  ·exact qez (l:=l) (by omega) d hd
theorem Canon.zero {l : List Nat} (h : Canon l) (h0 : dval l = 0) : l = []:=by
 rcases l with _ | ⟨d,l⟩
 ·rfl
 ·exfalso
  apply h.2
  have:=qez h0
  have hne : (d :: l) ≠ []:=by simp
  rw [List.getLast?_eq_some_getLast hne]
  rw [this _ (List.getLast_mem hne)]
def dg (l : List Nat) (i : Nat) : Nat:=l.getD i 0
theorem qdw {l : List Nat} {i : Nat} (h : i < l.length) : dg l i = l[i]:=by simp [dg,List.getD,List.getElem?_eq_getElem h]
theorem qhi {l : List Nat} {i : Nat} (h : l.length ≤ i) : dg l i = 0:=by simp [dg,List.getD,List.getElem?_eq_none h]
theorem qa4.dg {l : List Nat} (h : qa4 l) (i : Nat) : dg l i < 16777216:=by
 rcases Nat.lt_or_ge i l.length with h1 | h1
 ·rw [qdw h1];exact h _ (List.getElem_mem h1)
 ·rw [qhi h1];decide
def lo (l : List Nat) (i : Nat) : Nat:=dval (l.take i)
theorem qcy (l : List Nat) : lo l 0 = 0:=by simp [lo,dval]
theorem qb5 (l : List Nat) (i : Nat) : lo l (i + 1) = lo l i + 16777216 ^ i * dg l i:=by
 unfold lo
 rcases Nat.lt_or_ge i l.length with h | h
 ·rw [List.take_succ_eq_append_getElem h,qdv,List.length_take,Nat.min_eq_left (by omega),qdw h]
 ·rw [List.take_of_length_le (by omega),List.take_of_length_le h,qhi h];simp
theorem qdy {l : List Nat} {i : Nat} (h : l.length ≤ i) : lo l i = dval l:=by
 unfold lo;rw [List.take_of_length_le h]
theorem qqs {l : List Nat} (h : qa4 l) (i : Nat) : lo l i < 16777216 ^ i:=by
 have h1:=(h.take i).lt
 unfold lo
 refine Nat.lt_of_lt_of_le h1 (Nat.pow_le_pow_right (by decide) ?_)
 rw [List.length_take];omega
theorem Canon.lb {l : List Nat} (h : Canon l) (hn : l ≠ []) : 16777216 ^ (l.length - 1) ≤ dval l:=by
 have e : l = l.dropLast ++ [l.getLast hn]:=(List.dropLast_concat_getLast hn).symm
 have h0 : l.getLast hn ≠ 0:=fun h1=>h.2 (by rw [List.getLast?_eq_some_getLast hn,h1])
 rw [e,qdv,List.length_append,List.length_dropLast]
 simp only [List.length_cons,List.length_nil]
 have e2 : l.length - 1 + (0 + 1) - 1 = l.length - 1:=by omega
 rw [e2]
 have : 16777216 ^ (l.length - 1) * 1 ≤ 16777216 ^ (l.length - 1) * l.getLast hn:=Nat.mul_le_mul_left _ (by omega)
 omega
theorem Canon.len_lt {l m : List Nat} (hl : Canon l) (hm : Canon m) (h : l.length < m.length) : dval l < dval m:=by
 have h1:=hl.1.lt
 have hn : m ≠ []:=by intro e;rw [e] at h;simp at h
 have h2:=hm.lb hn
 have h3 : 16777216 ^ l.length ≤ 16777216 ^ (m.length - 1):=Nat.pow_le_pow_right (by decide) (by omega)
 omega
theorem Canon.len_le {l : List Nat} (h : Canon l) {n : Nat} (hv : dval l < 16777216 ^ n) : l.length ≤ n:=by
 rcases Nat.lt_or_ge n l.length with h1 | h1
 ·exfalso
  have hn : l ≠ []:=by intro e;rw [e] at h1;simp at h1
  have h2:=h.lb hn
  have h3 : 16777216 ^ n ≤ 16777216 ^ (l.length - 1):=Nat.pow_le_pow_right (by decide) (by omega)
  omega
 ·exact h1
def hi (l : List Nat) (i : Nat) : Nat:=dval (l.drop i)
theorem qoi (l : List Nat) {i : Nat} (h : i ≤ l.length) : dval l = lo l i + 16777216 ^ i * hi l i:=by
 have e : dval l = dval (l.take i ++ l.drop i):=by rw [List.take_append_drop]
 rw [e,qf6,List.length_take,Nat.min_eq_left h];rfl
theorem hi_eq {l m : List Nat} {i : Nat} (h : hi l (i + 1) = hi m (i + 1)) (hl : i < l.length) (hm : i < m.length) (hd : dg l i = dg m i) : hi l i = hi m i:=by
 unfold hi at *
 rw [List.drop_eq_getElem_cons hl,List.drop_eq_getElem_cons hm]
 simp only [dval]
 rw [h,← qdw hl,← qdw hm,hd]
theorem qg1 {l : List Nat} {i : Nat} (hl : i < l.length) : hi l i = dg l i + 16777216 * hi l (i + 1):=by
 unfold hi
 rw [List.drop_eq_getElem_cons hl]
 simp only [dval]
 rw [← qdw hl]
theorem qnb {l m : List Nat} {i : Nat} (hs : qa4 l) (hl : i < l.length) (hm : i < m.length) (h : hi l (i + 1) = hi m (i + 1)) (hd : dg l i < dg m i) : dval l < dval m:=by
 rw [qoi l (Nat.le_of_lt hl),qoi m (Nat.le_of_lt hm),qg1 hl,qg1 hm,h]
 have h1:=qqs hs i
 have h2 : 16777216 ^ i * (dg l i + 16777216 * hi m (i + 1) + 1) ≤ 16777216 ^ i * (dg m i + 16777216 * hi m (i + 1)):=Nat.mul_le_mul_left _ (by omega)
 rw [Nat.mul_add] at h2
 omega
theorem qcj : ∀ {l : List Nat} {i : Nat} (h : i < l.length) (x : Nat),dval (l.set i x) + 16777216 ^ i * dg l i = dval l + 16777216 ^ i * x
 | [],i,h,x=>by simp at h
 | d :: l,0,h,x=>by simp [dval,dg];omega
 | d :: l,i + 1,h,x=>by
  have ih:=qcj (l:=l) (i:=i) (by simpa using h) x
  have e : dg (d :: l) (i + 1) = dg l i:=by simp [dg]
  simp only [List.set_cons_succ,dval,e,Nat.pow_succ]
  have e2 : ∀ y,16777216 ^ i * 16777216 * y = 16777216 * (16777216 ^ i * y):=fun y=>by
   rw [Nat.mul_comm (16777216 ^ i) 16777216,Nat.mul_assoc]
  rw [e2,e2]
  omega
end Go.Cv.Dig
end
section
namespace Go.Cv.Pr

def qcl (n : Nat) : Prop:=2 ≤ n∧∀ d,d ∣ n→d = 1 ∨ d = n

def Eqm (n a b : Nat) : Prop:=a % n = b % n
theorem Eqm.refl (n a : Nat) : Eqm n a a:=rfl
theorem Eqm.symm {n a b : Nat} (h : Eqm n a b) : Eqm n b a:=Eq.symm h
theorem Eqm.trans {n a b c : Nat} (h : Eqm n a b) (k : Eqm n b c) : Eqm n a c:=Eq.trans h k
theorem Eqm.mul {n a b c d : Nat} (h : Eqm n a b) (k : Eqm n c d) : Eqm n (a * c) (b * d):=by
 unfold Eqm at *
 rw [Nat.mul_mod,h,k,← Nat.mul_mod]
theorem Eqm.add {n a b c d : Nat} (h : Eqm n a b) (k : Eqm n c d) : Eqm n (a + c) (b + d):=by
 unfold Eqm at *
 rw [Nat.add_mod,h,k,← Nat.add_mod]
theorem Eqm.pow {n a b : Nat} (h : Eqm n a b) : ∀ e,Eqm n (a ^ e) (b ^ e)
 | 0=>rfl
 | e + 1=>by rw [Nat.pow_succ,Nat.pow_succ];exact (h.pow e).mul h
theorem Eqm.mod (n a : Nat) : Eqm n (a % n) a:=Nat.mod_mod _ _
theorem Eqm.of_dvd {n m a b : Nat} (h : Eqm n a b) (hd : m ∣ n) : Eqm m a b:=by
 unfold Eqm at *
 rw [← Nat.mod_mod_of_dvd a hd,h,Nat.mod_mod_of_dvd b hd]

theorem qih {p a b : Nat} (hle : b ≤ a) : Eqm p a b ↔ p ∣ a - b:=by
 unfold Eqm
 constructor
 ·intro h
  exact (Nat.dvd_iff_mod_eq_zero ..).2 (Nat.sub_mod_eq_zero_of_mod_eq h)
 ·rintro ⟨c,hc⟩
  have : a = b + p * c:=by omega
  rw [this,Nat.add_mul_mod_self_left]
theorem qcl.pos {p : Nat} (h : qcl p) : 0 < p:=by have:=h.1;omega
theorem qcl.coprime {p a : Nat} (h : qcl p) (ha : ¬ p ∣ a) : Nat.Coprime p a:=by
 rcases h.2 (Nat.gcd p a) (Nat.gcd_dvd_left p a) with h1 | h1
 ·exact h1
 ·exfalso;apply ha;rw [← h1];exact Nat.gcd_dvd_right p a
theorem qcl.dvd_mul {p a b : Nat} (h : qcl p) (hd : p ∣ a * b) : p ∣ a ∨ p ∣ b:=by
 by_cases ha : p ∣ a
 ·exact .inl ha
 ·exact .inr ((h.coprime ha).dvd_of_dvd_mul_left hd)
def ch : Nat→Nat→Nat
 | _,0=>1
 | 0,_ + 1=>0
 | n + 1,k + 1=>ch n k + ch n (k + 1)
theorem qmg (n : Nat) : ch n 0 = 1:=by cases n <;> rfl
theorem qrp : ∀ {n k : Nat},n < k→ch n k = 0
 | 0,k + 1,_=>rfl
 | n + 1,k + 1,h=>by simp only [ch];rw [qrp (by omega),qrp (by omega)]
 | 0,0,h=>by omega
 | n + 1,0,h=>by omega
theorem qro : ∀ n : Nat,ch n n = 1
 | 0=>rfl
 | n + 1=>by simp only [ch];rw [qro n,qrp (by omega)]
theorem qns : ∀ n k : Nat,(k + 1) * ch (n + 1) (k + 1) = (n + 1) * ch n k
 | 0,0=>rfl
 | 0,k + 1=>by
  have h1 : ch 1 (k + 2) = 0:=qrp (by omega)
  have h2 : ch 0 (k + 1) = 0:=rfl
  rw [h1,h2];simp
 | n + 1,0=>by
  have:=qns n 0
  simp only [ch,qmg] at *
  omega
 | n + 1,k + 1=>by
  have h1:=qns n k
  have h2:=qns n (k + 1)
  have e1 : ch (n + 2) (k + 2) = ch (n + 1) (k + 1) + ch (n + 1) (k + 2):=rfl
  have e2 : ch (n + 1) (k + 1) = ch n k + ch n (k + 1):=rfl
  rw [e1,Nat.mul_add]
  have e3 : (k + 1 + 1) * ch (n + 1) (k + 1) = (k + 1) * ch (n + 1) (k + 1) + ch (n + 1) (k + 1):=by rw [Nat.add_mul];simp
  rw [e3,h1,h2]
  have e4 : (n + 1 + 1) * ch (n + 1) (k + 1) = (n + 1) * ch (n + 1) (k + 1) + ch (n + 1) (k + 1):=by rw [Nat.add_mul];simp
  rw [e4]
  conv=>rhs;rw [e2]
  rw [Nat.mul_add]
  rw [e2]
  omega
def sm (f : Nat→Nat) : Nat→Nat
 | 0=>f 0
 | n + 1=>sm f n + f (n + 1)
theorem sm_add (f g : Nat→Nat) : ∀ n,sm (fun k=>f k + g k) n = sm f n + sm g n
 | 0=>rfl
 | n + 1=>by simp only [sm,sm_add f g n];omega
theorem qhk (f : Nat→Nat) : ∀ n,sm f (n + 1) = f 0 + sm (fun k=>f (k + 1)) n
 | 0=>rfl
 | n + 1=>by
  have:=qhk f n
  simp only [sm] at *
  omega
theorem sm_mul (f : Nat→Nat) (c : Nat) : ∀ n,c * sm f n = sm (fun k=>c * f k) n
 | 0=>rfl
 | n + 1=>by simp only [sm,Nat.mul_add,sm_mul f c n]
theorem qjd {f g : Nat→Nat} : ∀ {n},(∀ k,k ≤ n→f k = g k)→sm f n = sm g n
 | 0,h=>h 0 (Nat.le_refl _)
 | n + 1,h=>by simp only [sm];rw [qjd fun k hk=>h k (by omega),h (n + 1) (Nat.le_refl _)]
theorem binom (x : Nat) : ∀ n,(x + 1) ^ n = sm (fun k=>ch n k * x ^ k) n
 | 0=>by simp [sm,ch]
 | n + 1=>by
  have ih:=binom x n
  rw [Nat.pow_succ,Nat.mul_add,Nat.mul_one,ih]
  rw [qhk (fun k=>ch (n + 1) k * x ^ k) n]
  have e : sm (fun k=>ch (n + 1) (k + 1) * x ^ (k + 1)) n = sm (fun k=>ch n k * x ^ (k + 1) + ch n (k + 1) * x ^ (k + 1)) n :=
   qjd fun k _=>by simp only [ch];rw [Nat.add_mul]
  rw [e,sm_add]
  have e2 : sm (fun k=>ch n k * x ^ (k + 1)) n = sm (fun k=>ch n k * x ^ k) n * x:=by
   rw [Nat.mul_comm,sm_mul]
   exact qjd fun k _=>by rw [Nat.pow_succ,← Nat.mul_assoc,Nat.mul_comm]
  rw [e2]
  have e3 : sm (fun k=>ch n k * x ^ k) (n + 1) = sm (fun k=>ch n k * x ^ k) n:=by
   simp only [sm];rw [qrp (Nat.lt_succ_self n)];simp
  rw [qhk] at e3
  simp only [qmg,Nat.pow_zero,Nat.mul_one] at *
  omega
theorem qcl.dvd_ch {p k : Nat} (h : qcl p) (hk : 0 < k) (hp : k < p) : p ∣ ch p k:=by
 obtain ⟨q,rfl⟩ : ∃ q,p = q + 1:=⟨p - 1,by have:=h.1;omega⟩
 obtain ⟨j,rfl⟩ : ∃ j,k = j + 1:=⟨k - 1,by omega⟩
 have h1:=qns q j
 have h2 : (q + 1) ∣ (j + 1) * ch (q + 1) (j + 1):=by rw [h1];exact Nat.dvd_mul_right _ _
 rcases h.dvd_mul h2 with h3 | h3
 ·exact absurd (Nat.le_of_dvd (by omega) h3) (by omega)
 ·exact h3
theorem sm_dvd {f : Nat→Nat} {p : Nat} : ∀ {n},(∀ k,k ≤ n→p ∣ f k)→p ∣ sm f n
 | 0,h=>h 0 (Nat.le_refl _)
 | n + 1,h=>Nat.dvd_add (sm_dvd fun k hk=>h k (by omega)) (h (n + 1) (Nat.le_refl _))
theorem qcl.fermat' {p : Nat} (h : qcl p) : ∀ a,Eqm p (a ^ p) a
 | 0=>by
  have:=h.1
  unfold Eqm
  rw [Nat.zero_pow (by omega)]
 | a + 1=>by
  have ih:=h.fermat' a
  obtain ⟨q,hq⟩ : ∃ q,p = q + 2:=⟨p - 2,by have:=h.1;omega⟩
  have hb:=binom a p
  have e : sm (fun k=>ch p k * a ^ k) p = 1 + sm (fun k=>ch p (k + 1) * a ^ (k + 1)) q + a ^ p:=by
   rw [hq]
   rw [qhk]
   simp only [sm,qmg,Nat.pow_zero,Nat.mul_one]
   rw [qro]
   have e9 : a ^ (q + 1 + 1) = a ^ (q + 2):=rfl
   omega
  rw [e] at hb
  have hd : p ∣ sm (fun k=>ch p (k + 1) * a ^ (k + 1)) q:=sm_dvd fun k hk=>Nat.dvd_trans (h.dvd_ch (by omega) (by omega)) (Nat.dvd_mul_right _ _)
  obtain ⟨c,hc⟩:=hd
  rw [hc] at hb
  unfold Eqm at *
  rw [hb]
  have e2 : 1 + p * c + a ^ p = (1 + a ^ p) + p * c:=by omega
  rw [e2,Nat.add_mul_mod_self_left,Nat.add_mod,ih,← Nat.add_mod,Nat.add_comm]
theorem qcl.fermat {p a : Nat} (h : qcl p) (ha : ¬ p ∣ a) : Eqm p (a ^ (p - 1)) 1:=by
 have h1:=h.fermat' a
 have h2:=h.1
 have hpos : 0 < a:=by
  rcases Nat.eq_zero_or_pos a with h0 | h0
  ·subst h0;exact absurd (Nat.dvd_zero p) ha
  ·exact h0
 have e : a ^ p = a * a ^ (p - 1):=by
  rw [Nat.mul_comm,← Nat.pow_succ];congr 1;omega
 have hk : 1 ≤ a ^ (p - 1):=Nat.pow_pos hpos
 have h3 : p ∣ a * (a ^ (p - 1) - 1):=by
  rw [Nat.mul_sub,Nat.mul_one,← e]
  have hle : a ≤ a ^ p:=by rw [e];exact Nat.le_mul_of_pos_right _ hk
  exact (qih hle).1 h1
 rcases h.dvd_mul h3 with h4 | h4
 ·exact absurd h4 ha
 ·exact ((qih hk).2 h4)

theorem qkp {n : Nat} (h2 : 2 ≤ n) (h : ¬ qcl n) : ∃ d,d ∣ n∧2 ≤ d∧d < n:=by
 have : ¬ ∀ d,d ∣ n→d = 1 ∨ d = n:=fun hh=>h ⟨h2,hh⟩
 have ⟨d,hd⟩:=Classical.not_forall.1 this
 have ⟨h3,h4⟩:=Classical.not_imp.1 hd
 have h5:=Nat.le_of_dvd (by omega) h3
 have h6 : d ≠ 0:=fun h0=>by subst h0;have:=Nat.eq_zero_of_zero_dvd h3;omega
 exact ⟨d,h3,by omega,by omega⟩
theorem qha (n : Nat) : 2 ≤ n→∃ d,qcl d∧d ∣ n:=by
 induction n using Nat.strongRecOn with
 | ind n ih =>
  intro h2
  by_cases hp : qcl n
  ·exact ⟨n,hp,Nat.dvd_refl _⟩
  ·obtain ⟨d,h3,h4,h5⟩:=qkp h2 hp
   obtain ⟨e,he,hd⟩:=ih d h5 h4
   exact ⟨e,he,Nat.dvd_trans hd h3⟩
theorem qfu {n : Nat} (h2 : 2 ≤ n) (h : ∀ d,qcl d→d ∣ n→n < d * d) : qcl n:=by
 apply Classical.byContradiction
 intro hp
 obtain ⟨e,h3,h4,h5⟩:=qkp h2 hp
 obtain ⟨f,hf⟩:=h3
 have hf2 : 2 ≤ f:=by
  rcases f with _ | _ | f
  ·omega
  ·omega
  ·omega
 obtain ⟨d,hd,hde⟩:=qha e h4
 obtain ⟨d',hd',hdf⟩:=qha f hf2
 have l1:=Nat.le_of_dvd (by omega) hde
 have l2:=Nat.le_of_dvd (by omega) hdf
 have a1:=h d hd (Nat.dvd_trans hde ⟨f,hf⟩)
 have a2:=h d' hd' (Nat.dvd_trans hdf ⟨e,by rw [hf,Nat.mul_comm]⟩)
 have b1 : d * d ≤ e * d:=Nat.mul_le_mul_right _ l1
 have b2 : d' * d' ≤ f * d':=Nat.mul_le_mul_right _ l2
 have c1 : e * f < e * d:=by omega
 have c2 : f * e < f * d':=by rw [Nat.mul_comm f e];omega
 have c3:=Nat.lt_of_mul_lt_mul_left c1
 have c4:=Nat.lt_of_mul_lt_mul_left c2
 omega
theorem pow_gcd {n b : Nat} (m k : Nat) : Eqm n (b ^ m) 1→Eqm n (b ^ k) 1→Eqm n (b ^ (Nat.gcd m k)) 1:=by
 induction m,k using Nat.gcd.induction with
 | H0 k=>intro _ h;simpa using h
 | H1 m k hm ih =>
  intro h1 h2
  rw [Nat.gcd_rec]
  refine ih ?_ h1
  have e : b ^ k = (b ^ m) ^ (k / m) * b ^ (k % m):=by
   rw [← Nat.pow_mul,← Nat.pow_add,Nat.div_add_mod]
  have h3 : Eqm n ((b ^ m) ^ (k / m) * b ^ (k % m)) (1 ^ (k / m) * b ^ (k % m)):=(h1.pow _).mul (Eqm.refl _ _)
  rw [← e,Nat.one_pow,Nat.one_mul] at h3
  exact h3.symm.trans h2
theorem dvd_pred {n d q a x : Nat} (hd : qcl d) (hq : qcl q) (hdn : d ∣ n) (hqn : q ∣ n - 1) (h1 : Eqm n (a ^ (n - 1)) 1) (hn : 1 ≤ n)
  (hx : Eqm n x (a ^ ((n - 1) / q))) (hg : Nat.gcd (x + (n - 1)) n = 1) : q ∣ d - 1:=by
 apply Classical.byContradiction
 intro hc
 have hb : Eqm d ((a ^ ((n - 1) / q)) ^ q) 1:=by
  rw [← Nat.pow_mul,Nat.div_mul_cancel hqn]
  exact h1.of_dvd hdn
 have hnd : ¬ d ∣ a ^ ((n - 1) / q):=by
  intro h
  have h0 : Eqm d (a ^ ((n - 1) / q)) 0:=by
   unfold Eqm
   rw [Nat.mod_eq_zero_of_dvd h];simp
  have h3:=(h0.pow q).symm.trans hb
  have:=hd.1
  rw [Nat.zero_pow hq.pos] at h3
  unfold Eqm at h3
  rw [Nat.mod_eq_of_lt (by omega : 0 < d),Nat.mod_eq_of_lt (by omega : 1 < d)] at h3
  omega
 have h4:=pow_gcd _ _ hb (hd.fermat hnd)
 have h5 : Nat.gcd q (d - 1) = 1:=hq.coprime hc
 rw [h5,Nat.pow_one] at h4
 have h6 : Eqm d x 1:=(hx.of_dvd hdn).trans h4
 have h7 : d ∣ x + (n - 1):=by
  have h8 : Eqm d (x + (n - 1)) (1 + (n - 1)):=h6.add (Eqm.refl _ _)
  rw [show 1 + (n - 1) = n from by omega] at h8
  unfold Eqm at h8
  rw [Nat.mod_eq_zero_of_dvd hdn] at h8
  exact Nat.dvd_of_mod_eq_zero h8
 have h9:=Nat.dvd_gcd h7 hdn
 rw [hg] at h9
 have:=Nat.le_of_dvd (by omega) h9
 have:=hd.1
 omega
theorem pock {n F : Nat} (h2 : 2 ≤ n) (hF : n ≤ F * F) (h : ∀ d,qcl d→d ∣ n→F ∣ d - 1) : qcl n :=
 qfu h2 fun d hd hdn=>by
  have h3:=h d hd hdn
  have:=hd.1
  have h4:=Nat.le_of_dvd (by omega) h3
  have h5 : F * F ≤ (d - 1) * (d - 1):=Nat.mul_le_mul h4 h4
  have h6 : (d - 1) * (d - 1) < d * d:=Nat.mul_lt_mul'' (by omega) (by omega)
  omega

def pm (n : Nat) : Nat→Nat→Nat→Nat→Nat
 | 0,_,_,c=>c
 | f + 1,b,e,c=>pm n f (b * b % n) (e / 2) (if e % 2 = 1 then c * b % n else c)
theorem pm_eq {n : Nat} : ∀ (f b e c : Nat),e < 2 ^ f→Eqm n (pm n f b e c) (c * b ^ e)
 | 0,b,e,c,h=>by
  have : e = 0:=by simpa using h
  subst this
  simp [pm,Eqm.refl]
 | f + 1,b,e,c,h=>by
  have h2 : e / 2 < 2 ^ f:=by rw [Nat.pow_succ] at h;omega
  have ih:=pm_eq (n:=n) f (b * b % n) (e / 2) (if e % 2 = 1 then c * b % n else c) h2
  have hb : Eqm n ((b * b % n) ^ (e / 2)) (b ^ (2 * (e / 2))):=by
   rw [Nat.pow_mul]
   have : b ^ 2 = b * b:=by rw [Nat.pow_succ,Nat.pow_one]
   rw [this]
   exact (Eqm.mod _ _).pow _
  show Eqm n (pm n f (b * b % n) (e / 2) (if e % 2 = 1 then c * b % n else c)) (c * b ^ e)
  refine ih.trans ?_
  by_cases ho : e % 2 = 1
  ·rw [if_pos ho]
   refine ((Eqm.mod n (c * b)).mul hb).trans ?_
   have : c * b * b ^ (2 * (e / 2)) = c * b ^ e:=by
    rw [Nat.mul_assoc,Nat.mul_comm b,← Nat.pow_succ,show (2 * (e / 2)).succ = e from by omega]
   rw [this];rfl
  ·rw [if_neg ho]
   refine ((Eqm.refl n c).mul hb).trans ?_
   rw [show 2 * (e / 2) = e from by omega];rfl
theorem pm_one {n f b e : Nat} (h : e < 2 ^ f) : Eqm n (pm n f b e 1) (b ^ e):=by
 have:=pm_eq (n:=n) f b e 1 h
 rwa [Nat.one_mul] at this
theorem cert {n d q a f : Nat} (hd : qcl d) (hq : qcl q) (hdn : d ∣ n) (hn : 1 ≤ n) (hqn : (n - 1) % q = 0) (h1 : pm n f a (n - 1) 1 % n = 1 % n) (hf : n - 1 < 2 ^ f)
  (hg : Nat.gcd (pm n f a ((n - 1) / q) 1 + (n - 1)) n = 1) : q ∣ d - 1 :=
 dvd_pred hd hq hdn (Nat.dvd_of_mod_eq_zero hqn) ((pm_one hf).symm.trans h1) hn (pm_one (Nat.lt_of_le_of_lt (Nat.div_le_self _ _) hf)) hg

def trial (n : Nat) : Nat→Nat→Bool
 | 0,_=>true
 | f + 1,d=>Bool.and (Nat.blt 0 (n % d)) (trial n f (d + 1))
theorem qmr {n : Nat} : ∀ (f d : Nat),trial n f d = true→∀ e,d ≤ e→e < d + f→¬ e ∣ n
 | 0,d,_,e,h1,h2=>by omega
 | f + 1,d,h,e,h1,h2=>by
  simp only [trial,Bool.and_eq_true] at h
  by_cases he : e = d
  ·subst he
   intro hd
   have h3:=Nat.mod_eq_zero_of_dvd hd
   rw [h3] at h
   exact absurd h.1 (by decide)
  ·exact qmr f (d + 1) h.2 e (by omega) (by omega)
theorem qeq {n f : Nat} (h2 : 2 ≤ n) (hf : n < (f + 2) * (f + 2)) (h : trial n f 2 = true) : qcl n :=
 qfu h2 fun d hd hdn=>by
  have:=hd.1
  by_cases hlt : d < 2 + f
  ·exact absurd hdn (qmr f 2 h d this hlt)
  ·have : (f + 2) * (f + 2) ≤ d * d:=Nat.mul_le_mul (by omega) (by omega)
   omega
theorem qp0 : qcl 127:=qeq (f:=11) (by decide) (by decide) (by decide +kernel)
theorem qly : qcl 57467:=qeq (f:=239) (by decide) (by decide) (by decide +kernel)
theorem qlx : qcl 75707:=qeq (f:=275) (by decide) (by decide) (by decide +kernel)
theorem qjp : qcl 8574133:=qeq (f:=2928) (by decide) (by decide) (by decide +kernel)
theorem qe0 : qcl 1919519569386763:=pock (F:=1088914891) (by decide) (by decide) fun d hd hdn=>by
 have h0 : 8574133 ∣ d - 1:=cert (n:=1919519569386763) (a:=2) (f:=51) hd qjp hdn (by decide) (by decide) (by decide +kernel) (by decide) (by decide +kernel)
 have h1 : 127 ∣ d - 1:=cert (n:=1919519569386763) (a:=2) (f:=51) hd qp0 hdn (by decide) (by decide) (by decide +kernel) (by decide) (by decide +kernel)
 exact Nat.Coprime.mul_dvd_of_dvd_of_dvd (m:=8574133) (n:=127) (by decide) h0 h1
theorem qca : qcl 75445702479781427272750846543864801:=pock (F:=145321068039563666441) (by decide) (by decide) fun d hd hdn=>by
 have h0 : 1919519569386763 ∣ d - 1:=cert (n:=75445702479781427272750846543864801) (a:=2) (f:=116) hd qe0 hdn (by decide) (by decide) (by decide +kernel) (by decide) (by decide +kernel)
 have h1 : 75707 ∣ d - 1:=cert (n:=75445702479781427272750846543864801) (a:=2) (f:=116) hd qlx hdn (by decide) (by decide) (by decide +kernel) (by decide) (by decide +kernel)
 exact Nat.Coprime.mul_dvd_of_dvd_of_dvd (m:=1919519569386763) (n:=75707) (by decide) h0 h1
theorem qa0 : qcl 74058212732561358302231226437062788676166966415465897661863160754340907:=pock (F:=4335638184405599281083172898336278519067) (by decide) (by decide) fun d hd hdn=>by
 have h0 : 75445702479781427272750846543864801 ∣ d - 1:=cert (n:=74058212732561358302231226437062788676166966415465897661863160754340907) (a:=2) (f:=236) hd qca hdn (by decide) (by decide) (by decide +kernel) (by decide) (by decide +kernel)
 have h1 : 57467 ∣ d - 1:=cert (n:=74058212732561358302231226437062788676166966415465897661863160754340907) (a:=2) (f:=236) hd qly hdn (by decide) (by decide) (by decide +kernel) (by decide) (by decide +kernel)
 exact Nat.Coprime.mul_dvd_of_dvd_of_dvd (m:=75445702479781427272750846543864801) (n:=57467) (by decide) h0 h1
theorem qax : qcl 57896044618658097711785492504343953926634992332820282019728792003956564819949:=pock (F:=74058212732561358302231226437062788676166966415465897661863160754340907) (by decide) (by decide) fun d hd hdn=>by
 have h0 : 74058212732561358302231226437062788676166966415465897661863160754340907 ∣ d - 1:=cert (n:=57896044618658097711785492504343953926634992332820282019728792003956564819949) (a:=2) (f:=255) hd qa0 hdn (by decide) (by decide) (by decide +kernel) (by decide) (by decide +kernel)
 exact h0
def pp : Nat:=2 ^ 255 - 19
theorem prime_pp : qcl pp:=qax
end Go.Cv.Pr
end
end
section
section
namespace Go.Cv.Dig
open Go.RowKit
theorem qon {l : List Nat} (h : qa4 l) (q : Nat) : dval l / 16777216 ^ q % 16777216 = dg l q:=by
 by_cases hq : q < l.length
 ·have h1:=qoi l (i:=q) (by omega)
  have h2:=qqs h q
  have h3:=qg1 hq
  have h4:=h.dg q
  rw [h1,Nat.add_comm,Nat.mul_add_div (Nat.pow_pos (by decide)),Nat.div_eq_of_lt h2,h3]
  omega
 ·rw [qhi (by omega)]
  have h2:=h.lt
  have h3 : 16777216 ^ l.length ≤ 16777216 ^ q:=Nat.pow_le_pow_right (by decide) (by omega)
  rw [Nat.div_eq_of_lt (by omega)]
theorem qoq {l : List Nat} (h : qa4 l) (j : Nat) : nb (dval l) j = UInt8.ofNat (dg l (j / 3) / 256 ^ (j % 3)):=by
 have hd:=qon h (j / 3)
 apply UInt8.toNat_inj.1
 unfold nb
 rw [UInt8.toNat_ofNat',UInt8.toNat_ofNat']
 have e : 2 ^ (8 * j) = 16777216 ^ (j / 3) * 2 ^ (8 * (j % 3)):=by
  rw [show (16777216 : Nat) = 2 ^ 24 from rfl,← Nat.pow_mul,← Nat.pow_add]
  congr 1
  omega
 have e2 : (256 : Nat) ^ (j % 3) = 2 ^ (8 * (j % 3)):=by rw [show (256 : Nat) = 2 ^ 8 from rfl,← Nat.pow_mul]
 rw [e,e2,← Nat.div_div_eq_div_mul,← hd]
 generalize dval l / 16777216 ^ (j / 3) = X
 rcases (by omega : j % 3 = 0 ∨ j % 3 = 1 ∨ j % 3 = 2) with h0 | h0 | h0 <;> rw [h0] <;> omega
def pdig : List Nat:=[16777197,16777215,16777215,16777215,16777215,16777215,16777215,16777215,16777215,16777215,32767]
theorem qfh : dval pdig = 2 ^ 255 - 19:=by decide
theorem qee : Canon pdig:=⟨by unfold qa4 pdig;decide,by decide⟩
end Go.Cv.Dig
namespace Go.Proofs.YtgeihelkkhjjaaaGreatDoor
open Go.RowKit Go.Cv Go.Cv.Dig

theorem qbr (A : Option Addr) (n cap : Nat) (l : List Nat) (i : Nat) (w : World) (hn : l.length = n) (hr : Rd w A (l.map iv)) (hm : n ≤ 140737488355328) (hi : i < 4611686018427387904) :
  Calls Tryz.prog 79 #[.slice A n cap,.int .i64 i] w fun e w'=>e = .returned (iv (dg l i))∧w' = w:=by
 subst hn
 by_cases hlt : i < l.length
 ·obtain ⟨ad,rfl,hc⟩:=hr.at_ (k:=i) (by simpa using hlt)
  rw [List.getElem_map] at hc
  have hd : iv (dg l i) = iv l[i]:=by rw [qdw hlt]
  go_enter Tryz.func79,Tryz.ntmps79
  go_wp2
  go_ret
  exact ⟨by rw [hd];rfl,rfl⟩
 ·have hd : iv (dg l i) = iv 0:=by rw [qhi (by omega)]
  go_enter Tryz.func79,Tryz.ntmps79
  go_wp2
  go_ret
  exact ⟨by rw [hd];rfl,rfl⟩

theorem qme (A : Option Addr) (n cap : Nat) (l : List Nat) (k : Nat) (w : World) (hn : l.length = n) (hr : Rd w A (l.map iv)) (hm : n ≤ 140737488355328) (hi : k / 3 < 4611686018427387904) :
  Calls Tryz.prog 79 #[.slice A n cap,.int .i64 ((k : Int) / 3)] w fun e w'=>e = .returned (iv (dg l (k / 3)))∧w' = w:=qbr A n cap l (k / 3) w hn hr hm hi

theorem p_any (w : World) :
  Calls Tryz.prog 59 #[] w fun e w'=>∃ A c,e = .returned (.slice A 11 c)∧Rd w' A (pdig.map iv)∧Ext w w':=by
 go_enter Tryz.func59,Tryz.ntmps59
 go_wp2
 go_ret
 refine ⟨_,_,rfl,?_,qaa _ _⟩
 refine Rd.of_cells fun j u hu=>?_
 have hj : j < 11:=by have:=(List.getElem?_eq_some_iff.1 hu).1;simpa [pdig] using this
 rw [show (Addr.add ⟨w.heap.size,0,none⟩ j) = ⟨w.heap.size,j,none⟩ from by unfold Addr.add;split <;> simp_all]
 rw [World.cell?_alloc_at _ _ _ _ rfl,← hu]
 rcases (by omega : j = 0 ∨ j = 1 ∨ j = 2 ∨ j = 3 ∨ j = 4 ∨ j = 5 ∨ j = 6 ∨ j = 7 ∨ j = 8 ∨ j = 9 ∨ j = 10) with rfl | rfl | rfl | rfl | rfl | rfl | rfl | rfl | rfl | rfl | rfl <;> rfl

theorem qrq (A : Option Addr) (n cap : Nat) (l : List Nat) (w : World) (hn : l.length = n) (hs : qa4 l) (hr : Rd w A (l.map iv)) (hm : n ≤ 140737488355328) :
  Calls Tryz.prog 50 #[.slice A n cap] w fun e w'=>e = .returned (.agg (qab (nb (dval l))))∧Ext w w':=by
 have hD : Hid (∀ q,dg l q < 16777216):=Lib.hid hs.dg
 have hB : Hid (∀ j,nb (dval l) j = UInt8.ofNat (dg l (j / 3) / 256 ^ (j % 3))):=Lib.hid (qoq hs)
 clear hs
 go_enter Tryz.func50,Tryz.ntmps50
 go_wp2
 go_loopw [4] (fun i wr=>∃ (k : Nat) (g : Nat→UInt8),k ≤ 32∧i = .int .i64 k∧wr = (w.alloc (.cells (qab fun _=>0) 22)).alloc (.cells (qab g) 22)∧∀ j,j < k→g j = nb (dval l) j) (fun i _=>32 - (intOf i).toNat)
 case atStart=>exact ⟨0,_,by omega,rfl,rfl,fun _ h=>absurd h (by omega)⟩
 case round =>
  obtain ⟨k,g,hk,rfl,rfl,hg⟩:=hrel
  replace hg:=Lib.hid hg
  by_cases hlt : k < 32
  ·have hdl:=hD.out (k / 3)
   have h3 : k % 3 < 3:=Nat.mod_lt _ (by decide)
   go_wp2_with (go_at_call 79;with_reducible refine (qme _ _ _ l k _ hn ((hr.alloc _).alloc _) hm (by omega)).mono ?_;rintro e w' ⟨rfl,rfl⟩)
   go_loop [5,6] (fun t5 t6=>∃ m : Nat,m ≤ k % 3∧t6 = .int .i64 m∧t5 = iv (dg l (k / 3) / 256 ^ m)) (fun _ t6=>3 - (intOf t6).toNat)
   case atStart=>exact ⟨0,by omega,rfl,by rw [Nat.pow_zero,Nat.div_one]⟩
   case round =>
    obtain ⟨m,hm3,rfl,rfl⟩:=hrel
    have hX : dg l (k / 3) / 256 ^ m < 16777216:=Nat.lt_of_le_of_lt (Nat.div_le_self _ _) hdl
    have hX2 : Hid (((dg l (k / 3) / 256 ^ m : Nat) : Int) / 256 = ((dg l (k / 3) / 256 ^ (m + 1) : Nat) : Int)):=Lib.hid (by
     rw [Nat.pow_succ,← Nat.div_div_eq_div_mul];rfl)
    have hX3 : Hid (m = k % 3→Cv.u8 (((dg l (k / 3) / 256 ^ m : Nat) : Int) % 256) = nb (dval l) k):=Lib.hid (by
     intro h
     subst h
     rw [hB.out k]
     generalize dg l (k / 3) / 256 ^ (k % 3) = X
     rw [show ((X : Int) % 256) = ((X % 256 : Nat) : Int) from rfl,u8_nat]
     apply UInt8.toNat_inj.1
     rw [UInt8.toNat_ofNat',UInt8.toNat_ofNat']
     exact Nat.mod_mod _ _)
    generalize dg l (k / 3) / 256 ^ m = X at *
    by_cases hlt3 : m < k % 3
    ·go_wp2
     go_round
     case rel=>exact ⟨m + 1,by omega,by go_num,by rw [hX2.out]⟩
     case measure=>simp [intOf];omega
    ·have hmk : m = k % 3:=by omega
     go_wp2
     rw [qem,hX3.out hmk]
     refine ⟨⟨k + 1,updb g k (nb (dval l) k),by omega,by go_num,rfl,fun j hj=>?_⟩,by simp [intOf];omega⟩
     by_cases hjk : j = k
     ·subst hjk;exact if_pos rfl
     ·rw [show updb g k (nb (dval l) k) j = g j from if_neg hjk];exact hg.out j (by omega)
  ·have hk32 : k = 32:=by omega
   subst hk32
   rw [qbm hg.out]
   go_wp2
   refine bodyPost_ret_by (by simp [results,Tryz.results50,go_sem];rfl) rfl ?_
   exact ⟨rfl,(qaa _ _).trans (qaa _ _)⟩
end Go.Proofs.YtgeihelkkhjjaaaGreatDoor
end
section
namespace Go.Cv
open Go.RowKit Go.Cv.Dig
theorem qrs (n : Nat) : ∀ k,bsum (nb n) k = n % 2 ^ (8 * k)
 | 0=>by simp [bsum,Nat.mod_one]
 | k + 1=>by
  simp only [bsum]
  rw [qrs n k,show 8 * (k + 1) = 8 * k + 8 from by omega,Nat.pow_add,Nat.mod_mul]
  unfold nb
  rw [UInt8.toNat_ofNat']
theorem V_nb {n : Nat} (h : n < 2 ^ 256) : V (nb n) = n:=by
 unfold V
 rw [qrs,Nat.mod_eq_of_lt (by simpa using h)]
theorem V_lt (f : Nat→UInt8) : V f < 2 ^ 256:=qeu f 32
@[go_sem] theorem qru (f : Nat→UInt8) : beqb f f = true:=(qdm f f).2 fun _ _=>rfl
theorem pI_mul (a : Nat) (h : ¬ Pr.pp ∣ a) : Eqp (a * pI a) 1:=by
 have hf:=Pr.prime_pp.fermat h
 unfold Pr.Eqm at hf
 obtain ⟨K,hK⟩ : ∃ K,K = 2 ^ 255 - 21:=⟨_,rfl⟩
 have e : Pr.pp - 1 = K + 1:=by rw [hK];decide
 rw [e,Nat.pow_succ] at hf
 unfold pI Eqp
 rw [← hK,Nat.mul_comm]
 exact hf
end Go.Cv
end
section
namespace Go.Cv
open Go.RowKit Go.Cv.Pr
theorem qd6 (a : Nat) : Pr.pp ∣ a ↔ Eqp a 0:=by
 unfold Eqp
 rw [Nat.zero_mod]
 exact Nat.dvd_iff_mod_eq_zero ..
theorem Eqp.cancel {a b c : Nat} (h : Eqp (a + c) (b + c)) : Eqp a b:=by
 unfold Eqp at *
 omega
theorem qes (n : Nat) : Eqp (n + negp n) 0:=by
 have h:=Nat.mod_lt n (show 2 ^ 255 - 19 > 0 by decide)
 unfold Eqp negp
 omega
theorem qch {a n : Nat} (h : Eqp (a + n) 0) : Eqp a (negp n):=by
 have h2:=qlo h
 rwa [Nat.zero_add] at h2
theorem qhm (a b : Nat) : Eqp (negp a * b) (negp (a * b)):=by
 apply qch
 have h:=(qes a).mul (Eqp.refl b)
 rw [Nat.add_mul,Nat.zero_mul,Nat.add_comm] at h
 exact h
theorem qib (a : Nat) : Eqp (negp (negp a)) a:=by
 refine (qch (a:=a) ?_).sy
 exact qes a
theorem qgy {a b : Nat} (h : Eqp a b) : negp a = negp b:=by unfold negp;rw [h]
theorem qjh {a b : Nat} (h : Eqp (a * a) (b * b)) : Eqp a b ∨ Eqp (a + b) 0:=by
 have h1 : Eqp ((a + negp b) * (a + b)) 0:=by
  have e : (a + negp b) * (a + b) = a * a + (a * b + negp b * a) + negp b * b:=by
   rw [Nat.mul_add,Nat.add_mul,Nat.add_mul]
   omega
  have h2 : Eqp (a * b + negp b * a) 0:=by
   rw [Nat.mul_comm a b]
   exact ((Eqp.refl _).add (qhm b a)).tr (qes _)
  have h3 : Eqp (a * a + negp b * b) 0:=(h.add (qhm b b)).tr (qes _)
  rw [e]
  have h4:=h3.add h2
  rw [Nat.add_zero] at h4
  refine Eqp.tr ?_ h4
  show _ % _ = _ % _
  congr 1
  omega
 rcases prime_pp.dvd_mul ((qd6 _).2 h1) with h5 | h5
 ·left
  have h6:=(qd6 _).1 h5
  have h7:=qch h6
  exact h7.tr (qib b)
 ·right
  exact (qd6 _).1 h5
theorem rm1_sq : Eqp (rm1 * rm1 + 1) 0:=by decide +kernel
def hp : Nat:=2 ^ 254 - 10
theorem hp_two : hp + hp = Pr.pp - 1:=by decide
theorem hp_E : 4 * (2 ^ 252 - 2) = hp + 2:=by decide
theorem pE_four (x : Nat) : (pE x * pE x) * (pE x * pE x) = x ^ hp * (x * x):=by
 obtain ⟨E,hE⟩ : ∃ E,E = 2 ^ 252 - 2:=⟨_,rfl⟩
 have h1:=hp_E
 unfold pE
 rw [← hE] at h1 ⊢
 obtain ⟨H,hH⟩ : ∃ H,H = hp:=⟨_,rfl⟩
 rw [← hH] at h1 ⊢
 rw [← Nat.pow_add,← Nat.pow_add,← Nat.pow_two,← Nat.pow_add]
 congr 1
 omega
theorem qf1 {x : Nat} (h : Eqp (x ^ hp) 1) : rtOk x = true:=by
 have h4:=pE_four x
 have h5 : Eqp ((pE x * pE x) * (pE x * pE x)) (x * x):=by
  rw [h4]
  have:=h.mul (Eqp.refl (x * x))
  rwa [Nat.one_mul] at this
 unfold rtOk
 refine decide_eq_true ?_
 unfold rtc
 generalize pE x = r at *
 split
 ·assumption
 ·rename_i hn
  rcases qjh h5 with h6 | h6
  ·exact absurd h6 hn
  ·-- the square is what is owed to x
   have h7:=qch (a:=x) (n:=r * r) (by rw [Nat.add_comm];exact h6)
   have h8 : Eqp (rm1 * rm1) (negp 1):=qch rm1_sq
   have e : r * rm1 * (r * rm1) = r * r * (rm1 * rm1):=Nat.mul_mul_mul_comm ..
   rw [e]
   have h9:=(Eqp.refl (r * r)).mul h8
   refine h9.tr ?_
   rw [Nat.mul_comm]
   refine (qhm 1 (r * r)).tr ?_
   rw [Nat.one_mul]
   exact h7.sy
theorem qh8 {x b : Nat} (hb : ¬ Pr.pp ∣ b) (h : Eqp (b * b) x) : Eqp (x ^ hp) 1:=by
 have hf:=prime_pp.fermat hb
 have h1 : Eqp ((b * b) ^ hp) (x ^ hp):=h.pow hp
 have h2:=hp_two
 obtain ⟨H,hH⟩ : ∃ H,H = hp:=⟨_,rfl⟩
 rw [← hH] at h1 h2 ⊢
 rw [← h2,Nat.pow_add,← Nat.mul_pow] at hf
 exact h1.sy.tr hf
theorem qjg {x b : Nat} (h : Eqp (b * b) x) : rtOk x = true:=by
 by_cases hb : Pr.pp ∣ b
 ·have h0:=(qd6 b).1 hb
  have hx : Eqp x 0:=h.sy.tr (h0.mul h0)
  have hp0 : Eqp (pE x) 0:=by
   obtain ⟨E,hE⟩ : ∃ E,E + 1 = 2 ^ 252 - 2:=⟨2 ^ 252 - 3,by decide⟩
   unfold pE
   rw [← hE,Nat.pow_succ]
   exact ((Eqp.refl _).mul hx).tr (by rw [Nat.mul_zero])
  unfold rtOk
  refine decide_eq_true ?_
  unfold rtc
  have h1 : Eqp (pE x * pE x) x:=(hp0.mul hp0).tr hx.sy
  rw [if_pos h1]
  exact h1
 ·exact qf1 (qh8 hb h)
theorem qh9 {x : Nat} (hx : ¬ Eqp x 0) (h : rtOk x = true) : Eqp (x ^ hp) 1:=by
 have h1 : Eqp (rtc x * rtc x) x:=of_decide_eq_true h
 refine qh8 (b:=rtc x) (fun hd=>hx ?_) h1
 have h0:=(qd6 _).1 hd
 exact h1.sy.tr (h0.mul h0)
theorem euler {x : Nat} (hx : ¬ Eqp x 0) : Eqp (x ^ hp) 1 ∨ Eqp (x ^ hp + 1) 0:=by
 have hf:=prime_pp.fermat (fun hd=>hx ((qd6 x).1 hd))
 have h2:=hp_two
 obtain ⟨H,hH⟩ : ∃ H,H = hp:=⟨_,rfl⟩
 rw [← hH] at h2 ⊢
 rw [← h2,Nat.pow_add] at hf
 exact qjh (b:=1) hf
theorem two_hp (t : Nat) (ht : t = 2) : Eqp (t ^ hp + 1) 0:=by
 have h : ∀ b : Nat,Pr.pm (2 ^ 255 - 19) 254 b (2 ^ 254 - 10) 1 % (2 ^ 255 - 19) = (2 ^ 255 - 20)→Eqp (b ^ hp + 1) 0:=by
  intro b hb
  have hq:=Pr.pm_one (n:=2 ^ 255 - 19) (f:=254) (b:=b) (e:=2 ^ 254 - 10) (by decide)
  unfold Pr.Eqm at hq
  rw [hb] at hq
  have e : hp = 2 ^ 254 - 10:=rfl
  rw [← e] at hq
  generalize b ^ hp = X at *
  unfold Eqp
  omega
 exact h t (by rw [ht];decide +kernel)
theorem double {x y : Nat} (hx : ¬ Eqp x 0) (hy : Eqp y (x + x)) : rtOk y = !rtOk x:=by
 obtain ⟨t,ht⟩ : ∃ t,t = 2:=⟨_,rfl⟩
 have hxy : Eqp (y ^ hp) (t ^ hp * x ^ hp):=by
  rw [← Nat.mul_pow]
  refine Eqp.pow ?_ hp
  rw [ht,Nat.two_mul]
  exact hy
 have hy0 : ¬ Eqp y 0:=fun h0=>by
  have h2 : Eqp (2 * x) 0:=by rw [Nat.two_mul];exact hy.sy.tr h0
  rcases prime_pp.dvd_mul ((qd6 _).2 h2) with h3 | h3
  ·exact absurd h3 (by decide +kernel)
  ·exact hx ((qd6 _).1 h3)
 have hne : ∀ z,Eqp (z ^ hp) 1→Eqp (z ^ hp + 1) 0→False:=fun z ha hb=>by
  have:=(ha.sy.add (Eqp.refl 1)).tr hb
  revert this
  decide
 have t2:=qch (two_hp t ht)
 have tt : Eqp (t ^ hp * x ^ hp) (negp (x ^ hp)):=by
  refine (t2.mul (Eqp.refl (x ^ hp))).tr ((qhm 1 _).tr ?_)
  rw [Nat.one_mul]
 have hyn : Eqp (y ^ hp + x ^ hp) 0:=by
  refine ((hxy.tr tt).add (Eqp.refl (x ^ hp))).tr ?_
  rw [Nat.add_comm]
  exact qes _
 cases hr : rtOk x with
 | true =>
  have h3:=qh9 hx hr
  cases hs : rtOk y with
  | false=>rfl
  | true =>
   have h4:=qh9 hy0 hs
   have:=((h4.add h3).sy.tr hyn)
   revert this
   decide
 | false =>
  have h3 : Eqp (x ^ hp + 1) 0:=by
   rcases euler hx with h | h
   ·rw [qf1 h] at hr
    exact absurd hr (by decide)
   ·exact h
  have h4 : Eqp (y ^ hp) 1:=by
   have h5:=qch hyn
   have h6:=qch h3
   refine h5.tr ?_
   rw [qgy h6]
   exact qib 1
  rw [qf1 h4]
  rfl
theorem qlu {x b : Nat} (h : Eqp (b * b) x) : Eqp (rtv x) b ∨ Eqp (rtv x + b) 0:=by
 have h1 : Eqp (rtc x * rtc x) x:=of_decide_eq_true (qjg h)
 have h2:=qjh (h1.tr h.sy)
 unfold rtv
 split
 ·rw [Nat.zero_add]
  rcases h2 with h3 | h3
  ·right
   rw [qgy h3,Nat.add_comm]
   exact qes b
  ·left
   rw [qgy (qch h3)]
   exact qib b
 ·exact h2
theorem even_num {q r : Nat} (h : r < q) (hq : q % 2 = 1) (h1 : r % 2 = 1) : (q - r) % q % 2 = 0:=by
 have e : (q - r) % q = q - r:=Nat.mod_eq_of_lt (by omega)
 rw [e]
 omega
theorem qm0 (x : Nat) : rtv x % (2 ^ 255 - 19) % 2 = 0:=by
 unfold rtv
 generalize rtc x = r
 have h:=Nat.mod_lt r (show 2 ^ 255 - 19 > 0 by decide)
 by_cases h1 : r % (2 ^ 255 - 19) % 2 = 1
 ·rw [if_pos h1,Nat.zero_add]
  unfold negp
  exact even_num h (by decide) h1
 ·rw [if_neg h1]
  exact (Nat.mod_two_eq_zero_or_one _).resolve_right h1
end Go.Cv
section
namespace Go.Cv
open Go.RowKit
theorem neg_ref (a b : Nat) : (a + negp b) % (2 ^ 255 - 19) = (a % (2 ^ 255 - 19) + 2 * (2 ^ 255 - 19) - b % (2 ^ 255 - 19)) % (2 ^ 255 - 19):=by
 have h:=Nat.mod_lt b (show 0 < 2 ^ 255 - 19 by decide)
 unfold negp
 omega
theorem rm_ref (P e : Nat) (hP : P = 2 ^ 255 - 19) (he : e = (P - 1) / 2 / 2) : 2 ^ e % P = rm1 % P:=by
 have h1 : e = (2 ^ 255 - 20) / 2 / 2:=by rw [he,hP]
 have h2 : e < 2 ^ 254:=by omega
 have h:=Pr.pm_one (n:=P) (b:=2) h2
 unfold Pr.Eqm at h
 rw [← h]
 clear h h2 he
 subst h1 hP
 decide +kernel
theorem root_ref (a P r0 r : Nat) (hP : P = 2 ^ 255 - 19) (h0 : r0 = pE a % P) (hr : r = rtc a % P) :
  r0 = (a % P) ^ ((P + 3) / 2 / 2 / 2) % P∧((r0 * r0) % P = a % P→r = r0)∧((r0 * r0) % P ≠ a % P→r = (r0 * (2 ^ ((P - 1) / 2 / 2) % P)) % P) ∧
  rtOk a = decide ((r * r) % P = a % P)∧(rtOk a = true→beqb (ob (rtv a)) (nb (if r % 2 = 1 then (0 + 2 * P - r) % P else r)) = true):=by
 have hc : (r0 * r0) % P = a % P ↔ Eqp (pE a * pE a) a:=by
  rw [h0,← Nat.mul_mod,hP];try exact Iff.rfl
 have hk : (r * r) % P = a % P ↔ Eqp (rtc a * rtc a) a:=by
  rw [hr,← Nat.mul_mod,hP];try exact Iff.rfl
 refine ⟨?_,fun h=>?_,fun h=>?_,?_,fun _=>?_⟩
 ·rw [h0,← Nat.pow_mod]
  unfold pE
  rw [show 2 ^ 252 - 2 = (P + 3) / 2 / 2 / 2 from by omega]
 ·rw [hr,h0]
  unfold rtc
  rw [if_pos (hc.1 h)]
 ·rw [rm_ref P _ hP rfl,hr,h0,← Nat.mul_mod]
  unfold rtc
  rw [if_neg fun h2=>h (hc.2 h2)]
 ·unfold rtOk
  by_cases h : Eqp (rtc a * rtc a) a
  ·rw [decide_eq_true h,decide_eq_true (hk.2 h)]
  ·rw [decide_eq_false h,decide_eq_false fun h2=>h (hk.1 h2)]
 ·have e : rtv a % (2 ^ 255 - 19) = if r % 2 = 1 then (0 + 2 * P - r) % P else r:=by
   unfold rtv
   rw [← hP,← hr]
   split
   ·rw [hP,neg_ref,← hP,← hr,Nat.zero_mod]
   ·exact hr.symm
  unfold ob
  rw [e]
  exact qru _
end Go.Cv
end
end
end
