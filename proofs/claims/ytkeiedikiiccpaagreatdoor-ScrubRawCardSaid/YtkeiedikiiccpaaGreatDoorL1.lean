/- The plain law: the program and the reference answer alike. -/
import Derived.Test.YtkeiedikiiccpaaGreatDoorD3
import Derived.Test.YtkeiedikiiccpaaGreatDoorT2
set_option linter.all false
namespace Go.Proofs.YtkeiedikiiccpaaGreatDoor.Am
open Go
section
variable {α : Type} {k : Nat}
theorem ref_step (a p : F8) : bitI .xor .i64 (ofG p) (ofG a) = ofG (p ^^^ a) := by
 have h : ∀ a : F8,BitVec.ofInt 64 (ofG a) = BitVec.setWidth 64 a := by decide +kernel
 show w64 ((BitVec.ofInt 64 (ofG p) ^^^ BitVec.ofInt 64 (ofG a)).toNat : Int) = _
 rw [h,h,← BitVec.setWidth_xor,BitVec.toNat_setWidth]
 have := (p ^^^ a).isLt
 rw [Nat.mod_eq_of_lt (by omega),w64_id (by omega) (by omega)]
 rfl
theorem ref_dbl (a : F8) : (bif decide (w64 (ofG a * 2 ^ 1) ≥ 256) then bitI .xor .i64 (w64 (ofG a * 2 ^ 1)) 285 else w64 (ofG a * 2 ^ 1)) = ofG (gdbl a) := by
 revert a
 decide +kernel
theorem ref_bit (b : F8) (i : Nat) (h : i < 8) : (bitI .and .u8 (Int.fdiv (ofG b) (2 ^ (min (wu64 (i : Int)).toNat 8))) 1 == 1) = (b >>> i).getLsbD 0 := by
 have h8 : ∀ (i : Fin 8) (b : F8),(bitI .and .u8 (Int.fdiv (ofG b) (2 ^ (min (wu64 (i.val : Int)).toNat 8))) 1 == 1) = (b >>> i.val).getLsbD 0 := by decide +kernel
 exact h8 ⟨i,h⟩ b
theorem f131_eq (hk : 10000 ≤ k) (a b : F8) (K : Int → Option α) : f131 k (ofG a) (ofG b) K = K (ofG (gmul a b)) := by
 simp only [f131,s131,SumT.leaf,SumT.pre,SumT.seq,SumT.cond,SumT.block,SumT.blockP,SumT.loop,zB]
 have ha := ofG_lt a
 have ha' := ofG_nn a
 rw [w64_id (by omega) (by omega)]
 refine lp_rule (fun m x => m ≤ 8 ∧ ∃ a' p' : F8,x = (ofG b,ofG p',ofG a',((8 - m : Nat) : Int)) ∧ gmulA m p' a' (b >>> (8 - m)) = gmul a b) ?_ (m := 8) ⟨Nat.le_refl _,a,0,rfl,rfl⟩ (by omega)
 rintro m x n ⟨hm,a',p',rfl,hg⟩ hn
 cases m with
 | zero =>
  simp only [gmulA] at hg
  show K (w8 (ofG p')) = _
  rw [hg,w8_id (ofG_nn _) (ofG_lt _)]
 | succ m =>
  have hlt : ((8 - (m + 1) : Nat) : Int) < 8 := by omega
  simp only [ref_bit b (8 - (m + 1)) (by omega),ref_step,decide_eq_true hlt,cond_true]
  rw [if_pos (by rw [wu64_id (by omega) (by omega)]; omega),show w64 (((8 - (m + 1) : Nat) : Int) + 1) = ((8 - (m + 1) : Nat) : Int) + 1 from w64_id (by omega) (by omega)]
  have hd := ref_dbl a'
  rw [gmulA] at hg
  have hs : (b >>> (8 - (m + 1))) >>> 1 = b >>> (8 - m) := by
   rw [← BitVec.shiftRight_add]
   congr 1
   omega
  rw [hs] at hg
  have hi : ((8 - (m + 1) : Nat) : Int) + 1 = ((8 - m : Nat) : Int) := by omega
  rw [hi]
  cases hc : (b >>> (8 - (m + 1))).getLsbD 0 <;> rw [hc] at hg <;> cases hd' : decide (w64 (ofG a' * 2 ^ 1) ≥ 256) <;> rw [hd'] at hd <;> simp only [cond_true,cond_false] at hd hg ⊢ <;> rw [hd]
  all_goals exact hn m _ (by omega) ⟨by omega,_,_,rfl,hg⟩
theorem and1 {x : Int} (h0 : 0 ≤ x) (h1 : x < 9223372036854775808) : (bitI .and .i64 x 1 == 1) = decide (x.toNat % 2 = 1) := by
 show (w64 ((BitVec.ofInt 64 x &&& BitVec.ofInt 64 1).toNat : Int) == 1) = _
 have h2 : (BitVec.ofInt 64 x &&& BitVec.ofInt 64 1).toNat = x.toNat % 2 := by
  rw [BitVec.toNat_and,show (BitVec.ofInt 64 1).toNat = 1 from rfl,Nat.and_one_is_mod,BitVec.toNat_ofInt]
  omega
 rw [h2,w64_id (by omega) (by omega),Bool.eq_iff_iff]
 simp
 omega
theorem f173_eq (hk : 10000 ≤ k) (a : F8) (e : Nat) (he : e < 2 ^ 62) (K : Int → Option α) : f173 k (ofG a) (e : Int) K = K (ofG (gpow a e)) := by
 simp only [f173,s173,SumT.leaf,SumT.pre,SumT.seq,SumT.cond,SumT.block,SumT.blockP,SumT.loop,zB]
 refine lp_rule (fun m x => m ≤ 62 ∧ ∃ (a' p' : F8) (e' : Nat),x = (ofG a',(e' : Int),ofG p') ∧ e' < 2 ^ m ∧ gmul p' (gpow a' e') = gpow a e) ?_ (m := 62) ⟨by omega,a,1,e,rfl,he,one_gmul _⟩ (by omega)
 rintro m x n ⟨hm,a',p',e',rfl,he',hg⟩ hn
 by_cases h0 : e' = 0
 ·subst h0
  rw [show gpow a' 0 = 1 from rfl,gmul_one] at hg
  rw [← hg]
  rfl
 ·have hp : (e' : Int) > 0 := by omega
  have hlt : e' < 2 ^ 62 := Nat.lt_of_lt_of_le he' (Nat.pow_le_pow_right (by omega) hm)
  simp only [decide_eq_true hp,cond_true]
  rw [and1 (by omega) (by omega),Int.toNat_natCast]
  simp only [f146_eq hk]
  have hf : Int.fdiv (e' : Int) (2 ^ 1) = ((e' / 2 : Nat) : Int) := by
   rw [Int.fdiv_eq_ediv_of_nonneg _ (by omega)]
   omega
  rw [hf]
  cases m with
  | zero => omega
  | succ m =>
   have h2 : e' / 2 < 2 ^ m := by
    rw [Nat.pow_succ] at he'
    omega
   by_cases ho : e' % 2 = 1
   ·simp only [ho,decide_true,cond_true]
    refine hn m _ (by omega) ⟨by omega,_,_,_,rfl,h2,?_⟩
    rw [gpow_sq,gmul_assoc,← hg]
    congr 1
    have : e' = 1 + 2 * (e' / 2) := by omega
    rw [congrArg (gpow a') this,gpow_add,gpow_one]
   ·simp only [ho,decide_false,cond_false]
    refine hn m _ (by omega) ⟨by omega,_,_,_,rfl,h2,?_⟩
    rw [gpow_sq,← hg]
    congr 2
    omega
theorem f174_eq (e : Nat) (he : e < 2 ^ 62) (K : Int → Option α) : f174 k (e : Int) K = K ((e % 255 : Nat) : Int) := by
 simp only [f174,s174,SumT.leaf,SumT.pre,SumT.seq,SumT.cond,SumT.block,SumT.blockP,SumT.loop,zB]
 congr 1
 have h1 : Int.tmod (e : Int) 255 = ((e % 255 : Nat) : Int) := by
  rw [Int.tmod_eq_emod_of_nonneg (by omega)]
  omega
 rw [h1,w64_id (by omega) (by omega),Int.tmod_eq_emod_of_nonneg (by omega)]
 omega
theorem f145_eq (hk : 10000 ≤ k) (e : Nat) (he : e < 2 ^ 62) (K : Int → Option α) : f145 k (e : Int) K = K (ofG (gpow 2 e)) := by
 simp only [f145,s145,SumT.leaf,SumT.pre,SumT.seq,SumT.cond,SumT.block,SumT.blockP,SumT.loop,zB]
 simp only [f174_eq e he]
 rw [show (2 : Int) = ofG 2 from rfl,f173_eq hk _ _ (by omega),gpow_mod two_ne]
theorem f151_eq (hk : 10000 ≤ k) (a : F8) (K : Int → Int → Option α) : f151 k (ofG a) K = if a = 0 then K 0 4 else K (ofG (ginv a)) 0 := by
 simp only [f151,s151,SumT.leaf,SumT.pre,SumT.seq,SumT.cond,SumT.block,SumT.blockP,SumT.loop,zB]
 by_cases h : a = 0
 ·subst h
  rfl
 ·have h0 : (ofG a == 0) = false := by
   simp only [beq_eq_false_iff_ne,ne_eq,ofG_eq_zero]
   exact h
  rw [if_neg h,h0]
  exact f173_eq hk a 254 (by omega) _
theorem f176_eq (hk : 10000 ≤ k) (a b : F8) (hb : b ≠ 0) (K : Int → Int → Option α) : f176 k (ofG a) (ofG b) K = K (ofG (gmul a (ginv b))) 0 := by
 simp only [f176,s176,SumT.leaf,SumT.pre,SumT.seq,SumT.cond,SumT.block,SumT.blockP,SumT.loop,zB]
 simp only [f151_eq hk,if_neg hb,f146_eq hk]
theorem f155_eq (hk : 10000 ≤ k) (a : F8) (ha : a ≠ 0) (e : Nat) (he : e < 2 ^ 62) (K : Int → Int → Option α) : f155 k (ofG a) (e : Int) K = K (ofG (gpow a e)) 0 := by
 simp only [f155,s155,SumT.leaf,SumT.pre,SumT.seq,SumT.cond,SumT.block,SumT.blockP,SumT.loop,zB]
 have h0 : (ofG a == 0) = false := by
  simp only [beq_eq_false_iff_ne,ne_eq,ofG_eq_zero]
  exact ha
 by_cases h : e = 0
 ·subst h
  rfl
 ·have h1 : ((e : Int) == 0) = false := by
   simp only [beq_eq_false_iff_ne,ne_eq]
   omega
  simp only [h0,h1,cond_false,f174_eq e he]
  rw [f173_eq hk _ _ (by omega),gpow_mod ha]
theorem f132_eq (hk : 10000 ≤ k) (a : F8) (ha : a ≠ 0) (e : Nat) (he : e < 2 ^ 62) (K : Int → Int → Option α) : f132 k (ofG a) (e : Int) K = K (ofG (gpow a e)) 0 := by
 simp only [f132,s132,SumT.leaf,SumT.pre,SumT.seq,SumT.cond,SumT.block,SumT.blockP,SumT.loop,zB]
 have h0 : (ofG a == 0) = false := by
  simp only [beq_eq_false_iff_ne,ne_eq,ofG_eq_zero]
  exact ha
 have h1 : Int.tmod (e : Int) 255 = ((e % 255 : Nat) : Int) := by
  rw [Int.tmod_eq_emod_of_nonneg (by omega)]
  omega
 simp only [h0,cond_false,h1]
 rw [decide_eq_false (by omega),cond_false]
 rw [← gpow_mod ha]
 refine lp_rule (fun m x => m < 255 ∧ ∃ (p' : F8),x = (ofG a,(m : Int),ofG p') ∧ gmul p' (gpow a m) = gpow a (e % 255)) ?_ (m := e % 255) ⟨by omega,1,rfl,one_gmul _⟩ (by omega)
 rintro m x n ⟨hm,p',rfl,hg⟩ hn
 cases m with
 | zero =>
  rw [show gpow a 0 = 1 from rfl,gmul_one] at hg
  rw [← hg]
  rfl
 | succ m =>
  have hp : ((m + 1 : Nat) : Int) > 0 := by omega
  simp only [decide_eq_true hp,cond_true,f131_eq hk]
  rw [w64_id (by omega) (by omega)]
  refine hn m _ (by omega) ⟨by omega,gmul p' a,by simp,?_⟩
  rw [← hg,gmul_assoc]
  congr 1
  rw [Nat.add_comm,gpow_add,gpow_one]
theorem f108_eq (hk : 10000 ≤ k) (e : Nat) (he : e < 2 ^ 62) (K : Int → Option α) : f108 k (e : Int) K = K (ofG (gpow 2 e)) := by
 simp only [f108,s108,SumT.leaf,SumT.pre,SumT.seq,SumT.cond,SumT.block,SumT.blockP,SumT.loop,zB]
 rw [show (2 : Int) = ofG 2 from rfl,f132_eq hk _ two_ne e he]
theorem f133_eq (hk : 10000 ≤ k) (a : F8) (ha : a ≠ 0) (K : Int → Int → Option α) : f133 k (ofG a) K = K (ofG (ginv a)) 0 := by
 simp only [f133,s133,SumT.leaf,SumT.pre,SumT.seq,SumT.cond,SumT.block,SumT.blockP,SumT.loop,zB]
 have h0 : (ofG a == 0) = false := by
  simp only [beq_eq_false_iff_ne,ne_eq,ofG_eq_zero]
  exact ha
 simp only [h0,cond_false]
 refine lp_rule (fun m x => m ≤ 254 ∧ x = (ofG a,ofG (gpow a (254 - m)),((254 - m : Nat) : Int))) ?_ (m := 254) ⟨by omega,rfl⟩ (by omega)
 rintro m x n ⟨hm,rfl⟩ hn
 cases m with
 | zero => rfl
 | succ m =>
  have hp : ((254 - (m + 1) : Nat) : Int) < 254 := by omega
  simp only [decide_eq_true hp,cond_true,f131_eq hk]
  rw [w64_id (by omega) (by omega)]
  refine hn m _ (by omega) ⟨by omega,?_⟩
  have e1 : 254 - m = (254 - (m + 1)) + 1 := by omega
  rw [e1]
  rfl
end
def run {A : Type} (f : Nat → A → A) : Nat → Nat → A → A
 | _,0,a => a
 | i,n + 1,a => run f (i + 1) n (f i a)
theorem lp_run {V A α : Type} {F : V → (V → Option α) → Option α} (st : Nat → A → V) (N : Nat) (f : Nat → A → A) (Inv : Nat → A → Prop) (ex : A → Option α)
  (h1 : ∀ i a n,i < N → Inv i a → F (st i a) n = n (st (i + 1) (f i a)) ∧ Inv (i + 1) (f i a)) (h2 : ∀ a n,Inv N a → F (st N a) n = ex a) {j : Nat} (hj : N < j) {a : A} (h0 : Inv 0 a) :
  lpF F j (st 0 a) = ex (run f 0 N a) := by
 refine lp_rule (fun m x => ∃ i a',i + m = N ∧ x = st i a' ∧ Inv i a' ∧ run f i m a' = run f 0 N a) ?_ (m := N) ⟨0,a,by omega,rfl,h0,rfl⟩ (by omega)
 rintro m x n ⟨i,a',hi,rfl,hI,hr⟩ hn
 cases m with
 | zero =>
  obtain rfl : i = N := by omega
  rw [h2 _ _ hI]
  exact congrArg ex hr
 | succ m =>
  obtain ⟨e,hI2⟩ := h1 i a' n (by omega) hI
  rw [e]
  exact hn m _ (by omega) ⟨i + 1,_,by omega,rfl,hI2,hr⟩
theorem lp_run2 {V A α : Type} {F : V → (V → Option α) → Option α} (st : Nat → A → V) (N : Nat) (f : Nat → A → A) (Inv : Nat → A → Prop) {r : Option α} {j : Nat} {a : A} (hj : N < j) (h0 : Inv 0 a)
  (h1 : ∀ i a n,i < N → Inv i a → F (st i a) n = n (st (i + 1) (f i a)) ∧ Inv (i + 1) (f i a)) (h2 : ∀ n,Inv N (run f 0 N a) → F (st N (run f 0 N a)) n = r) : lpF F j (st 0 a) = r := by
 refine lp_rule (fun m x => ∃ i a',i + m = N ∧ x = st i a' ∧ Inv i a' ∧ run f i m a' = run f 0 N a) ?_ (m := N) ⟨0,a,by omega,rfl,h0,rfl⟩ (by omega)
 rintro m x n ⟨i,a',hi,rfl,hI,hr⟩ hn
 cases m with
 | zero =>
  obtain rfl : i = N := by omega
  have hr : a' = run f 0 i a := hr
  subst hr
  exact h2 n hI
 | succ m =>
  obtain ⟨e,hI2⟩ := h1 i a' n (by omega) hI
  rw [e]
  exact hn m _ (by omega) ⟨i + 1,_,by omega,rfl,hI2,hr⟩
theorem run_inv {A : Type} {f : Nat → A → A} (Inv : Nat → A → Prop) : ∀ (n i : Nat) (a : A),Inv i a → (∀ j a,i ≤ j → j < i + n → Inv j a → Inv (j + 1) (f j a)) → Inv (i + n) (run f i n a)
 | 0,_,_,h,_ => h
 | n + 1,i,a,h,hs => by
  have := run_inv Inv n (i + 1) (f i a) (hs i a (by omega) (by omega) h) fun j a h1 h2 h3 => hs j a (by omega) (by omega) h3
  rwa [show i + 1 + n = i + (n + 1) by omega] at this
theorem run_succ {A : Type} {f : Nat → A → A} : ∀ (n i : Nat) (a : A),run f i (n + 1) a = f (i + n) (run f i n a)
 | 0,_,_ => rfl
 | n + 1,i,a => by
  show run f (i + 1) (n + 1) (f i a) = f (i + (n + 1)) (run f (i + 1) n (f i a))
  rw [run_succ n (i + 1),show i + 1 + n = i + (n + 1) by omega]
theorem run_foldl {A B : Type} {f : A → B → A} {d : B} : ∀ (l : List B) (p : List B) (a : A),run (fun i a => f a ((p ++ l).getD i d)) p.length l.length a = l.foldl f a
 | [],_,_ => rfl
 | x :: l,p,a => by
  have h := run_foldl (f := f) (d := d) l (p ++ [x]) (f a x)
  simp only [List.append_assoc,List.cons_append,List.nil_append,List.length_append,List.length_cons,List.length_nil] at h
  simp only [run,List.length_cons,List.foldl_cons]
  rw [← h]
  simp
theorem run_fold {A B : Type} {f : A → B → A} {d : B} (l : List B) (a : A) : run (fun i a => f a (l.getD i d)) 0 l.length a = l.foldl f a := run_foldl l [] a
theorem gd {α : Type} {c : Prop} [Decidable c] {a b : Option α} (h : c) : (if c then a else b) = a := if_pos h
theorem dlt {a b : Int} (h : a < b) : decide (a < b) = true := decide_eq_true h
theorem dge {a b : Int} (h : ¬ a < b) : decide (a < b) = false := decide_eq_false h
theorem dle {a b : Int} (h : a ≤ b) : decide (a ≤ b) = true := decide_eq_true h
theorem dgt {a b : Int} (h : ¬ a ≤ b) : decide (a ≤ b) = false := decide_eq_false h
def paddAt (p q : List F8) (t : F8) (at_ : Nat) : List F8 := run (fun i p => p.set (at_ + i) (p.getD (at_ + i) 0 ^^^ gmul t (q.getD i 0))) 0 q.length p
theorem paddAt_len (p q : List F8) (t : F8) (at_ : Nat) : (paddAt p q t at_).length = p.length :=
 run_inv (fun _ a => List.length a = p.length) _ _ _ rfl fun j a _ _ h => by rw [List.length_set,h]
theorem getD_set {α : Type} (l : List α) (i j : Nat) (a d : α) : (l.set i a).getD j d = if i = j ∧ i < l.length then a else l.getD j d := by
 rw [List.getD_eq_getElem?_getD,List.getD_eq_getElem?_getD,List.getElem?_set]
 by_cases h : i = j
 ·subst h
  by_cases h2 : i < l.length
  ·simp [h2]
  ·simp [h2,List.getElem?_eq_none (Nat.le_of_not_lt h2)]
 ·simp [h]
theorem paddAt_run (q : List F8) (t : F8) (at_ : Nat) : ∀ (n i : Nat) (p : List F8) (j : Nat),at_ + i + n ≤ p.length →
  (run (fun i p => p.set (at_ + i) (p.getD (at_ + i) 0 ^^^ gmul t (q.getD i 0))) i n p).getD j 0 = p.getD j 0 ^^^ (if at_ + i ≤ j ∧ j < at_ + i + n then gmul t (q.getD (j - at_) 0) else 0)
 | 0,i,p,j,_ => by
  rw [if_neg (by omega),x0]
  rfl
 | n + 1,i,p,j,h => by
  rw [run,paddAt_run q t at_ n (i + 1) _ j (by rw [List.length_set]; omega),getD_set]
  by_cases hj : at_ + i = j
  ·subst hj
   rw [if_pos ⟨rfl,by omega⟩,if_neg (by omega),if_pos (by omega),x0]
   congr 3
   omega
  ·rw [if_neg (by omega)]
   by_cases h2 : at_ + (i + 1) ≤ j ∧ j < at_ + (i + 1) + n
   ·rw [if_pos h2,if_pos (by omega)]
   ·rw [if_neg h2,if_neg (by omega)]
theorem paddAt_getD (p q : List F8) (t : F8) (at_ j : Nat) (h : at_ + q.length ≤ p.length) : (paddAt p q t at_).getD j 0 = p.getD j 0 ^^^ (if at_ ≤ j ∧ j < at_ + q.length then gmul t (q.getD (j - at_) 0) else 0) :=
 paddAt_run q t at_ q.length 0 p j (by omega)
section
variable {α : Type} {k : Nat}
theorem f182w_eq (hk : 10000 ≤ k) (p q : List F8) (t : F8) (at_ : Nat) (hq : q.length < 1000) (hp : p.length < 1000) (h : at_ + q.length ≤ p.length) (K : List Int → Option α) :
  f182w k (bs p) (bs q) (ofG t) (at_ : Int) K = K (bs (paddAt p q t at_)) := by
 simp only [f182w,s182w,SumT.leaf,SumT.pre,SumT.seq,SumT.cond,SumT.block,SumT.blockP,SumT.loop,zB]
 rw [bs_len]
 refine lp_run (fun i p' => (bs p',ofG t,(at_ : Int),bs q,(q.length : Int),(i : Int))) q.length _ (fun i p' => p'.length = p.length) (fun p' => K (bs p')) ?_ ?_ (by omega) (a := p) rfl
 ·intro i p' n hi hI
  refine ⟨?_,?_⟩
  rotate_left
  ·rw [List.length_set,hI]
  ·have h1 : w64 ((at_ : Int) + (i : Int)) = ((at_ + i : Nat) : Int) := w64_id (by omega) (by omega)
   simp (disch := omega) only [gd,w64_id,wu64_id,room,Int.toNat_natCast,bs_len,List.length_set,List.length_append,List.length_replicate,List.length_cons,List.length_nil,bs_getD,bs_set,ofG_xor,cond_true,cond_false,dlt,dge,dle,dgt,Bool.not_true,Bool.not_false,h1,f146_eq hk]
   rfl
 ·intro p' n hI
  simp (disch := omega) only [gd,w64_id,wu64_id,room,Int.toNat_natCast,bs_len,List.length_set,List.length_append,List.length_replicate,List.length_cons,List.length_nil,bs_getD,bs_set,ofG_xor,cond_true,cond_false,dlt,dge,dle,dgt,Bool.not_true,Bool.not_false]
def ptrim (l : List F8) : List F8 := (l.reverse.dropWhile (· == 0)).reverse
theorem ptrim_zero (l : List F8) : ptrim (l ++ [0]) = ptrim l := by
 unfold ptrim
 rw [List.reverse_append]
 rfl
theorem ptrim_ne (l : List F8) {x : F8} (h : x ≠ 0) : ptrim (l ++ [x]) = l ++ [x] := by
 unfold ptrim
 rw [List.reverse_append]
 have h2 : (x == 0) = false := beq_eq_false_iff_ne.2 h
 simp only [List.reverse_cons,List.reverse_nil,List.nil_append,List.singleton_append,List.dropWhile,h2,List.reverse_reverse,List.cons_append]
theorem ptrim_zeros (l : List F8) : ∀ n,ptrim (l ++ List.replicate n 0) = ptrim l
 | 0 => by simp
 | n + 1 => by rw [List.replicate_succ',← List.append_assoc,ptrim_zero,ptrim_zeros l n]
theorem snoc_cases {β : Type} (l : List β) : l = [] ∨ ∃ m x,l = m ++ [x] := by
 rcases List.eq_nil_or_concat l with h | ⟨m,x,h⟩
 ·exact .inl h
 ·exact .inr ⟨m,x,by simpa using h⟩
theorem ptrim_len (l : List F8) : (ptrim l).length ≤ l.length := by
 unfold ptrim
 rw [List.length_reverse]
 have := (List.dropWhile_sublist (fun x : F8 => x == 0) (l := l.reverse)).length_le
 simpa using this
def pvalid (p : List F8) : Bool := decide (p.length ≤ 255) && (p.length == 0 || p.getD (p.length - 1) 0 != 0)
theorem getD_last {β : Type} (m : List β) (x d : β) : (m ++ [x]).getD m.length d = x := by
 rw [List.getD_eq_getElem?_getD,List.getElem?_append_right (Nat.le_refl _)]
 simp
theorem ptrim_valid (l : List F8) (h : l.length ≤ 255) : pvalid (ptrim l) = true := by
 generalize hn : l.length = n
 induction n generalizing l with
 | zero =>
  rw [List.length_eq_zero_iff.1 hn]
  rfl
 | succ n ih =>
  rcases snoc_cases l with rfl | ⟨m,x,rfl⟩
  ·cases hn
  ·by_cases hx : x = 0
   ·subst hx
    rw [ptrim_zero]
    simp at hn h
    exact ih m (by omega) hn
   ·rw [ptrim_ne m hx]
    simp only [pvalid,List.length_append,List.length_cons,List.length_nil] at h ⊢
    rw [Nat.zero_add,Nat.add_sub_cancel,getD_last,decide_eq_true (by simpa using h)]
    have h2 : (x != 0) = true := bne_iff_ne.2 hx
    rw [h2]
    simp
theorem ptrim_idem (l : List F8) : ptrim (ptrim l) = ptrim l := by
 generalize hn : l.length = n
 induction n generalizing l with
 | zero =>
  rw [List.length_eq_zero_iff.1 hn]
  rfl
 | succ n ih =>
  rcases snoc_cases l with rfl | ⟨m,x,rfl⟩
  ·cases hn
  ·by_cases hx : x = 0
   ·subst hx
    rw [ptrim_zero]
    simp at hn
    exact ih m hn
   ·rw [ptrim_ne m hx,ptrim_ne m hx]
theorem bs_snoc (m : List F8) (x : F8) : (bs (m ++ [x])).length = m.length + 1 := by simp [bs]
theorem f197_eq (hk : 10000 ≤ k) (l : List F8) (hl : l.length < 1000) (K : List Int → Option α) : f197 k (bs l) 0 K = K (bs (ptrim l)) := by
 simp only [f197,s197,SumT.leaf,SumT.pre,SumT.seq,SumT.cond,SumT.block,SumT.blockP,SumT.loop,zB]
 refine lp_rule (fun m x => ∃ l',l'.length = m ∧ l'.length < 1000 ∧ x = (bs l',0) ∧ ptrim l' = ptrim l) ?_ (m := l.length) ⟨l,rfl,hl,rfl,rfl⟩ (by omega)
 rintro m x n ⟨l',rfl,hl',rfl,hp⟩ hn
 rcases snoc_cases l' with rfl | ⟨m,x,rfl⟩
 ·rw [← hp]
  rfl
 ·simp only [List.length_append,List.length_cons,List.length_nil] at hl'
  have h1 : decide ((((bs (m ++ [x])).length : Nat) : Int) > 0) = true := decide_eq_true (by rw [bs_len]; simp)
  have h2 : w64 ((((bs (m ++ [x])).length : Nat) : Int) - 1) = (m.length : Int) := by
   rw [bs_snoc,w64_id (by omega) (by omega)]
   omega
  simp only [h1,h2,cond_true]
  rw [bs_snoc,gd (by omega),gd (by omega),Int.toNat_natCast,bs_getD,getD_last]
  by_cases hx : x = 0
  ·subst hx
   rw [show (ofG 0 == (0 : Int)) = true from rfl,cond_true]
   refine hn m.length _ (by simp) ⟨m,rfl,by omega,?_,by rw [← hp,ptrim_zero]⟩
   rw [bs_take,List.take_left]
  ·rw [show (ofG x == (0 : Int)) = false by rw [beq_eq_false_iff_ne,ne_eq,ofG_eq_zero]; exact hx,cond_false,← hp,ptrim_ne m hx]
theorem f167_eq (hk : 10000 ≤ k) (l : List F8) (hl : l.length < 1000) (K : List Int → Option α) : f167 k (bs l) K = K (bs (ptrim l)) := by
 simp only [f167,s167,SumT.leaf,SumT.pre,SumT.seq,SumT.cond,SumT.block,SumT.blockP,SumT.loop,zB]
 simp only [f183,s183,SumT.leaf,SumT.pre,SumT.seq,SumT.cond,SumT.block,SumT.blockP,SumT.loop,zB]
 by_cases h0 : l = []
 ·subst h0
  rfl
 ·have h1 : (((bs l).length : Int) == 0) = false := by
   rw [bs_len]
   simpa using h0
  have h2 : ((⟨#[0]⟩ : ByteArray).toList == (⟨#[]⟩ : ByteArray).toList) = false := by decide +kernel
  have h3 : byteAt ⟨#[0]⟩ 0 = 0 := by decide +kernel
  rw [h1,cond_false,h2,h3]
  exact f197_eq hk l hl K
theorem f137_eq (hk : 10000 ≤ k) (l : List F8) (hl : l.length < 1000) (K : List Int → Option α) : f137 k (bs l) K = K (bs (ptrim l)) := by
 simp only [f137,s137,SumT.leaf,SumT.pre,SumT.seq,SumT.cond,SumT.block,SumT.blockP,SumT.loop,zB]
 rw [f167_eq hk l hl]
 unfold cloneF
 rw [gd]
 rw [bs_len]
 have := ptrim_len l
 unfold room
 omega
theorem f110_eq (hk : 10000 ≤ k) (l : List F8) (hl : l.length < 1000) (K : List Int → Option α) : f110 k (bs l) K = K (bs (ptrim l)) := by
 simp only [f110,s110,SumT.leaf,SumT.pre,SumT.seq,SumT.cond,SumT.block,SumT.blockP,SumT.loop,zB]
 rw [bs_len]
 refine lp_rule (fun m x => x = (bs l,(m : Int)) ∧ m ≤ l.length ∧ ptrim (l.take m) = ptrim l) ?_ (m := l.length) ⟨rfl,Nat.le_refl _,by rw [List.take_length]⟩ (by omega)
 rintro m x n ⟨rfl,hm,hp⟩ hn
 have hend : ptrim (l.take m) = l.take m → (if 0 ≤ (0 : Int) ∧ (0 : Int) ≤ (m : Int) ∧ (m : Int) ≤ ((bs l).length : Int) then (if ((bs l).take ((m : Int).toNat)).length * 1 ≤ room then (K ((bs l).take ((m : Int).toNat))) else none) else none) = K (bs (ptrim l)) := fun h => by
  rw [bs_len,gd (by omega),Int.toNat_natCast,bs_take,bs_len,gd,← h,hp]
  rw [List.length_take]
  unfold room
  omega
 cases m with
 | zero => exact hend rfl
 | succ m =>
  have hg := List.getElem?_eq_getElem (l := l) (i := m) (by omega)
  have ht : l.take (m + 1) = l.take m ++ [l.getD m 0] := by
   rw [List.take_add_one,hg,List.getD_eq_getElem?_getD,hg]
   rfl
  have h1 : decide (((m + 1 : Nat) : Int) > 0) = true := decide_eq_true (by omega)
  have h2 : w64 (((m + 1 : Nat) : Int) - 1) = (m : Int) := by
   rw [w64_id (by omega) (by omega)]
   omega
  simp only [h1,h2,cond_true]
  rw [gd (by rw [bs_len]; omega),Int.toNat_natCast,bs_getD]
  by_cases hx : l.getD m 0 = 0
  ·rw [hx,show (ofG 0 == (0 : Int)) = true from rfl,cond_true]
   refine hn m _ (by omega) ⟨rfl,by omega,?_⟩
   rw [← hp,ht,hx,ptrim_zero]
  ·rw [show (ofG (l.getD m 0) == (0 : Int)) = false by rw [beq_eq_false_iff_ne,ne_eq,ofG_eq_zero]; exact hx,cond_false]
   exact hend (by rw [ht,ptrim_ne _ hx])
theorem valid_walk (p : List F8) (hp : p.length < 1000) (K : Bool → Option α) :
  (bif decide (((bs p).length : Int) ≤ 255) then (bif ((bs p).length : Int) == 0 then (K true) else (if 0 ≤ w64 (((bs p).length : Int) - 1) ∧ w64 (((bs p).length : Int) - 1) < ((bs p).length : Int) then (K (((bs p).getD ((w64 (((bs p).length : Int) - 1)).toNat) (0 : Int)) != 0)) else none)) else (K false)) = K (pvalid p) := by
 rw [bs_len]
 by_cases h : p.length ≤ 255
 ·rw [decide_eq_true (by omega),cond_true]
  by_cases h0 : p.length = 0
  ·rw [h0]
   simp [pvalid,h0]
  ·rw [show ((p.length : Int) == 0) = false by simp; exact fun e => h0 (by rw [e]; rfl),cond_false]
   have h2 : w64 ((p.length : Int) - 1) = ((p.length - 1 : Nat) : Int) := by
    rw [w64_id (by omega) (by omega)]
    omega
   rw [h2,gd (by omega),Int.toNat_natCast,bs_getD]
   congr 1
   unfold pvalid
   rw [decide_eq_true h,show (p.length == 0) = false by simp; exact fun e => h0 (by rw [e]; rfl)]
   rw [Bool.true_and,Bool.false_or,Bool.eq_iff_iff]
   simp [ofG_eq_zero]
 ·rw [decide_eq_false (by omega),cond_false]
  unfold pvalid
  rw [decide_eq_false h]
  rfl
theorem f165_eq (p : List F8) (hp : p.length < 1000) (K : Bool → Option α) : f165 k (bs p) K = K (pvalid p) := by
 simp only [f165,s165,SumT.leaf,SumT.pre,SumT.seq,SumT.cond,SumT.block,SumT.blockP,SumT.loop,zB]
 exact valid_walk p hp K
theorem f130_eq (p : List F8) (hp : p.length < 1000) (K : Bool → Option α) : f130 k (bs p) K = K (pvalid p) := by
 simp only [f130,s130,SumT.leaf,SumT.pre,SumT.seq,SumT.cond,SumT.block,SumT.blockP,SumT.loop,zB]
 exact valid_walk p hp K
end
end Go.Proofs.YtkeiedikiiccpaaGreatDoor.Am
