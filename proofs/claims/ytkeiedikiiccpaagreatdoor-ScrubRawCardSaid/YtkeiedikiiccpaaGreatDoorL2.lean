/- The plain law: the program and the reference answer alike. -/
import Derived.Test.YtkeiedikiiccpaaGreatDoorL1
set_option linter.all false
namespace Go.Proofs.YtkeiedikiiccpaaGreatDoor.Am
open Go
def pmul (p q : List F8) : List F8 := run (fun i out => paddAt out q (p.getD i 0) i) 0 p.length (List.replicate (p.length + q.length - 1) 0)
def gen (c : Nat) : List F8 := run (fun i g => pmul g [gpow 2 i,1]) 0 c [1]
theorem gen_succ (c : Nat) : gen (c + 1) = pmul (gen c) [gpow 2 c,1] := by
 unfold gen
 rw [run_succ,Nat.zero_add]
theorem gen_ok (c : Nat) (h : c ≤ 8) : (gen c).length = c + 1 ∧ pvalid (gen c) = true ∧ (gen c).getD c 0 = 1 := by
 have : ∀ c : Fin 9,(gen c.val).length = c.val + 1 ∧ pvalid (gen c.val) = true ∧ (gen c.val).getD c.val 0 = 1 := by decide +kernel
 exact this ⟨c,by omega⟩
theorem ext_getD {β : Type} {l m : List β} (d : β) (h1 : l.length = m.length) (h2 : ∀ i,i < l.length → l.getD i d = m.getD i d) : l = m := by
 refine List.ext_getElem h1 fun i hl hm => ?_
 have := h2 i hl
 rwa [List.getD_eq_getElem?_getD,List.getD_eq_getElem?_getD,List.getElem?_eq_getElem hl,List.getElem?_eq_getElem hm] at this
theorem getD_append {β : Type} (l m : List β) (i : Nat) (d : β) : (l ++ m).getD i d = if i < l.length then l.getD i d else m.getD (i - l.length) d := by
 rw [List.getD_eq_getElem?_getD,List.getD_eq_getElem?_getD,List.getD_eq_getElem?_getD,List.getElem?_append]
 split <;> rfl
theorem getD_take {β : Type} (l : List β) (n i : Nat) (d : β) : (l.take n).getD i d = if i < n then l.getD i d else d := by
 rw [List.getD_eq_getElem?_getD,List.getD_eq_getElem?_getD,List.getElem?_take]
 split <;> rfl
theorem getD_rep {β : Type} (n i : Nat) (d : β) : (List.replicate n d).getD i d = d := by
 rw [List.getD_eq_getElem?_getD,List.getElem?_replicate]
 split <;> rfl
theorem getD_ge {β : Type} (l : List β) (i : Nat) (d : β) (h : l.length ≤ i) : l.getD i d = d := by
 rw [List.getD_eq_getElem?_getD,List.getElem?_eq_none h]
 rfl
theorem getD_reverse {β : Type} (l : List β) (i : Nat) (d : β) (h : i < l.length) : l.reverse.getD i d = l.getD (l.length - 1 - i) d := by
 rw [List.getD_eq_getElem?_getD,List.getD_eq_getElem?_getD,List.getElem?_reverse h]
theorem paddAt_append (p z q : List F8) (t : F8) (a : Nat) (h : a + q.length ≤ p.length) : paddAt (p ++ z) q t a = paddAt p q t a ++ z := by
 refine ext_getD 0 (by simp [paddAt_len]) fun i hi => ?_
 rw [paddAt_getD _ _ _ _ _ (by rw [List.length_append]; omega),getD_append,getD_append,paddAt_len,paddAt_getD _ _ _ _ _ h]
 split
 ·rfl
 ·rw [if_neg (by omega),x0]
def pstep (q R : List F8) (a : Nat) : List F8 := paddAt R q (gmul (R.getD (a + q.length - 1) 0) (ginv (q.getD (q.length - 1) 0))) a
theorem pstep_len (q R : List F8) (a : Nat) : (pstep q R a).length = R.length := paddAt_len _ _ _ _
theorem pstep_append (q p z : List F8) (a : Nat) (h0 : 0 < q.length) (h : a + q.length ≤ p.length) : pstep q (p ++ z) a = pstep q p a ++ z := by
 unfold pstep
 rw [paddAt_append _ _ _ _ _ h,getD_append,if_pos (by omega)]
theorem pstep_top (q p : List F8) (a : Nat) (h0 : 0 < q.length) (hq : q.getD (q.length - 1) 0 ≠ 0) (h : a + q.length = p.length) : pstep q p a = (pstep q p a).take (a + q.length - 1) ++ [0] := by
 refine ext_getD 0 (by simp [pstep_len]; omega) fun i hi => ?_
 rw [pstep_len] at hi
 rw [getD_append,List.length_take,pstep_len,getD_take]
 by_cases h2 : i < a + q.length - 1
 ·rw [if_pos (by omega),if_pos h2]
 ·have e : i = a + q.length - 1 := by omega
  rw [if_neg (by omega)]
  have : ([0] : List F8).getD (i - min (a + q.length - 1) p.length) 0 = 0 := by
   rw [show i - min (a + q.length - 1) p.length = 0 by omega]
   rfl
  rw [this]
  unfold pstep
  rw [paddAt_getD _ _ _ _ _ (by omega),if_pos (by omega),e,show a + q.length - 1 - a = q.length - 1 by omega,gmul_assoc,ginv_gmul hq,gmul_one,xx]
def pdiv (q : List F8) (m i : Nat) (p : List F8) : List F8 := run (fun i R => pstep q R (m - i)) 0 i p
theorem pdiv_succ (q p : List F8) (m i : Nat) : pdiv q m (i + 1) p = pstep q (pdiv q m i p) (m - i) := by
 unfold pdiv
 rw [run_succ,Nat.zero_add]
theorem pdiv_len (q p : List F8) (m i : Nat) : (pdiv q m i p).length = p.length :=
 run_inv (fun _ a => List.length a = p.length) _ _ _ rfl fun j a _ _ h => by rw [pstep_len,h]
def prem (p q : List F8) : List F8 := ptrim (if q.length ≤ p.length then pdiv q (p.length - q.length) (p.length - q.length + 1) p else p)
theorem pdiv_split (q p : List F8) (h0 : 0 < q.length) (hq : q.getD (q.length - 1) 0 ≠ 0) (hl : q.length ≤ p.length) : ∀ i,i ≤ p.length - q.length + 1 →
  ∃ P,P.length = p.length - i ∧ pdiv q (p.length - q.length) i p = P ++ List.replicate i 0
 | 0,_ => ⟨p,rfl,by simp [pdiv,run]⟩
 | i + 1,hi => by
  obtain ⟨P,h1,h2⟩ := pdiv_split q p h0 hq hl i (by omega)
  refine ⟨(pstep q P (p.length - q.length - i)).take (p.length - (i + 1)),by rw [List.length_take,pstep_len,h1]; omega,?_⟩
  have ht := pstep_top q P (p.length - q.length - i) h0 hq (by omega)
  rw [show p.length - q.length - i + q.length - 1 = p.length - (i + 1) by omega] at ht
  rw [pdiv_succ,h2,pstep_append _ _ _ _ h0 (by omega),show List.replicate (i + 1) (0 : F8) = [0] ++ List.replicate i 0 from rfl,← List.append_assoc,← ht]
theorem prem_len (p q : List F8) (h0 : 0 < q.length) (hq : q.getD (q.length - 1) 0 ≠ 0) : (prem p q).length < q.length := by
 unfold prem
 split
 ·rename_i hl
  obtain ⟨P,h1,h2⟩ := pdiv_split q p h0 hq hl _ (Nat.le_refl _)
  rw [h2,ptrim_zeros]
  have := ptrim_len P
  omega
 ·have := ptrim_len p
  omega
def enc (data : List F8) (c : Nat) : List F8 := data ++ (List.range c).map fun j => (prem (ptrim (data ++ List.replicate c 0).reverse) (gen c)).getD (c - 1 - j) 0
section
variable {α : Type} {k : Nat}
theorem f168_eq (hk : 10000 ≤ k) (p q : List F8) (hp : pvalid p = true) (hq : pvalid q = true) (h1 : 0 < p.length) (h2 : 0 < q.length) (h3 : p.length + q.length ≤ 256) (K : List Int → Int → Option α) :
  f168 k (bs p) (bs q) K = K (bs (pmul p q)) 0 := by
 simp only [f168,s168,SumT.leaf,SumT.pre,SumT.seq,SumT.cond,SumT.block,SumT.blockP,SumT.loop,zB]
 rw [f165_eq p (by omega),hp]
 simp only [Bool.not_true,cond_false]
 rw [f165_eq q (by omega),hq]
 have e1 : ((p.length : Int) == 0) = false := by rw [beq_eq_false_iff_ne]; omega
 have e2 : ((q.length : Int) == 0) = false := by rw [beq_eq_false_iff_ne]; omega
 have e3 : w64 (w64 ((p.length : Int) + (q.length : Int)) - 1) = ((p.length + q.length - 1 : Nat) : Int) := by
  rw [show w64 ((p.length : Int) + (q.length : Int)) = (p.length : Int) + (q.length : Int) from w64_id (by omega) (by omega),w64_id (by omega) (by omega)]
  omega
 simp only [bs_len,e1,e2,e3,Bool.not_true,cond_false]
 rw [decide_eq_false (by omega),cond_false,gd (by unfold room; omega),Int.toNat_natCast,bs_rep]
 refine lp_run (fun i out => (bs q,bs out,bs p,(p.length : Int),(i : Int))) p.length _ (fun i out => out.length = p.length + q.length - 1) (fun out => K (bs out) 0) ?_ ?_ (by omega) (a := List.replicate (p.length + q.length - 1) 0) List.length_replicate
 ·intro i out n hi hI
  refine ⟨?_,by rw [paddAt_len,hI]⟩
  simp (disch := omega) only [gd,w64_id,wu64_id,room,Int.toNat_natCast,bs_len,List.length_set,List.length_append,List.length_replicate,List.length_cons,List.length_nil,bs_getD,bs_set,ofG_xor,cond_true,cond_false,dlt,dge,dle,dgt,Bool.not_true,Bool.not_false]
  rw [f182w_eq hk _ _ _ _ (by omega) (by omega) (by omega)]
  rfl
 ·intro out n hI
  simp (disch := omega) only [gd,w64_id,wu64_id,room,Int.toNat_natCast,bs_len,List.length_set,List.length_append,List.length_replicate,List.length_cons,List.length_nil,bs_getD,bs_set,ofG_xor,cond_true,cond_false,dlt,dge,dle,dgt,Bool.not_true,Bool.not_false]
theorem f107_eq (hk : 10000 ≤ k) (p q : List F8) (hp : pvalid p = true) (hq : pvalid q = true) (h1 : 0 < p.length) (h2 : 0 < q.length) (h3 : p.length + q.length ≤ 256) (K : List Int → Int → Option α) :
  f107 k (bs p) (bs q) K = K (bs (pmul p q)) 0 := by
 simp only [f107,s107,SumT.leaf,SumT.pre,SumT.seq,SumT.cond,SumT.block,SumT.blockP,SumT.loop,zB]
 rw [f130_eq p (by omega),hp]
 simp only [Bool.not_true,cond_false]
 rw [f130_eq q (by omega),hq]
 have e1 : ((p.length : Int) == 0) = false := by rw [beq_eq_false_iff_ne]; omega
 have e2 : ((q.length : Int) == 0) = false := by rw [beq_eq_false_iff_ne]; omega
 have e3 : w64 ((p.length : Int) + (q.length : Int)) = (p.length : Int) + (q.length : Int) := w64_id (by omega) (by omega)
 have e4 : w64 ((p.length : Int) + (q.length : Int) - 1) = ((p.length + q.length - 1 : Nat) : Int) := by
  rw [w64_id (by omega) (by omega)]
  omega
 have e5 : w64 ((p.length : Int) + (q.length : Int) - 2) = (p.length : Int) + (q.length : Int) - 2 := w64_id (by omega) (by omega)
 simp only [bs_len,e1,e2,e3,e4,e5,Bool.not_true,cond_false]
 rw [decide_eq_false (by omega),cond_false,gd (by unfold room; omega),Int.toNat_natCast,bs_rep]
 refine lp_run (fun i out => (bs p,bs q,bs out,(i : Int))) p.length _ (fun i out => out.length = p.length + q.length - 1) (fun out => K (bs out) 0) ?_ ?_ (by omega) (a := List.replicate (p.length + q.length - 1) 0) List.length_replicate
 ·intro i out n hi hI
  refine ⟨?_,by rw [paddAt_len,hI]⟩
  simp (disch := omega) only [gd,w64_id,wu64_id,room,Int.toNat_natCast,bs_len,List.length_set,List.length_append,List.length_replicate,List.length_cons,List.length_nil,bs_getD,bs_set,ofG_xor,cond_true,cond_false,dlt,dge,dle,dgt,Bool.not_true,Bool.not_false]
  refine (lp_run (fun j out => (bs p,bs q,bs out,(i : Int),(j : Int))) q.length (fun j p' => p'.set (i + j) (p'.getD (i + j) 0 ^^^ gmul (p.getD i 0) (q.getD j 0))) (fun j out => out.length = p.length + q.length - 1) (fun out => n (bs p,bs q,bs out,(i : Int) + 1)) ?_ ?_ (by omega) (a := out) hI).trans ?_
  ·intro j p' n' hj hI'
   refine ⟨?_,by rw [List.length_set,hI']⟩
   have e6 : w64 ((i : Int) + (j : Int)) = ((i + j : Nat) : Int) := w64_id (by omega) (by omega)
   simp (disch := omega) only [gd,w64_id,wu64_id,room,Int.toNat_natCast,bs_len,List.length_set,List.length_append,List.length_replicate,List.length_cons,List.length_nil,bs_getD,bs_set,ofG_xor,cond_true,cond_false,dlt,dge,dle,dgt,Bool.not_true,Bool.not_false,e6,f131_eq hk]
   rfl
  ·intro p' n' hI'
   simp (disch := omega) only [gd,w64_id,wu64_id,room,Int.toNat_natCast,bs_len,List.length_set,List.length_append,List.length_replicate,List.length_cons,List.length_nil,bs_getD,bs_set,ofG_xor,cond_true,cond_false,dlt,dge,dle,dgt,Bool.not_true,Bool.not_false]
  ·rfl
 ·intro out n hI
  simp (disch := omega) only [gd,w64_id,wu64_id,room,Int.toNat_natCast,bs_len,List.length_set,List.length_append,List.length_replicate,List.length_cons,List.length_nil,bs_getD,bs_set,ofG_xor,cond_true,cond_false,dlt,dge,dle,dgt,Bool.not_true,Bool.not_false]
theorem f138_eq (hk : 10000 ≤ k) (c : Nat) (hc : c ≤ 8) (K : List Int → Option α) : f138 k (c : Int) K = K (bs (gen c)) := by
 simp only [f138,s138,SumT.leaf,SumT.pre,SumT.seq,SumT.cond,SumT.block,SumT.blockP,SumT.loop,zB]
 refine lp_run (fun i g => (bs g,(c : Int),(i : Int))) c _ (fun i g => g = gen i) (fun g => K (bs g)) ?_ ?_ (by omega) (a := [1]) rfl
 ·rintro i g n hi rfl
  obtain ⟨g1,g2,g3⟩ := gen_ok i (by omega)
  refine ⟨?_,(gen_succ i).symm⟩
  simp (disch := omega) only [gd,w64_id,wu64_id,room,Int.toNat_natCast,bs_len,List.length_set,List.length_append,List.length_replicate,List.length_cons,List.length_nil,bs_getD,bs_set,ofG_xor,cond_true,cond_false,dlt,dge,dle,dgt,Bool.not_true,Bool.not_false,f145_eq hk]
  rw [show ([ofG (gpow 2 i),1] : List Int) = bs [gpow 2 i,1] from rfl,f168_eq hk (gen i) [gpow 2 i,1] g2 rfl (by omega) (by simp) (by rw [g1]; simp; omega)]
  rfl
 ·rintro g n rfl
  simp (disch := omega) only [gd,w64_id,wu64_id,room,Int.toNat_natCast,bs_len,List.length_set,List.length_append,List.length_replicate,List.length_cons,List.length_nil,bs_getD,bs_set,ofG_xor,cond_true,cond_false,dlt,dge,dle,dgt,Bool.not_true,Bool.not_false]
theorem f166_eq (hk : 10000 ≤ k) (p q : List F8) (hp : p.length < 1000) (h0 : 0 < q.length) (hq : q.getD (q.length - 1) 0 ≠ 0) (hp2 : ptrim p = p) (hql : q.length < 1000) (K : List Int → Option α) :
  f166 k (bs p) (bs q) (fun _ r => K r) = K (bs (prem p q)) := by
 simp only [f166,s166,SumT.leaf,SumT.pre,SumT.seq,SumT.cond,SumT.block,SumT.blockP,SumT.loop,zB]
 unfold cloneF
 rw [bs_len,gd (by unfold room; omega)]
 simp only [bs_len]
 by_cases hl : p.length < q.length
 ·rw [decide_eq_true (by omega),cond_true]
  unfold prem
  rw [if_neg (by omega),hp2]
 ·have e1 : w64 ((q.length : Int) - 1) = ((q.length - 1 : Nat) : Int) := by
   rw [w64_id (by omega) (by omega)]
   omega
  have e2 : w64 ((p.length : Int) - (q.length : Int)) = ((p.length - q.length : Nat) : Int) := by
   rw [w64_id (by omega) (by omega)]
   omega
  have e3 : w64 (((p.length - q.length : Nat) : Int) + 1) = ((p.length - q.length + 1 : Nat) : Int) := w64_id (by omega) (by omega)
  rw [decide_eq_false (by omega),cond_false,e1,e2,e3,gd (by omega),Int.toNat_natCast,bs_getD,f151_eq hk,if_neg hq,gd (by unfold room; omega),Int.toNat_natCast]
  unfold prem
  rw [if_pos (by omega)]
  refine lp_rule (fun m x => ∃ i P out,i + m = p.length - q.length + 1 ∧ x = (bs q,bs P,ofG (ginv (q.getD (q.length - 1) 0)),out,(m : Int) - 1) ∧ List.length out = p.length - q.length + 1 ∧ P.length = p.length - i ∧
   pdiv q (p.length - q.length) i p = P ++ List.replicate i 0) ?_ (m := p.length - q.length + 1) ⟨0,p,List.replicate (p.length - q.length + 1) 0,by omega,?_,List.length_replicate,rfl,by simp [pdiv,run]⟩ (by omega)
  ·rintro m x n ⟨i,P,out,hi,rfl,ho,hP,hR⟩ hn
   cases m with
   | zero =>
    simp only [f167_eq hk P (by omega)]
    rw [show i = p.length - q.length + 1 by omega] at hR
    rw [hR,ptrim_zeros]
    rfl
   | succ m =>
    have hm : ((m + 1 : Nat) : Int) - 1 = (m : Int) := by omega
    have e4 : w64 ((m : Int) + (q.length : Int)) = (m : Int) + (q.length : Int) := w64_id (by omega) (by omega)
    have e5 : w64 ((m : Int) + (q.length : Int) - 1) = ((m + q.length - 1 : Nat) : Int) := by
     rw [w64_id (by omega) (by omega)]
     omega
    have e6 : ∀ x : Int,(out.set m x).getD m 0 = x := fun x => by rw [getD_set,if_pos ⟨rfl,by omega⟩]
    simp (disch := omega) only [gd,w64_id,wu64_id,room,Int.toNat_natCast,bs_len,List.length_set,List.length_append,List.length_replicate,List.length_cons,List.length_nil,bs_getD,bs_set,ofG_xor,cond_true,cond_false,dlt,dge,dle,dgt,Bool.not_true,Bool.not_false,hm,e4,e5,f146_eq hk]
    rw [e6,f182w_eq hk _ _ _ _ (by omega) (by omega) (by omega),bs_len,paddAt_len,gd (by omega)]
    refine hn m _ (by omega) ⟨i + 1,(pstep q P m).take (m + q.length - 1),out.set m (ofG (gmul (P.getD (m + q.length - 1) 0) (ginv (q.getD (q.length - 1) 0)))),by omega,?_,by rw [List.length_set,ho],by rw [List.length_take,pstep_len]; omega,?_⟩
    ·rw [bs_take]
     rfl
    ·rw [pdiv_succ,hR,show p.length - q.length - i = m by omega,pstep_append _ _ _ _ h0 (by omega),show List.replicate (i + 1) (0 : F8) = [0] ++ List.replicate i 0 from rfl,← List.append_assoc,← pstep_top q P _ h0 hq (by omega)]
  ·congr 4
   omega
theorem f136_eq (hk : 10000 ≤ k) (p q : List F8) (hp : p.length < 1000) (h0 : 0 < q.length) (hp1 : pvalid p = true) (hq1 : pvalid q = true) (hp2 : ptrim p = p) (hql : q.length < 1000) (K : List Int → Int → Option α) :
  f136 k (bs p) (bs q) (fun _ r e => K r e) = K (bs (prem p q)) 0 := by
 simp only [f136,s136,SumT.leaf,SumT.pre,SumT.seq,SumT.cond,SumT.block,SumT.blockP,SumT.loop,zB]
 have hq : q.getD (q.length - 1) 0 ≠ 0 := by
  unfold pvalid at hq1
  simp only [Bool.and_eq_true,Bool.or_eq_true,beq_iff_eq,bne_iff_ne] at hq1
  exact hq1.2.resolve_left (by omega)
 rw [f165_eq p hp,hp1]
 simp only [Bool.not_true,cond_false]
 rw [f165_eq q hql,hq1,bs_len,show ((q.length : Int) == 0) = false by rw [beq_eq_false_iff_ne]; omega]
 simp only [Bool.not_true,cond_false]
 exact f166_eq hk p q hp h0 hq hp2 hql _
theorem f109_eq (hk : 10000 ≤ k) (p q : List F8) (hp : p.length < 1000) (h0 : 0 < q.length) (hp1 : pvalid p = true) (hq1 : pvalid q = true) (hql : q.length < 1000) (K : List Int → Int → Option α) :
  f109 k (bs p) (bs q) (fun _ r e => K r e) = K (bs (prem p q)) 0 := by
 simp only [f109,s109,SumT.leaf,SumT.pre,SumT.seq,SumT.cond,SumT.block,SumT.blockP,SumT.loop,zB]
 have hq : q.getD (q.length - 1) 0 ≠ 0 := by
  unfold pvalid at hq1
  simp only [Bool.and_eq_true,Bool.or_eq_true,beq_iff_eq,bne_iff_ne] at hq1
  exact hq1.2.resolve_left (by omega)
 rw [f130_eq p hp,hp1]
 simp only [Bool.not_true,cond_false]
 rw [f130_eq q hql,hq1,bs_len,show ((q.length : Int) == 0) = false by rw [beq_eq_false_iff_ne]; omega]
 simp only [Bool.not_true,cond_false]
 have e1 : w64 ((q.length : Int) - 1) = ((q.length - 1 : Nat) : Int) := by
  rw [w64_id (by omega) (by omega)]
  omega
 simp only [bs_len,e1,Int.toNat_natCast,bs_getD]
 rw [gd (by unfold room; omega)]
 by_cases hl : p.length < q.length
 ·rw [decide_eq_false (by omega),cond_false,gd (by omega),f133_eq hk _ hq]
  have e2 : w64 ((p.length : Int) - (q.length : Int)) = (p.length : Int) - (q.length : Int) := w64_id (by omega) (by omega)
  rw [e2]
  unfold prem
  rw [if_neg (by omega)]
  obtain ⟨k',rfl⟩ : ∃ k',k = k' + 1 := ⟨k - 1,by omega⟩
  rw [lpF]
  simp only []
  rw [decide_eq_false (by omega),cond_false]
  rw [show ([] : List Int) = bs [] from rfl,f110_eq hk [] (by simp),f110_eq hk p hp]
 ·have e2 : w64 ((p.length : Int) - (q.length : Int)) = ((p.length - q.length : Nat) : Int) := by
   rw [w64_id (by omega) (by omega)]
   omega
  have e3 : w64 (((p.length - q.length : Nat) : Int) + 1) = ((p.length - q.length + 1 : Nat) : Int) := w64_id (by omega) (by omega)
  rw [decide_eq_true (by omega),cond_true,e2,e3,gd (by unfold room; omega),gd (by omega),f133_eq hk _ hq,Int.toNat_natCast]
  unfold prem
  rw [if_pos (by omega)]
  refine lp_rule (fun m x => ∃ (i : Nat) (out : List F8),i + m = p.length - q.length + 1 ∧ x = (bs q,bs (pdiv q (p.length - q.length) i p),bs out,ofG (ginv (q.getD (q.length - 1) 0)),(m : Int) - 1) ∧ List.length out = p.length - q.length + 1)
   ?_ (m := p.length - q.length + 1) ⟨0,List.replicate (p.length - q.length + 1) 0,by omega,?_,List.length_replicate⟩ (by omega)
  ·rintro m x n ⟨i,out,hi,rfl,ho⟩ hn
   cases m with
   | zero =>
    rw [show i = p.length - q.length + 1 by omega]
    simp only [f110_eq hk out (by omega),f110_eq hk (pdiv q (p.length - q.length) (p.length - q.length + 1) p) (by rw [pdiv_len]; omega)]
    rfl
   | succ m =>
    have hm : ((m + 1 : Nat) : Int) - 1 = (m : Int) := by omega
    have e4 : w64 ((m : Int) + (q.length : Int)) = (m : Int) + (q.length : Int) := w64_id (by omega) (by omega)
    have e5 : w64 ((m : Int) + (q.length : Int) - 1) = ((m + q.length - 1 : Nat) : Int) := by
     rw [w64_id (by omega) (by omega)]
     omega
    have hR := pdiv_len q p (p.length - q.length) i
    simp (disch := omega) only [gd,w64_id,wu64_id,room,Int.toNat_natCast,bs_len,List.length_set,List.length_append,List.length_replicate,List.length_cons,List.length_nil,bs_getD,bs_set,ofG_xor,cond_true,cond_false,dlt,dge,dle,dgt,Bool.not_true,Bool.not_false,hm,e4,e5,f131_eq hk]
    generalize hRR : pdiv q (p.length - q.length) i p = R at hR
    refine (lp_run (fun j R' => (bs q,bs R',bs (out.set m (gmul (R.getD (m + q.length - 1) 0) (ginv (q.getD (q.length - 1) 0)))),ofG (ginv (q.getD (q.length - 1) 0)),(m : Int),ofG (gmul (R.getD (m + q.length - 1) 0) (ginv (q.getD (q.length - 1) 0))),(j : Int)))
     q.length (fun j p' => p'.set (m + j) (p'.getD (m + j) 0 ^^^ gmul (gmul (R.getD (m + q.length - 1) 0) (ginv (q.getD (q.length - 1) 0))) (q.getD j 0))) (fun j R' => R'.length = p.length)
     (fun R' => n (bs q,bs R',bs (out.set m (gmul (R.getD (m + q.length - 1) 0) (ginv (q.getD (q.length - 1) 0)))),ofG (ginv (q.getD (q.length - 1) 0)),(m : Int) - 1)) ?_ ?_ (by omega) (a := R) hR).trans ?_
    ·intro j p' n' hj hI'
     refine ⟨?_,by rw [List.length_set,hI']⟩
     have e6 : w64 ((m : Int) + (j : Int)) = ((m + j : Nat) : Int) := w64_id (by omega) (by omega)
     simp (disch := omega) only [gd,w64_id,wu64_id,room,Int.toNat_natCast,bs_len,List.length_set,List.length_append,List.length_replicate,List.length_cons,List.length_nil,bs_getD,bs_set,ofG_xor,cond_true,cond_false,dlt,dge,dle,dgt,Bool.not_true,Bool.not_false,e6,f131_eq hk]
     rfl
    ·intro p' n' hI'
     simp (disch := omega) only [gd,w64_id,wu64_id,room,Int.toNat_natCast,bs_len,List.length_set,List.length_append,List.length_replicate,List.length_cons,List.length_nil,bs_getD,bs_set,ofG_xor,cond_true,cond_false,dlt,dge,dle,dgt,Bool.not_true,Bool.not_false]
    ·refine hn m _ (by omega) ⟨i + 1,out.set m (gmul (R.getD (m + q.length - 1) 0) (ginv (q.getD (q.length - 1) 0))),by omega,?_,by rw [List.length_set,ho]⟩
     rw [pdiv_succ,hRR,show p.length - q.length - i = m by omega]
     rfl
  ·congr 3
   ·exact bs_rep _
   ·congr 1
    omega
end
def vcode (c : DT5) : Bool := bif c.1 == 1 then (c.2.1 == 8 && (c.2.2.1 == 1 && c.2.2.2 == 1)) else (c.1 == 2 && (decide (1 ≤ c.2.1) && (decide (c.2.1 ≤ 32) && (decide (1 ≤ c.2.2.1) && (decide (c.2.2.1 ≤ 8) && (decide (0 ≤ c.2.2.2) && decide (c.2.2.2 ≤ Int.tdiv c.2.2.1 2)))))))
theorem vcode_sym {c : DT5} (h : vcode c = true) (h2 : c.1 = 2) : ∃ d ch f : Nat,c = (2,(d : Int),(ch : Int),(f : Int)) ∧ 1 ≤ d ∧ d ≤ 32 ∧ 1 ≤ ch ∧ ch ≤ 8 ∧ f ≤ ch / 2 := by
 obtain ⟨kd,da,ch,f⟩ := c
 simp only at h2
 subst h2
 simp [vcode] at h
 obtain ⟨h1,h2,h3,h4,h5,h6⟩ := h
 rw [Int.tdiv_eq_ediv_of_nonneg (by omega)] at h6
 refine ⟨da.toNat,ch.toNat,f.toNat,?_,by omega,by omega,by omega,by omega,by omega⟩
 rw [Int.toNat_of_nonneg (by omega),Int.toNat_of_nonneg (by omega),Int.toNat_of_nonneg (by omega)]
theorem vcode_bit {c : DT5} (h : vcode c = true) (h2 : c.1 ≠ 2) : c = (1,8,1,1) := by
 obtain ⟨kd,da,ch,f⟩ := c
 simp only [vcode] at h h2
 by_cases h1 : kd = 1
 ·subst h1
  simp only [beq_self_eq_true,cond_true,Bool.and_eq_true,beq_iff_eq] at h
  obtain ⟨rfl,rfl,rfl⟩ := h
  rfl
 ·rw [beq_eq_false_iff_ne.2 h1,beq_eq_false_iff_ne.2 h2] at h
  cases h
section
variable {α : Type} {k : Nat}
theorem f65_eq (c : DT5) (K : Bool → Option α) : f65 k c K = K (vcode c) := by
 simp only [f65,s65,SumT.leaf,SumT.pre,SumT.seq,SumT.cond,SumT.block,SumT.blockP,SumT.loop,zB]
 unfold vcode
 cases c.1 == 1
 ·cases c.1 == 2
  ·rfl
  ·simp only [cond_false,cond_true,Bool.true_and,ge_iff_le]
   by_cases h : 1 ≤ c.2.2.1 ∧ c.2.2.1 ≤ 8
   ·rw [show w64 (Int.tdiv c.2.2.1 2) = Int.tdiv c.2.2.1 2 by rw [Int.tdiv_eq_ediv_of_nonneg (by omega)]; exact w64_id (by omega) (by omega)]
    cases decide (1 ≤ c.2.1) <;> cases decide (c.2.1 ≤ 32) <;> cases decide (1 ≤ c.2.2.1) <;> cases decide (c.2.2.1 ≤ 8) <;> cases decide (0 ≤ c.2.2.2) <;> rfl
   ·by_cases h1 : 1 ≤ c.2.2.1
    ·rw [decide_eq_false (show ¬ c.2.2.1 ≤ 8 by omega)]
     cases decide (1 ≤ c.2.1) <;> cases decide (c.2.1 ≤ 32) <;> cases decide (1 ≤ c.2.2.1) <;> rfl
    ·rw [decide_eq_false h1]
     cases decide (1 ≤ c.2.1) <;> cases decide (c.2.1 ≤ 32) <;> rfl
 ·simp only [cond_true]
  cases c.2.1 == 8 <;> cases c.2.2.1 == 1 <;> rfl
theorem f78_eq (c : DT5) (K : Bool → Option α) : f78 k c K = K (vcode c) := by
 have h := f65_eq (k := k) c K
 simp only [f65,s65,SumT.leaf,SumT.pre,SumT.seq,SumT.cond,SumT.block,SumT.blockP,SumT.loop,zB] at h
 simp only [f78,s78,SumT.leaf,SumT.pre,SumT.seq,SumT.cond,SumT.block,SumT.blockP,SumT.loop,zB]
 exact h
theorem f122_eq (c : DT5) (K : Bool → Option α) : f122 k c K = K (vcode c && c.1 == 2) := by
 simp only [f122,s122,SumT.leaf,SumT.pre,SumT.seq,SumT.cond,SumT.block,SumT.blockP,SumT.loop,zB]
 rw [f65_eq]
 cases vcode c <;> rfl
theorem f106_eq (c : DT5) (K : Bool → Option α) : f106 k c K = K (vcode c && c.1 == 2) := by
 simp only [f106,s106,SumT.leaf,SumT.pre,SumT.seq,SumT.cond,SumT.block,SumT.blockP,SumT.loop,zB]
 rw [f78_eq]
 cases vcode c <;> cases c.1 == 2 <;> rfl
theorem f135w_eq (hk : 10000 ≤ k) (l : List F8) (hl : l.length < 1000) (K : List Int → Option α) : f135w k (bs l) K = K (bs l.reverse) := by
 simp only [f135w,s135w,SumT.leaf,SumT.pre,SumT.seq,SumT.cond,SumT.block,SumT.blockP,SumT.loop,zB]
 rw [bs_len]
 refine lp_rule (fun m x => ∃ (i : Nat) (s : List F8),i + m = l.length ∧ x = (bs s,(i : Int),(l.length : Int) - 1 - i) ∧ s.length = l.length ∧ i ≤ l.length - i + 1 ∧
  (∀ j,j < l.length → s.getD j 0 = if j < i ∨ l.length - i ≤ j then l.getD (l.length - 1 - j) 0 else l.getD j 0)) ?_ (m := l.length) ⟨0,l,by omega,?_,rfl,by omega,fun j hj => by rw [if_neg (by omega)]⟩ (by omega)
 ·rintro m x n ⟨i,s,hi,rfl,hs,hi2,hg⟩ hn
  by_cases h : (i : Int) < (l.length : Int) - 1 - i
  ·have e1 : (l.length : Int) - 1 - i = ((l.length - 1 - i : Nat) : Int) := by omega
   rw [e1] at h ⊢
   simp (disch := omega) only [gd,w64_id,wu64_id,room,Int.toNat_natCast,bs_len,List.length_set,List.length_append,List.length_replicate,List.length_cons,List.length_nil,bs_getD,bs_set,ofG_xor,cond_true,cond_false,dlt,dge,dle,dgt,Bool.not_true,Bool.not_false]
   refine hn (m - 1) _ (by omega) ⟨i + 1,(s.set i (s.getD (l.length - 1 - i) 0)).set (l.length - 1 - i) (s.getD i 0),by omega,?_,?_,by omega,?_⟩
   ·congr 2
    omega
   ·rw [List.length_set,List.length_set,hs]
   ·intro j hj
    rw [getD_set,getD_set,List.length_set]
    by_cases h1 : l.length - 1 - i = j
    ·rw [if_pos ⟨h1,by omega⟩,if_pos (by omega),hg i (by omega),if_neg (by omega)]
     congr 1
     omega
    ·rw [if_neg (by omega)]
     by_cases h2 : i = j
     ·rw [if_pos ⟨h2,by omega⟩,if_pos (by omega),hg _ (by omega),if_neg (by omega),h2]
     ·rw [if_neg (by omega),hg j hj]
      by_cases h3 : j < i ∨ l.length - i ≤ j
      ·rw [if_pos h3,if_pos (by omega)]
      ·rw [if_neg h3,if_neg (by omega)]
  ·simp (disch := omega) only [gd,w64_id,wu64_id,room,Int.toNat_natCast,bs_len,List.length_set,List.length_append,List.length_replicate,List.length_cons,List.length_nil,bs_getD,bs_set,ofG_xor,cond_true,cond_false,dlt,dge,dle,dgt,Bool.not_true,Bool.not_false]
   congr 1
   congr 1
   refine ext_getD 0 (by rw [hs,List.length_reverse]) fun j hj => ?_
   rw [hs] at hj
   rw [getD_reverse _ _ _ hj,hg j hj]
   split
   ·rfl
   ·congr 1
    omega
 ·rw [w64_id (by omega) (by omega)]
  congr 2
  omega
theorem enc_set (w r : List F8) : ∀ (m i : Nat),i + m ≤ w.length → ∀ j,(run (fun i w' => w'.set (w.length - 1 - i) (r.getD i 0)) i m w).getD j 0 = if i ≤ w.length - 1 - j ∧ w.length - 1 - j < i + m ∧ j < w.length then r.getD (w.length - 1 - j) 0 else w.getD j 0 := by
 intro m i hm j
 have key : ∀ (m i : Nat) (v : List F8),v.length = w.length → i + m ≤ w.length → (run (fun i w' => w'.set (w.length - 1 - i) (r.getD i 0)) i m v).getD j 0 = if i ≤ w.length - 1 - j ∧ w.length - 1 - j < i + m ∧ j < w.length then r.getD (w.length - 1 - j) 0 else v.getD j 0 := by
  intro m
  induction m with
  | zero =>
   intro i v hv h
   rw [if_neg (by omega)]
   rfl
  | succ m ih =>
   intro i v hv h
   rw [run,ih (i + 1) _ (by rw [List.length_set,hv]) (by omega),getD_set]
   by_cases h1 : w.length - 1 - i = j
   ·rw [if_neg (by omega),if_pos ⟨h1,by omega⟩,if_pos (by omega)]
    congr 1
    omega
   ·rw [if_neg (c := w.length - 1 - i = j ∧ w.length - 1 - i < v.length) (by omega)]
    by_cases h2 : i + 1 ≤ w.length - 1 - j ∧ w.length - 1 - j < i + 1 + m ∧ j < w.length
    ·rw [if_pos h2,if_pos (by omega)]
    ·rw [if_neg h2,if_neg (by omega)]
 exact key m i w rfl hm
theorem enc_of_set (w : List F8) (c : Nat) (r : List F8) (hr : r.length ≤ c) : run (fun i (w' : List F8) => w'.set ((w ++ List.replicate c 0).length - 1 - i) (r.getD i 0)) 0 r.length (w ++ List.replicate c 0) = w ++ (List.range c).map fun j => r.getD (c - 1 - j) 0 := by
 have hlen : (run (fun i (w' : List F8) => w'.set ((w ++ List.replicate c 0).length - 1 - i) (r.getD i 0)) 0 r.length (w ++ List.replicate c 0)).length = w.length + c :=
  run_inv (fun _ a => List.length a = w.length + c) _ _ _ (by simp) fun j a _ _ h => by rw [List.length_set,h]
 refine ext_getD 0 (by rw [hlen]; simp) fun j hj => ?_
 rw [hlen] at hj
 rw [enc_set _ _ _ _ (by simp; omega),getD_append,getD_append]
 rw [List.length_append,List.length_replicate]
 by_cases h1 : j < w.length
 ·rw [if_neg (by omega),if_pos h1,if_pos h1]
 ·rw [if_neg h1,if_neg h1,getD_rep]
  have e2 : ((List.range c).map fun j => r.getD (c - 1 - j) 0).getD (j - w.length) 0 = r.getD (w.length + c - 1 - j) 0 := by
   rw [List.getD_eq_getElem?_getD,List.getElem?_map,List.getElem?_range (by omega)]
   show r.getD (c - 1 - (j - w.length)) 0 = _
   congr 1
   omega
  rw [e2]
  split
  ·rfl
  ·rw [getD_ge _ _ _ (by omega)]
theorem f113_eq (hk : 10000 ≤ k) (d c f : Nat) (h1 : 1 ≤ d) (h2 : d ≤ 32) (h3 : 1 ≤ c) (h4 : c ≤ 8) (h5 : f ≤ c / 2) (w : List F8) (hw : w.length = d) (K : List Int → Int → Option α) :
  f113 k (2,(d : Int),(c : Int),(f : Int)) (bs w) K = K (bs (enc w c)) 0 := by
 have hv : vcode (2,(d : Int),(c : Int),(f : Int)) = true := by
  simp only [vcode]
  rw [Int.tdiv_eq_ediv_of_nonneg (by omega),decide_eq_true (by omega),decide_eq_true (by omega),decide_eq_true (by omega),decide_eq_true (by omega),decide_eq_true (by omega),decide_eq_true (by omega)]
  rfl
 simp only [f113,s113,SumT.leaf,SumT.pre,SumT.seq,SumT.cond,SumT.block,SumT.blockP,SumT.loop,zB]
 rw [f122_eq,hv]
 unfold cloneF
 simp only [bs_rep,Int.toNat_natCast,bs_append,bs_len,List.length_append,List.length_replicate,hw]
 rw [show (true && ((2 : Int) == 2)) = true from rfl,Bool.not_true,cond_false,bne_self_eq_false,cond_false]
 rw [gd (by unfold room; omega),gd (by unfold room; omega),gd (by unfold room; omega),gd (by unfold room; omega),f135w_eq hk _ (by simp; omega),f137_eq hk _ (by simp; omega),f138_eq hk _ h4]
 obtain ⟨g1,g2,g3⟩ := gen_ok c h4
 have hp := ptrim_len (w ++ List.replicate c 0).reverse
 simp only [List.length_reverse,List.length_append,List.length_replicate] at hp
 have hv2 := ptrim_valid (w ++ List.replicate c 0).reverse (by simp; omega)
 have hi2 := ptrim_idem (w ++ List.replicate c 0).reverse
 have hg3 : (gen c).getD ((gen c).length - 1) 0 ≠ 0 := by
  rw [g1,Nat.add_sub_cancel,g3]
  decide
 have hr := prem_len (ptrim (w ++ List.replicate c 0).reverse) (gen c) (by omega) hg3
 unfold enc
 generalize gen c = g at g1 g2 g3 hg3 hr ⊢
 generalize ptrim (w ++ List.replicate c 0).reverse = p at hp hv2 hi2 hr ⊢
 refine (f136_eq hk p g (by omega) (by omega) hv2 g2 hi2 (by omega) _).trans ?_
 generalize prem p g = r at hr ⊢
 rw [← enc_of_set w c r (by omega),bs_len]
 refine lp_run (fun i v => (bs v,bs r,(r.length : Int),(i : Int))) r.length _ (fun i v => v.length = d + c) (fun v => K (bs v) 0) ?_ ?_ (by omega) (a := w ++ List.replicate c 0) (by simp [hw])
 ·intro i v n hi hI
  refine ⟨?_,by rw [List.length_set,hI]⟩
  have e2 : w64 ((v.length : Int) - 1) = (v.length : Int) - 1 := w64_id (by omega) (by omega)
  have e3 : w64 ((v.length : Int) - 1 - (i : Int)) = (((w ++ List.replicate c 0).length - 1 - i : Nat) : Int) := by
   rw [w64_id (by omega) (by omega)]
   simp [hw]
   omega
  have e4 : (w ++ List.replicate c 0).length = d + c := by simp [hw]
  simp (disch := omega) only [bs_len,e2,e3]
  rw [e4]
  simp (disch := omega) only [gd,w64_id,wu64_id,room,Int.toNat_natCast,bs_len,List.length_set,List.length_append,List.length_replicate,List.length_cons,List.length_nil,bs_getD,bs_set,ofG_xor,cond_true,cond_false,dlt,dge,dle,dgt,Bool.not_true,Bool.not_false]
  rfl
 ·intro v n hI
  simp (disch := omega) only [gd,w64_id,wu64_id,room,Int.toNat_natCast,bs_len,List.length_set,List.length_append,List.length_replicate,List.length_cons,List.length_nil,bs_getD,bs_set,ofG_xor,cond_true,cond_false,dlt,dge,dle,dgt,Bool.not_true,Bool.not_false]
theorem run_snoc {β : Type} (g : Nat → β) (a : List β) : ∀ n,run (fun j out => out ++ [g j]) 0 n a = a ++ (List.range n).map g
 | 0 => by simp [run]
 | n + 1 => by rw [run_succ,run_snoc g a n,List.range_succ,List.map_append,Nat.zero_add,List.append_assoc]; rfl
theorem rev_set (w : List F8) (c : Nat) : run (fun i (p : List F8) => p.set (w.length + c - 1 - i) (w.getD i 0)) 0 w.length (List.replicate (w.length + c) 0) = (w ++ List.replicate c 0).reverse := by
 have hlen : (run (fun i (p : List F8) => p.set (w.length + c - 1 - i) (w.getD i 0)) 0 w.length (List.replicate (w.length + c) 0)).length = w.length + c :=
  run_inv (fun _ a => List.length a = w.length + c) _ _ _ (by simp) fun j a _ _ h => by rw [List.length_set,h]
 refine ext_getD 0 (by rw [hlen]; simp [Nat.add_comm]) fun j hj => ?_
 rw [hlen] at hj
 have h1 := enc_set (List.replicate (w.length + c) 0) w w.length 0 (by simp) j
 rw [List.length_replicate] at h1
 rw [h1,getD_reverse _ _ _ (by simp; omega),getD_append,List.length_append,List.length_replicate,getD_rep,getD_rep]
 by_cases h2 : w.length + c - 1 - j < w.length
 ·rw [if_pos (by omega),if_pos h2]
 ·rw [if_neg (by omega),if_neg h2]
theorem f89_eq (hk : 10000 ≤ k) (d c f : Nat) (h1 : 1 ≤ d) (h2 : d ≤ 32) (h3 : 1 ≤ c) (h4 : c ≤ 8) (h5 : f ≤ c / 2) (w : List F8) (hw : w.length = d) (K : List Int → Int → Option α) :
  f89 k (2,(d : Int),(c : Int),(f : Int)) (bs w) K = K (bs (enc w c)) 0 := by
 have hv : vcode (2,(d : Int),(c : Int),(f : Int)) = true := by
  simp only [vcode]
  rw [Int.tdiv_eq_ediv_of_nonneg (by omega),decide_eq_true (by omega),decide_eq_true (by omega),decide_eq_true (by omega),decide_eq_true (by omega),decide_eq_true (by omega),decide_eq_true (by omega)]
  rfl
 simp only [f89,s89,SumT.leaf,SumT.pre,SumT.seq,SumT.cond,SumT.block,SumT.blockP,SumT.loop,zB]
 rw [f106_eq,hv]
 simp only [bs_len,hw]
 rw [show (true && ((2 : Int) == 2)) = true from rfl,Bool.not_true,cond_false,bne_self_eq_false,cond_false]
 refine lp_run2 (fun i g => (bs w,((2 : Int),(d : Int),(c : Int),(f : Int)),bs g,(i : Int))) c (fun i g => pmul g [gpow 2 i,1]) (fun i g => g = gen i) (by omega) (a := [1]) rfl ?_ ?_
 ·rintro i g n hi rfl
  obtain ⟨g1,g2,g3⟩ := gen_ok i (by omega)
  refine ⟨?_,(gen_succ i).symm⟩
  simp only []
  rw [dlt (by omega),cond_true]
  simp (disch := omega) only [gd,w64_id,wu64_id,room,Int.toNat_natCast,bs_len,List.length_set,List.length_append,List.length_replicate,List.length_cons,List.length_nil,bs_getD,bs_set,ofG_xor,cond_true,cond_false,dlt,dge,dle,dgt,Bool.not_true,Bool.not_false,f108_eq hk]
  rw [show ([ofG (gpow 2 i),1] : List Int) = bs [gpow 2 i,1] from rfl,f107_eq hk (gen i) [gpow 2 i,1] g2 rfl (by omega) (by simp) (by rw [g1]; simp; omega)]
  rfl
 ·intro n _
  rw [show run (fun i g => pmul g [gpow 2 i,1]) 0 c [1] = gen c from rfl]
  simp only []
  rw [dge (by omega),cond_false]
  have e1 : w64 ((d : Int) + (c : Int)) = ((d + c : Nat) : Int) := w64_id (by omega) (by omega)
  simp only [e1,Int.toNat_natCast]
  rw [gd (by unfold room; omega),bs_rep]
  obtain ⟨g1,g2,g3⟩ := gen_ok c h4
  have hp := ptrim_len (w ++ List.replicate c 0).reverse
  simp only [List.length_reverse,List.length_append,List.length_replicate] at hp
  have hv2 := ptrim_valid (w ++ List.replicate c 0).reverse (by simp; omega)
  have hi2 := ptrim_idem (w ++ List.replicate c 0).reverse
  have hg3 : (gen c).getD ((gen c).length - 1) 0 ≠ 0 := by
   rw [g1,Nat.add_sub_cancel,g3]
   decide
  have hr := prem_len (ptrim (w ++ List.replicate c 0).reverse) (gen c) (by omega) hg3
  unfold enc
  generalize gen c = g at g1 g2 g3 hg3 hr ⊢
  refine lp_run2 (fun i p => (bs w,((2 : Int),(d : Int),(c : Int),(f : Int)),bs g,((d + c : Nat) : Int),bs p,(i : Int))) d (fun i (p : List F8) => p.set (w.length + c - 1 - i) (w.getD i 0)) (fun i p => p.length = d + c) (by omega) (a := List.replicate (d + c) 0) (by simp) ?_ ?_
  ·intro i p n hi hI
   refine ⟨?_,by rw [List.length_set,hI]⟩
   have e2 : w64 (((d + c : Nat) : Int) - 1) = ((d + c - 1 : Nat) : Int) := by
    rw [w64_id (by omega) (by omega)]
    omega
   have e3 : w64 (((d + c - 1 : Nat) : Int) - (i : Int)) = ((d + c - 1 - i : Nat) : Int) := by
    rw [w64_id (by omega) (by omega)]
    omega
   simp only []
   rw [dlt (by omega),cond_true]
   simp (disch := omega) only [gd,w64_id,wu64_id,room,Int.toNat_natCast,bs_len,List.length_set,List.length_append,List.length_replicate,List.length_cons,List.length_nil,bs_getD,bs_set,ofG_xor,cond_true,cond_false,dlt,dge,dle,dgt,Bool.not_true,Bool.not_false,e2,e3,hw]
   rfl
  ·intro n _
   simp only []
   rw [dge (by omega),cond_false]
   have e4 := rev_set w c
   rw [hw] at e4 ⊢
   rw [e4,f110_eq hk _ (by simp; omega)]
   generalize ptrim (w ++ List.replicate c 0).reverse = p at hp hv2 hi2 hr ⊢
   refine (f109_eq hk p g (by omega) (by omega) hv2 g2 (by omega) _).trans ?_
   generalize prem p g = r at hr ⊢
   rw [gd (by rw [bs_len]; unfold room; omega),← run_snoc (fun j => r.getD (c - 1 - j) 0)]
   refine lp_run (fun i out => (((d + c : Nat) : Int),bs r,bs out,((d + i : Nat) : Int))) c (fun j out => out ++ [r.getD (c - 1 - j) 0]) (fun i out => out.length = d + i) (fun out => K (bs out) 0) ?_ ?_ (by omega) (a := w) hw
   ·intro i out n hi hI
    refine ⟨?_,by rw [List.length_append,hI]; rfl⟩
    have e2 : w64 (((d + c : Nat) : Int) - 1) = ((d + c - 1 : Nat) : Int) := by
     rw [w64_id (by omega) (by omega)]
     omega
    have e3 : w64 (((d + c - 1 : Nat) : Int) - ((d + i : Nat) : Int)) = ((c - 1 - i : Nat) : Int) := by
     rw [w64_id (by omega) (by omega)]
     omega
    simp only [e2,e3,bs_len,List.length_cons,List.length_nil,Int.toNat_natCast]
    rw [dlt (by omega),cond_true,w64_id (by omega) (by omega)]
    by_cases h6 : c - 1 - i < r.length
    ·rw [dlt (by omega),cond_true,gd (by omega),gd (by unfold room; omega),bs_getD]
     rw [show bs out ++ [ofG (r.getD (c - 1 - i) 0)] = bs (out ++ [r.getD (c - 1 - i) 0]) from bs_append out [r.getD (c - 1 - i) 0]]
     rfl
    ·rw [dge (by omega),cond_false,gd (by unfold room; omega),getD_ge r _ _ (by omega)]
     rw [show bs out ++ [(0 : Int)] = bs (out ++ [0]) from bs_append out [0]]
     rfl
   ·intro out n hI
    simp (disch := omega) only [gd,w64_id,wu64_id,room,Int.toNat_natCast,bs_len,List.length_set,List.length_append,List.length_replicate,List.length_cons,List.length_nil,bs_getD,bs_set,ofG_xor,cond_true,cond_false,dlt,dge,dle,dgt,Bool.not_true,Bool.not_false]
end
end Go.Proofs.YtkeiedikiiccpaaGreatDoor.Am
