/- A part of the proof of ScrubMade: lemmas. No conditions beyond those of each lemma. -/
import Derived.Test.YtkeiedikiiccpaaGreatDoorK14
set_option linter.all false
namespace Go.Proofs.YtkeiedikiiccpaaGreatDoor.Am
open Go
theorem swap_perm {l:List Int} {i j:Nat} (hi:i<l.length) (hj:j<l.length):((l.set i (l.getD j 0)).set j (l.getD i 0)).Perm l:=by
 have h:= @List.set_set_perm Int l i j hi hj
 rwa[show l[j]=l.getD j 0 by rw[List.getD_eq_getElem?_getD,List.getElem?_eq_getElem hj];rfl,show l[i]=l.getD i 0 by rw[List.getD_eq_getElem?_getD,List.getElem?_eq_getElem hi];rfl]at h
def nsort (l:List Nat):List Nat:=l.mergeSort fun a b=>decide (a≤b)
theorem nsort_perm (l:List Nat):(nsort l).Perm l:=List.mergeSort_perm _ _
theorem nsort_sorted (l:List Nat):(nsort l).Pairwise (· ≤ ·):=by
 have:=List.pairwise_mergeSort (le:=fun a b:Nat=>decide (a≤b)) (fun a b c h1 h2=>by simp at*;omega) (fun a b=>by simp;omega) l
 exact this.imp fun h=>by simpa using h
theorem zs_sorted {l:List Nat} (h:l.Pairwise (· ≤ ·)):(zs l).Pairwise (· ≤ ·):=by
 unfold zs
 rw[List.pairwise_map]
 exact h.imp fun h=>by omega
section
variable {α:Type} {k:Nat}
theorem f192_eq (x y:Int) (K:Bool→Option α):f192 k x y K=K (decide (x<y)):=by
 simp only[f192,s192,SumT.leaf,SumT.pre,SumT.seq,SumT.cond,SumT.block,SumT.blockP,SumT.loop,zB]
 simp only[f169,s169,SumT.leaf,SumT.pre,SumT.seq,SumT.cond,SumT.block,SumT.blockP,SumT.loop,zB]
 cases hx:(x !=x)
 ·rfl
 ·simp at hx
theorem f186w_eq (hk:10000≤k) (l:List Nat) (hl:l.length<1000) (K:List Int→Option α):f186w k (zs l) 0 (l.length:Int) K=K (zs (nsort l)):=by
 simp only[f186w,s186w,SumT.leaf,SumT.pre,SumT.seq,SumT.cond,SumT.block,SumT.blockP,SumT.loop,zB]
 have hz:(zs l).length=l.length:=zs_len l
 by_cases h0:l.length=0
 ·obtain⟨k',rfl⟩: ∃k',k=k'+1:=⟨k-1,by omega⟩
  rw[lpF]
  simp only[]
  rw[w64_id (by omega) (by omega),dge (by omega),cond_false,List.length_eq_zero_iff.1 h0,show nsort []=[] by simp[nsort]]
 rw[show w64 ((0:Int)+1)=1 from w64_id (by omega) (by omega)]
 refine lp_rule (fun m x=> ∃(i:Nat) (d:List Int),1≤i∧i+m=l.length∧x=(d,(0:Int),(l.length:Int),(i:Int))∧d.Perm (zs l)∧(∀p q,p<q→q<i→d.getD p 0≤d.getD q 0)) ?_ (m:=l.length-1) ⟨1,zs l,Nat.le_refl _,by omega,rfl,List.Perm.refl _,fun p q h1 h2=>by omega⟩ (by omega)
 rintro m x n ⟨i,d,hi1,hi,rfl,hp,hs⟩ hn
 have hdl:d.length=l.length:=by rw[hp.length_eq,hz]
 cases m with
 | zero=>
  simp only[]
  rw[dge (by omega),cond_false]
  congr 1
  refine List.Perm.eq_of_pairwise (le:=(· ≤ ·)) (fun a b _ _ h1 h2=>Int.le_antisymm h1 h2) ?_ (zs_sorted (nsort_sorted l)) (hp.trans ?_)
  ·rw[List.pairwise_iff_getElem]
   intro p q h1 h2 hpq
   have:=hs p q hpq (by omega)
   rwa[List.getD_eq_getElem?_getD,List.getD_eq_getElem?_getD,List.getElem?_eq_getElem h1,List.getElem?_eq_getElem h2]at this
  ·exact((nsort_perm l).map fun p:Nat=>(p:Int)).symm
 | succ m=>
  simp only[]
  rw[dlt (by omega),cond_true]
  refine lp_rule (fun t x=> ∃(d':List Int),t≤i∧x=(d',(0:Int),(l.length:Int),(i:Int),(t:Int))∧d'.Perm (zs l)∧(∀p q,p<q→q≤i→p≠t→q≠t→d'.getD p 0≤d'.getD q 0)∧(∀q,t<q→q≤i→d'.getD t 0≤d'.getD q 0))
   ?_ (m:=i) ⟨d,Nat.le_refl _,rfl,hp,fun p q h1 h2 h3 h4=>hs p q h1 (by omega),fun q h1 h2=>by omega⟩ (by omega)
  rintro t x n2 ⟨d',ht,rfl,hp',hs1,hs2⟩ hn2
  have hdl':d'.length=l.length:=by rw[hp'.length_eq,hz]
  have hend:(∀p,p<t→d'.getD p 0≤d'.getD t 0)→n (d',(0:Int),(l.length:Int),w64 ((i:Int)+1))=K (zs (nsort l)):=fun h=>by
   rw[w64_id (by omega) (by omega)]
   refine hn m _ (by omega) ⟨i+1,d',by omega,by omega,rfl,hp',fun p q h1 h2=>?_⟩
   by_cases hpt:p=t
   ·subst hpt
    exact hs2 q h1 (by omega)
   ·by_cases hqt:q=t
    ·subst hqt
     exact h p h1
    ·exact hs1 p q h1 (by omega) hpt hqt
  cases t with
  | zero=>
   simp only[]
   rw[decide_eq_false (by omega),cond_false]
   exact hend fun p hp=>by omega
  | succ t=>
   have e1:w64 (((t+1:Nat):Int)-1)=(t:Int):=by
    rw[w64_id (by omega) (by omega)]
    omega
   simp only[e1]
   rw[decide_eq_true (by omega),cond_true,gd (by omega),gd (by omega),f192_eq,Int.toNat_natCast,Int.toNat_natCast]
   by_cases hlt:d'.getD (t+1) 0<d'.getD t 0
   ·rw[decide_eq_true hlt,cond_true,gd (by omega),gd (by omega),gd (by omega),List.length_set,gd (by omega)]
    have hg: ∀q,((d'.set (t+1) (d'.getD t 0)).set t (d'.getD (t+1) 0)).getD q 0=if q=t then d'.getD (t+1) 0 else if q=t+1 then d'.getD t 0 else d'.getD q 0:=fun q=>by
     rw[getD_set,getD_set,List.length_set]
     by_cases h1:t=q
     ·rw[if_pos ⟨h1,by omega⟩,if_pos h1.symm]
     ·rw[if_neg (by omega),if_neg (c:=q=t) (by omega)]
      by_cases h2:t+1=q
      ·rw[if_pos ⟨h2,by omega⟩,if_pos h2.symm]
      ·rw[if_neg (by omega),if_neg (by omega)]
    refine hn2 t _ (by omega) ⟨_,by omega,rfl,(swap_perm (by omega) (by omega)).trans hp',fun p q h1 h2 h3 h4=>?_,fun q h1 h2=>?_⟩
    ·rw[hg,hg,if_neg h3,if_neg h4]
     by_cases hpt:p=t+1
     ·rw[if_pos hpt,if_neg (by omega)]
      exact hs1 t q (by omega) h2 (by omega) (by omega)
     ·rw[if_neg hpt]
      by_cases hqt:q=t+1
      ·rw[if_pos hqt]
       exact hs1 p t (by omega) (by omega) (by omega) (by omega)
      ·rw[if_neg hqt]
       exact hs1 p q h1 h2 hpt hqt
    ·rw[hg,hg,if_pos rfl,if_neg (by omega)]
     by_cases hqt:q=t+1
     ·rw[if_pos hqt]
      omega
     ·rw[if_neg hqt]
      exact hs2 q (by omega) h2
   ·rw[decide_eq_false hlt,cond_false]
    refine hend fun p hp=>?_
    by_cases hpt:p=t
    ·subst hpt
     omega
    ·have:=hs1 p t (by omega) (by omega) (by omega) (by omega)
     omega
theorem f180_some (n:Nat) (hn:n≤12): ∃r, ∀(K:Int→Option α),f180 k (wu64 ((n:Nat):Int)) K=K r:=by
 have h1:wu64 (n:Int)=(n:Int):=wu64_id (by omega) (by omega)
 rw[h1]
 have:n=0∨n=1∨n=2∨n=3∨n=4∨n=5∨n=6∨n=7∨n=8∨n=9∨n=10∨n=11∨n=12:=by omega
 rcases this with rfl|rfl|rfl|rfl|rfl|rfl|rfl|rfl|rfl|rfl|rfl|rfl|rfl
 ·exact⟨0,fun K=>by kernel_rfl⟩
 ·exact⟨1,fun K=>by kernel_rfl⟩
 ·exact⟨2,fun K=>by kernel_rfl⟩
 ·exact⟨2,fun K=>by kernel_rfl⟩
 ·exact⟨3,fun K=>by kernel_rfl⟩
 ·exact⟨3,fun K=>by kernel_rfl⟩
 ·exact⟨3,fun K=>by kernel_rfl⟩
 ·exact⟨3,fun K=>by kernel_rfl⟩
 ·exact⟨4,fun K=>by kernel_rfl⟩
 ·exact⟨4,fun K=>by kernel_rfl⟩
 ·exact⟨4,fun K=>by kernel_rfl⟩
 ·exact⟨4,fun K=>by kernel_rfl⟩
 ·exact⟨4,fun K=>by kernel_rfl⟩
theorem f154w_eq (hk:10000≤k) (l:List Nat) (hl:l.length≤12) (K:List Int→Option α):f154w k (zs l) K=K (zs (nsort l)):=by
 simp only[f154w,s154w,SumT.leaf,SumT.pre,SumT.seq,SumT.cond,SumT.block,SumT.blockP,SumT.loop,zB]
 rw[zs_len]
 obtain⟨r,hr⟩:=f180_some (α:=α) (k:=k) l.length hl
 rw[hr]
 simp only[f179w,s179w,SumT.leaf,SumT.pre,SumT.seq,SumT.cond,SumT.block,SumT.blockP,SumT.loop,zB]
 obtain⟨k',rfl⟩: ∃k',k=k'+1:=⟨k-1,by omega⟩
 rw[lpF]
 simp only[]
 rw[w64_id (by omega) (by omega),dle (by omega),cond_true,f186w_eq hk l (by omega)]
theorem f178_eq (hk:10000≤k) (l:List Nat) (p:Nat) (hl:l.length<1000) (K:Bool→Option α):f178 k (zs l) (p:Int) (fun t=>K (decide (t≥0)))=K (l.contains p):=by
 simp only[f178,s178,SumT.leaf,SumT.pre,SumT.seq,SumT.cond,SumT.block,SumT.blockP,SumT.loop,zB]
 rw[zs_len]
 refine lp_rule (fun m x=> ∃i:Nat,i+m=l.length∧x=(zs l,(p:Int),(l.length:Int),(i:Int))∧(l.drop i).contains p=l.contains p) ?_ (m:=l.length) ⟨0,by omega,rfl,rfl⟩ (by omega)
 rintro m x n ⟨i,hi,rfl,hc⟩ hn
 rw[←hc]
 cases m with
 | zero=>
  simp only[]
  rw[dge (by omega),cond_false,List.drop_eq_nil_of_le (by omega)]
  rfl
 | succ m=>
  have hi':i<l.length:=by omega
  simp only[]
  rw[dlt (by omega),cond_true,zs_len,gd (by omega),Int.toNat_natCast,zs_getD,List.drop_eq_getElem_cons hi',List.contains_cons,show l.getD i 0=l[i] by rw[List.getD_eq_getElem?_getD,List.getElem?_eq_getElem hi'];rfl]
  by_cases he:p=l[i]
  ·rw[←he,show((p:Int)==(p:Int))=true by simp,cond_true,show(p==p)=true by simp,Bool.true_or,decide_eq_true (by omega)]
  ·rw[show((p:Int)==(l[i]:Int))=false from beq_eq_false_iff_ne.2 (by omega),cond_false,show(p==l[i])=false from beq_eq_false_iff_ne.2 he,Bool.false_or,w64_id (by omega) (by omega)]
   have hc2:(l.drop (i+1)).contains p=l.contains p:=by rw[←hc,List.drop_eq_getElem_cons hi',List.contains_cons,show(p==l[i])=false from beq_eq_false_iff_ne.2 he,Bool.false_or]
   rw[hc2]
   exact hn m _ (by omega) ⟨i+1,by omega,rfl,hc2⟩
theorem f153_eq (hk:10000≤k) (l:List Nat) (p:Nat) (hl:l.length<1000) (K:Bool→Option α):f153 k (zs l) (p:Int) K=K (l.contains p):=by
 simp only[f153,s153,SumT.leaf,SumT.pre,SumT.seq,SumT.cond,SumT.block,SumT.blockP,SumT.loop,zB]
 exact f178_eq hk l p hl K
def clean (s:List F8):Bool:=s.all (· ==0)
theorem f125_eq (hk:10000≤k) (s:List F8) (hs:s.length<1000) (K:Bool→Option α):f125 k (bs s) K=K (clean s):=by
 simp only[f125,s125,SumT.leaf,SumT.pre,SumT.seq,SumT.cond,SumT.block,SumT.blockP,SumT.loop,zB]
 simp only[f91_147,s91_147,SumT.leaf,SumT.pre,SumT.seq,SumT.cond,SumT.block,SumT.blockP,SumT.loop,zB]
 simp only[f112_147,s112_147,SumT.leaf,SumT.pre,SumT.seq,SumT.cond,SumT.block,SumT.blockP,SumT.loop,zB]
 rw[bs_len]
 refine lp_rule (fun m x=> ∃i:Nat,i+m=s.length∧x=(bs s,(s.length:Int),(i:Int))∧clean (s.drop i)=clean s) ?_ (m:=s.length) ⟨0,by omega,rfl,rfl⟩ (by omega)
 rintro m x n ⟨i,hi,rfl,hc⟩ hn
 cases m with
 | zero=>
  simp only[]
  rw[←hc,dge (by omega),cond_false,List.drop_eq_nil_of_le (by omega)]
  rfl
 | succ m=>
  have hi':i<s.length:=by omega
  have hd:s.drop i=s.getD i 0::s.drop (i+1):=by
   rw[List.drop_eq_getElem_cons hi',List.getD_eq_getElem?_getD,List.getElem?_eq_getElem hi']
   rfl
  simp only[]
  rw[dlt (by omega),cond_true,bs_len,gd (by omega),Int.toNat_natCast,bs_getD]
  simp only[f147,s147,SumT.leaf,SumT.pre,SumT.seq,SumT.cond,SumT.block,SumT.blockP,SumT.loop,zB]
  by_cases he:s.getD i 0=0
  ·rw[he,show(ofG 0 !=(0:Int))=false from rfl,cond_false,w64_id (by omega) (by omega)]
   refine hn m _ (by omega) ⟨i+1,by omega,rfl,?_⟩
   rw[←hc,hd,he]
   rfl
  ·rw[bne_iff_ne.2 (fun h=>he (ofG_eq_zero.1 h)),cond_true, ←hc,hd,decide_eq_true (by omega)]
   unfold clean
   rw[List.all_cons,show(s.getD i 0==0)=false from beq_eq_false_iff_ne.2 he]
   rfl
def syn1 (w:List F8) (j:Nat):F8:=run (fun i v=>gmul v (gpow 2 j)^^^w.getD i 0) 0 w.length 0
def syn (w:List F8) (c:Nat):List F8:=(List.range c).map (syn1 w)
theorem syn_len (w:List F8) (c:Nat):(syn w c).length=c:=by simp[syn]
theorem f124_eq (hk:10000≤k) (w:List F8) (c:Nat) (hw:w.length<1000) (hc:c<1000) (K:List Int→Option α):f124 k (bs w) (c:Int) K=K (bs (syn w c)):=by
 simp only[f124,s124,SumT.leaf,SumT.pre,SumT.seq,SumT.cond,SumT.block,SumT.blockP,SumT.loop,zB]
 rw[gd (by unfold room;omega),Int.toNat_natCast,bs_rep,bs_len,List.length_replicate]
 refine lp_run2 (fun i out=>(bs w,bs out,(c:Int),(i:Int))) c (fun i out=>out.set i (syn1 w i)) (fun i out=>out.length=c∧ ∀j,i≤j→out.getD j 0=0) (by omega) (a:=List.replicate c 0) ⟨List.length_replicate,fun j _=>getD_rep _ _ _⟩ ?_ ?_
 ·rintro i out n hi ⟨hl,he⟩
  refine⟨?_,by rw[List.length_set,hl],fun j hj=>by rw[getD_set,if_neg (by omega),he j (by omega)]⟩
  simp only[]
  rw[dlt (by omega),cond_true,f145_eq hk i (by omega),bs_len]
  rw[show(bs w,bs out,(i:Int),ofG (gpow 2 i),(c:Int),(i:Int),bs w,(w.length:Int),(0:Int))=(bs w,bs (out.set i 0),(i:Int),ofG (gpow 2 i),(c:Int),(i:Int),bs w,(w.length:Int),((0:Nat):Int)) by rw[set_same (he i (Nat.le_refl _)) (by omega)];rfl]
  refine lp_run2 (fun j v=>(bs w,bs (out.set i v),(i:Int),ofG (gpow 2 i),(c:Int),(i:Int),bs w,(w.length:Int),(j:Int))) w.length (fun j v=>gmul v (gpow 2 i)^^^w.getD j 0) (fun _ _=>True) (by omega) (a:=0) trivial ?_ ?_
  ·intro j v n2 hj _
   refine⟨?_,trivial⟩
   have eg:(out.set i v).getD i 0=v:=by rw[getD_set,if_pos ⟨rfl,by omega⟩]
   simp (disch:=omega) only[gd,w64_id,wu64_id,room,Int.toNat_natCast,bs_len,List.length_set,List.length_append,List.length_replicate,List.length_cons,List.length_nil,bs_getD,bs_set,ofG_xor,cond_true,cond_false,dlt,dge,dle,dgt,Bool.not_true,Bool.not_false,eg,hl,f146_eq hk,List.set_set]
   rfl
  ·intro n2 _
   simp only[]
   rw[dge (by omega),cond_false,w64_id (by omega) (by omega)]
   rfl
 ·intro n _
  simp only[]
  rw[dge (by omega),cond_false,run_setall (syn1 w) 0 c _ List.length_replicate]
  rfl
theorem f160_eq (hk:10000≤k) (d c f:Nat) (h1:1≤d) (h2:d≤32) (h3:1≤c) (h4:c≤8) (hv:vcode (2,(d:Int),(c:Int),(f:Int))=true) (w:List F8) (hw:w.length=d+c) (K:List Int→Int→Option α):
  f160 k (2,(d:Int),(c:Int),(f:Int)) (bs w) K=K (bs (syn w c)) 0:=by
 simp only[f160,s160,SumT.leaf,SumT.pre,SumT.seq,SumT.cond,SumT.block,SumT.blockP,SumT.loop,zB]
 have e1:w64 ((d:Int)+(c:Int))=((d+c:Nat):Int):=w64_id (by omega) (by omega)
 rw[f106_eq,hv,bs_len,hw,e1,show(true&&((2:Int)==2))=true from rfl,Bool.not_true,cond_false,bne_self_eq_false,cond_false]
 refine lp_run2 (fun i out=>(bs w,((2:Int),(d:Int),(c:Int),(f:Int)),bs out,(i:Int))) c (fun i out=>out++[syn1 w i]) (fun i out=>out.length=i) (by omega) (a:=[]) rfl ?_ ?_
 ·intro i out n hi hI
  refine⟨?_,by rw[List.length_append,hI];rfl⟩
  simp only[]
  rw[dlt (by omega),cond_true,f108_eq hk i (by omega)]
  refine lp_run2 (fun j v=>(bs w,((2:Int),(d:Int),(c:Int),(f:Int)),bs out,(i:Int),ofG (gpow 2 i),ofG v,(j:Int))) w.length (fun j v=>gmul v (gpow 2 i)^^^w.getD j 0) (fun _ _=>True) (by omega) (a:=0) trivial ?_ ?_
  ·intro j v n2 hj _
   refine⟨?_,trivial⟩
   simp (disch:=omega) only[gd,w64_id,wu64_id,room,Int.toNat_natCast,bs_len,List.length_set,List.length_append,List.length_replicate,List.length_cons,List.length_nil,bs_getD,bs_set,ofG_xor,cond_true,cond_false,dlt,dge,dle,dgt,Bool.not_true,Bool.not_false,f131_eq hk]
   rfl
  ·intro n2 _
   simp only[]
   rw[bs_len,dge (by omega),cond_false,bs_len,hI,gd (by simp;unfold room;omega),bs_snoc2,w64_id (by omega) (by omega)]
   rfl
 ·intro n _
  simp only[]
  rw[dge (by omega),cond_false,run_snoc]
  rfl
end
abbrev PX (n p:Nat):F8:=gpow 2 (n-1-p)
theorem PX_ne (n p:Nat):PX n p≠0:=gpow_ne two_ne _
theorem PX_inj {n p q:Nat} (hn:n≤64) (hp:p<n) (hq:q<n) (h:PX n p=PX n q):p=q:=by
 have:=pow2_inj (by omega) (by omega) h
 omega
theorem PX_nodup {n:Nat} (hn:n≤64) {P:List Nat} (hP:P.Nodup) (hl: ∀p∈P,p<n):(P.map (PX n)).Nodup:=by
 rw[List.Nodup,List.pairwise_map]
 exact(List.Pairwise.and_mem.1 hP).imp fun⟨h1,h2,h3⟩ e=>h3 (PX_inj hn (hl _ h1) (hl _ h2) e)
def usub (s:List F8) (x:F8):List F8:=(List.range (s.length-1)).map fun k=>s.getD (k+1) 0^^^gmul x (s.getD k 0)
def U (n:Nat) (s:List F8) (E:List Nat):List F8:=E.foldl (fun s p=>usub s (PX n p)) s
theorem U_len (n:Nat): ∀(E:List Nat) (s:List F8),(U n s E).length=s.length-E.length
 | [],_=>rfl
 | p::E,s=>by
  show(U n (usub s (PX n p)) E).length=_
  rw[U_len n E,usub,List.length_map,List.length_range,List.length_cons]
  omega
theorem U_zero (n:Nat): ∀(E:List Nat) (s:List F8),(∀j,at0 s j=0)→ ∀j,at0 (U n s E) j=0
 | [],_,h,j=>h j
 | p::E,s,h,j=>U_zero n E (usub s (PX n p)) (fun j=>by
  show(usub s (PX n p)).getD j 0=0
  unfold usub
  by_cases hj:j<s.length-1
  ·rw[map_range_getD _ _ _ _ hj,show s.getD (j+1) 0=0 from h _,show s.getD j 0=0 from h _,gmul_zero,xx]
  ·rw[getD_ge _ _ _ (by simp;omega)]) j
def rts (n v:Nat) (l:Nat→F8):List Nat:=(List.range n).filter fun p=>gsum v (fun k=>gmul (l k) (gpow (PX n p) k))==gpow (PX n p) v
theorem rts_congr {n v:Nat} {l l':Nat→F8} (h: ∀k,k<v→l k=l' k):rts n v l=rts n v l':=by
 unfold rts
 congr 1
 funext p
 rw[gsum_congr fun k hk=>by rw[h k hk]]
theorem rts_nodup (n v:Nat) (l:Nat→F8):(rts n v l).Nodup:=List.Pairwise.filter _ List.nodup_range
theorem rts_lt {n v p:Nat} {l:Nat→F8} (h:p∈rts n v l):p<n:=by
 unfold rts at h
 simp at h
 exact h.1
theorem rts_le {n v:Nat} (hn:n≤64) (l:Nat→F8):(rts n v l).length≤v:=by
 have h:=roots_le v ((List.range v).map l++[1]) ((rts n v l).map (PX n)) (by simp) (by simp) (PX_nodup hn (rts_nodup n v l) fun p hp=>rts_lt hp) fun x hx=>by
  obtain⟨p,hp,rfl⟩:=List.mem_map.1 hx
  unfold rts at hp
  rw[List.mem_filter,beq_iff_eq]at hp
  rw[pev_gsum]
  simp only[List.length_append,List.length_map,List.length_range,List.length_cons,List.length_nil,Nat.zero_add]
  rw[gsum,getD_append,if_neg (by simp),show([1]:List F8).getD (v-((List.range v).map l).length) 0=1 by simp,one_gmul, ←hp.2,xor_eq_zero]
  refine gsum_congr fun k hk=>?_
  rw[getD_append,if_pos (by simpa using hk),map_range_getD _ _ _ _ hk]
 simpa using h
def hrow (u:List F8) (v i:Nat):List F8:=(List.range (v+1)).map fun k=>u.getD (i+k) 0
def hrows (u:List F8) (v:Nat):List (List F8):=(List.range (u.length-v)).map (hrow u v)
theorem hrows_len (u:List F8) (v:Nat):(hrows u v).length=u.length-v:=by simp[hrows]
theorem hrows_wd (u:List F8) (v:Nat):Wd (hrows u v) (v+1):=fun i hi=>by
 rw[hrows_len]at hi
 unfold hrows
 rw[map_range_getD _ _ _ _ hi]
 simp[hrow]
theorem hrows_mt {u:List F8} {v i k:Nat} (hi:i<u.length-v) (hk:k≤v):mt (hrows u v) i k=at0 u (i+k):=by
 unfold mt hrows
 rw[map_range_getD _ _ _ _ hi,hrow,map_range_getD _ _ _ _ (by omega)]
theorem RS_hrows {u:List F8} {v:Nat} (l:Nat→F8):RS (mt (hrows u v)) (hrows u v).length v l↔HS (at0 u) u.length v l:=by
 rw[hrows_len]
 unfold RS HS
 have e: ∀i,i<u.length-v→gsum v (fun k=>gmul (mt (hrows u v) i k) (l k))=gsum v (fun k=>gmul (l k) (at0 u (i+k))):=fun i hi=>gsum_congr fun k hk=>by rw[hrows_mt hi (by omega),gmul_comm]
 constructor
 ·intro h i hi
  have:=h i (by omega)
  rwa[e i (by omega),hrows_mt (by omega) (Nat.le_refl _)]at this
 ·intro h i hi
  rw[e i hi,hrows_mt hi (Nat.le_refl _)]
  exact h i (by omega)
def refLoc (n:Nat) (u:List F8) (v:Nat):Option (List Nat):=match gauss (hrows u v) v with
 | none=>none
 | some l=>if(rts n v (at0 l)).length=v then some (rts n v (at0 l))else none
section
variable {n L:Nat} {u:List F8} {lam:Nat→F8}
theorem loc_lt {v:Nat} (hL:Least (at0 u) u.length L) (hv:v<L) (hw:v≤u.length-v):refLoc n u v=none:=by
 have h:=gauss_spec (w:=v) (m:=v+1) (rows:=hrows u v) (by rw[hrows_len];omega) (hrows_wd u v)
 unfold refLoc
 cases hg:gauss (hrows u v) v with
 | none=>rfl
 | some l=>
  rw[hg]at h
  have h2:=(h.2 (at0 l)).2 fun k _=>rfl
  rw[RS_hrows]at h2
  have:=no_less hL h2
  omega
theorem loc_gt {v:Nat} (hs:HS (at0 u) u.length L lam) (hv:L<v) (hw:v≤u.length-v):refLoc n u v=none:=by
 have h:=gauss_spec (w:=v) (m:=v+1) (rows:=hrows u v) (by rw[hrows_len];omega) (hrows_wd u v)
 unfold refLoc
 cases hg:gauss (hrows u v) v with
 | none=>rfl
 | some l=>
  rw[hg]at h
  obtain⟨l1,l2,h1,h2,k,hk,hne⟩:=hs_more hs hv
  have e1:=(h.2 l1).1 ((RS_hrows l1).2 h1) k hk
  have e2:=(h.2 l2).1 ((RS_hrows l2).2 h2) k hk
  exact absurd (e1.trans e2.symm) hne
theorem loc_at (hL:Least (at0 u) u.length L) (hs:HS (at0 u) u.length L lam) (h2L:2*L≤u.length):refLoc n u L=if(rts n L lam).length=L then some (rts n L lam)else none:=by
 have h:=gauss_spec (w:=L) (m:=L+1) (rows:=hrows u L) (by rw[hrows_len];omega) (hrows_wd u L)
 unfold refLoc
 cases hg:gauss (hrows u L) L with
 | none=>
  rw[hg]at h
  obtain⟨l',h1,k,hk,hne⟩:=h lam ((RS_hrows lam).2 hs)
  exact absurd (hs_unique hL h2L ((RS_hrows l').1 h1) hs k hk) hne
 | some l=>
  rw[hg]at h
  have e:=(h.2 lam).1 ((RS_hrows lam).2 hs)
  rw[rts_congr (l:=lam) (l':=at0 l) e]
end
def Ysol (n:Nat) (s:List F8) (P:List Nat) (Y:Nat→F8):Prop:= ∀j,j<s.length→lsum P (fun p=>gmul (gpow (PX n p) j) (Y p))=at0 s j
theorem srows_mt {n:Nat} {s:List F8} {P:List Nat} {j i:Nat} (hj:j<s.length):mt (srows n s P) j i=if i<P.length then gpow (PX n (P.getD i 0)) j else if i=P.length then at0 s j else 0:=by
 unfold mt srows
 rw[map_range_getD _ _ _ _ hj,srow,getD_append,List.length_map,List.length_range]
 by_cases h:i<P.length
 ·rw[if_pos h,if_pos h,map_range_getD _ _ _ _ h]
 ·rw[if_neg h,if_neg h]
  by_cases h2:i=P.length
  ·rw[if_pos h2,h2,Nat.sub_self]
   rfl
  ·rw[if_neg h2,getD_ge _ _ _ (by simp;omega)]
theorem RS_Y {n:Nat} {s:List F8} {P:List Nat} (Y:Nat→F8):RS (mt (srows n s P)) (srows n s P).length P.length (fun i=>Y (P.getD i 0))↔Ysol n s P Y:=by
 rw[srows_len]
 unfold RS Ysol
 have e: ∀j,j<s.length→gsum P.length (fun i=>gmul (mt (srows n s P) j i) (Y (P.getD i 0)))=lsum P (fun p=>gmul (gpow (PX n p) j) (Y p)):=fun j hj=>by
  rw[lsum_gsum _ 0]
  exact gsum_congr fun i hi=>by rw[srows_mt hj,if_pos hi]
 have e2: ∀j,j<s.length→mt (srows n s P) j P.length=at0 s j:=fun j hj=>by rw[srows_mt hj,if_neg (by omega),if_pos rfl]
 constructor
 ·intro h j hj
  rw[←e j hj, ←e2 j hj]
  exact h j hj
 ·intro h j hj
  rw[e j hj,e2 j hj]
  exact h j hj
theorem idx_getD {P:List Nat} (hP:P.Nodup) {i:Nat} (hi:i<P.length):P.idxOf (P.getD i 0)=i:=by
 rw[show P.getD i 0=P[i] by rw[List.getD_eq_getElem?_getD,List.getElem?_eq_getElem hi];rfl]
 exact hP.idxOf_getElem i hi
theorem getD_idx {P:List Nat} {p:Nat} (h:p∈P):P.getD (P.idxOf p) 0=p:=by
 have:=List.idxOf_lt_length_of_mem h
 rw[List.getD_eq_getElem?_getD,List.getElem?_eq_getElem this]
 exact List.getElem_idxOf this
def atP (P:List Nat) (y:List F8) (p:Nat):F8:=y.getD (P.idxOf p) 0
theorem gauss_Y {n:Nat} {s:List F8} {P:List Nat} (hP:P.Nodup) (hl:P.length≤s.length):match gauss (srows n s P) P.length with
  | some y=>y.length=P.length∧ ∀Y,Ysol n s P Y↔ ∀p∈P,Y p=atP P y p
  | none=> ∀Y,Ysol n s P Y→ ∃Y',Ysol n s P Y'∧ ∃p,p∈P∧Y' p≠Y p:=by
 have h:=gauss_spec (w:=P.length) (rows:=srows n s P) (by rw[srows_len];exact hl) (srows_wd n s P)
 cases hg:gauss (srows n s P) P.length with
 | some y=>
  rw[hg]at h
  refine⟨h.1,fun Y=>?_⟩
  rw[←RS_Y,h.2]
  constructor
  ·intro h1 p hp
   have:=h1 (P.idxOf p) (List.idxOf_lt_length_of_mem hp)
   rwa[getD_idx hp]at this
  ·intro h1 i hi
   have:=h1 _ (getD_mem 0 hi)
   unfold atP at this
   rwa[idx_getD hP hi]at this
 | none=>
  rw[hg]at h
  intro Y hY
  obtain⟨y',h1,k,hk,hne⟩:=h _ ((RS_Y Y).2 hY)
  refine⟨fun p=>y' (P.idxOf p),?_,P.getD k 0,getD_mem 0 hk,?_⟩
  ·rw[←RS_Y]
   intro i hi
   rw[←h1 i hi]
   exact gsum_congr fun k hk=>by
    show gmul _ (y' (P.idxOf (P.getD k 0)))=_
    rw[idx_getD hP hk]
  ·show y' (P.idxOf (P.getD k 0))≠_
   rw[idx_getD hP hk]
   exact hne
theorem Ysol_perm {n:Nat} {s:List F8} {P Q:List Nat} (h:P.Perm Q) (Y:Nat→F8):Ysol n s P Y↔Ysol n s Q Y:=by
 unfold Ysol
 constructor
 ·intro h1 j hj
  rw[←lsum_perm h]
  exact h1 j hj
 ·intro h1 j hj
  rw[lsum_perm h]
  exact h1 j hj
theorem gauss_perm {n:Nat} {s:List F8} {P Q:List Nat} (hP:P.Nodup) (h:P.Perm Q) (hl:P.length≤s.length):match gauss (srows n s P) P.length,gauss (srows n s Q) Q.length with
  | some y,some z=>y.length=P.length∧z.length=Q.length∧ ∀p,p∈P→atP P y p=atP Q z p
  | none,none=>True
  | _,_=>False:=by
 have hQ:Q.Nodup:=h.nodup_iff.1 hP
 have h1:=gauss_Y (n:=n) hP hl
 have h2:=gauss_Y (n:=n) (s:=s) hQ (by rw[←h.length_eq];exact hl)
 cases hg1:gauss (srows n s P) P.length with
 | none=>
  rw[hg1]at h1
  cases hg2:gauss (srows n s Q) Q.length with
  | none=>trivial
  | some z=>
   rw[hg2]at h2
   have hz:=(Ysol_perm h (atP Q z)).2 ((h2.2 (atP Q z)).2 fun p _=>rfl)
   obtain⟨Y',h3,p,hp,hne⟩:=h1 _ hz
   exact hne ((h2.2 Y').1 ((Ysol_perm h Y').1 h3) p (h.mem_iff.1 hp))
 | some y=>
  rw[hg1]at h1
  have hy:=(Ysol_perm h (atP P y)).1 ((h1.2 (atP P y)).2 fun p _=>rfl)
  cases hg2:gauss (srows n s Q) Q.length with
  | none=>
   rw[hg2]at h2
   obtain⟨Y',h3,p,hp,hne⟩:=h2 _ hy
   exact hne ((h1.2 Y').1 ((Ysol_perm h Y').2 h3) p (h.mem_iff.2 hp))
  | some z=>
   rw[hg2]at h2
   exact⟨h1.1,h2.1,fun p hp=>(h2.2 (atP P y)).1 hy p (h.mem_iff.1 hp)⟩
def appl (w:List F8) (P:List Nat) (y:List F8):List F8:=run (fun i w=>w.set (P.getD i 0) (w.getD (P.getD i 0) 0^^^y.getD i 0)) 0 P.length w
theorem appl_len (w:List F8) (P:List Nat) (y:List F8):(appl w P y).length=w.length:=
 run_inv (fun _ a=>List.length a=w.length) _ _ _ rfl fun j a _ _ h=>by rw[List.length_set,h]
theorem appl_run {P:List Nat} (y:List F8) (hP:P.Nodup): ∀(m i:Nat) (w:List F8) (p:Nat),(∀p∈P,p<w.length)→i+m=P.length→
  (run (fun i w=>w.set (P.getD i 0) (w.getD (P.getD i 0) 0^^^y.getD i 0)) i m w).getD p 0=w.getD p 0^^^(if p∈P∧i≤P.idxOf p then atP P y p else 0)
 | 0,i,w,p,hl,hi=>by
  rw[if_neg (fun h=>by have:=List.idxOf_lt_length_of_mem h.1;omega),x0]
  rfl
 | m+1,i,w,p,hl,hi=>by
  have hiP:i<P.length:=by omega
  rw[run,appl_run y hP m (i+1) _ p (fun q hq=>by rw[List.length_set];exact hl q hq) (by omega),getD_set]
  by_cases hp:P.getD i 0=p
  ·have hmem:p∈P:=by rw[←hp];exact getD_mem 0 hiP
   have hidx:P.idxOf p=i:=by rw[←hp];exact idx_getD hP hiP
   rw[if_pos ⟨hp,by rw[hp];exact hl p hmem⟩,if_neg (by omega),x0,if_pos ⟨hmem,by omega⟩,hp]
   unfold atP
   rw[hidx]
  ·rw[if_neg (fun h=>hp h.1)]
   congr 1
   by_cases hm:p∈P
   ·have hne:P.idxOf p≠i:=fun e=>hp (by rw[←e,getD_idx hm])
    by_cases h2:i+1≤P.idxOf p
    ·rw[if_pos ⟨hm,h2⟩,if_pos ⟨hm,by omega⟩]
    ·rw[if_neg (by omega),if_neg (by omega)]
   ·rw[if_neg (fun h=>hm h.1),if_neg (fun h=>hm h.1)]
theorem appl_getD {P:List Nat} {w:List F8} (y:List F8) (hP:P.Nodup) (hl: ∀p∈P,p<w.length) (p:Nat):(appl w P y).getD p 0=w.getD p 0^^^(if p∈P then atP P y p else 0):=by
 unfold appl
 rw[appl_run y hP P.length 0 w p hl (by omega)]
 congr 1
 by_cases h:p∈P
 ·rw[if_pos ⟨h,Nat.zero_le _⟩,if_pos h]
 ·rw[if_neg (fun h2=>h h2.1),if_neg h]
def refTry (n:Nat) (s u:List F8) (E:List Nat) (v:Nat):Option (List Nat×List F8):=match refLoc n u v with
 | none=>none
 | some o=>if o.any (fun p=>E.contains p)then none else match gauss (srows n s (E++o)) (E++o).length with
  | none=>none
  | some y=>some (E++o,y)
def refFind {β:Type} (f:Nat→Option β):Nat→Nat→Option β
 | _,0=>none
 | v,m+1=>match f v with
  | some r=>some r
  | none=>refFind f (v+1) m
theorem refFind_none {β:Type} {f:Nat→Option β}: ∀(m v:Nat),(∀j,v≤j→j<v+m→f j=none)→refFind f v m=none
 | 0,_,_=>rfl
 | m+1,v,h=>by
  rw[refFind,h v (Nat.le_refl _) (by omega)]
  exact refFind_none m (v+1) fun j h1 h2=>h j (by omega) (by omega)
theorem refFind_one {β:Type} {f:Nat→Option β} {L:Nat}: ∀(m v:Nat),(∀j,v≤j→j<v+m→j≠L→f j=none)→v≤L→refFind f v m=if L<v+m then f L else none
 | 0,v,_,h=>by rw[if_neg (by omega)];rfl
 | m+1,v,h,hv=>by
  rw[refFind]
  by_cases e:v=L
  ·subst e
   rw[if_pos (by omega)]
   cases hf:f v with
   | some r=>rfl
   | none=>exact refFind_none m (v+1) fun j h1 h2=>h j (by omega) (by omega) (by omega)
  ·rw[h v (Nat.le_refl _) (by omega) e,refFind_one m (v+1) (fun j h1 h2=>h j (by omega) (by omega)) (by omega)]
   by_cases h2:L<v+(m+1)
   ·rw[if_pos h2,if_pos (by omega)]
   ·rw[if_neg h2,if_neg (by omega)]
def refDec (n most:Nat) (s w:List F8) (E:List Nat):DT8:=match refFind (refTry n s (U n s E) E) 0 (most+1)with
 | none=>(2,[],[])
 | some (P,y)=>(if appl w P y=w then 0 else 1,bs (appl w P y),zs ((List.range n).filter fun i=>(appl w P y).getD i 0 !=w.getD i 0))
def proots (n:Nat) (sig:List F8) (E:List Nat):List Nat:=(List.range n).filter fun p=>pev sig (ginv (PX n p))==0&&!E.contains p
def progDec (n most:Nat) (s w:List F8) (E:List Nat):DT8:=
 if clean s=true then(0,bs w,[])else
 if(shortest (U n s E)).length-1>most then(2,[],[])else
 if(nsort (E++proots n (shortest (U n s E)) E)).length≠E.length+((shortest (U n s E)).length-1)then(2,[],[])else
 match gauss (srows n s (nsort (E++proots n (shortest (U n s E)) E))) (nsort (E++proots n (shortest (U n s E)) E)).length with
 | none=>(2,[],[])
 | some y=>(1,bs (appl w (nsort (E++proots n (shortest (U n s E)) E)) y),zs ((nsort (E++proots n (shortest (U n s E)) E)).filter fun p=>atP (nsort (E++proots n (shortest (U n s E)) E)) y p !=0))
theorem clean_iff {s:List F8}:clean s=true↔ ∀j,at0 s j=0:=by
 unfold clean
 rw[List.all_eq_true]
 constructor
 ·intro h j
  by_cases hj:j<s.length
  ·exact beq_iff_eq.1 (h _ (getD_mem 0 hj))
  ·exact getD_ge _ _ _ (by omega)
 ·intro h x hx
  obtain⟨i,hi,rfl⟩:=List.mem_iff_getElem.1 hx
  have:=h i
  rw[show at0 s i=s[i] by show s.getD i 0=_;rw[List.getD_eq_getElem?_getD,List.getElem?_eq_getElem hi];rfl]at this
  exact beq_iff_eq.2 this
theorem gpow_ginv {x:F8} (hx:x≠0) (j:Nat):gmul (gpow x j) (gpow (ginv x) j)=1:=by
 induction j with
 | zero=>exact one_gmul 1
 | succ j ih=>
  show gmul (gmul (gpow x j) x) (gmul (gpow (ginv x) j) (ginv x))=1
  rw[gmul_assoc, ←gmul_assoc x,gmul_comm x,gmul_assoc (gpow (ginv x) j),gmul_ginv hx,gmul_one,ih]
theorem root_iff {sig:List F8} {L:Nat} (hl:sig.length=L+1) (h0:at0 sig 0=1) {x:F8} (hx:x≠0):pev sig (ginv x)=0↔gsum L (fun k=>gmul (at0 sig (L-k)) (gpow x k))=gpow x L:=by
 have e:gmul (gpow x L) (pev sig (ginv x))=gsum L (fun k=>gmul (at0 sig (L-k)) (gpow x k))^^^gpow x L:=by
  rw[pev_gsum,hl, ←gsum_mul,gsum_rev,gsum]
  congr 1
  ·refine gsum_congr fun k hk=>?_
   rw[←gmul_assoc,gmul_comm (gpow x L),gmul_assoc]
   show gmul (sig.getD (L+1-1-k) 0) (gmul (gpow x L) (gpow (ginv x) (L+1-1-k)))=gmul (sig.getD (L-k) 0) (gpow x k)
   rw[show L+1-1-k=L-k by omega]
   congr 1
   rw[show gpow x L=gpow x (k+(L-k)) by congr 1;omega,gpow_add,gmul_assoc,gpow_ginv hx,gmul_one]
  ·rw[show L+1-1-L=0 by omega,show sig.getD 0 0=1 from h0,one_gmul]
   exact gmul_one _
 constructor
 ·intro h
  rw[h,gmul_zero]at e
  exact xor_eq_zero.1 e.symm
 ·intro h
  rw[h,xx]at e
  exact(gmul_eq_zero e).resolve_left (gpow_ne hx L)
theorem sorted_ext {l m:List Nat} (h1:l.Pairwise (· < ·)) (h2:m.Pairwise (· < ·)) (h: ∀a,a∈l↔a∈m):l=m:=by
 refine List.Perm.eq_of_pairwise (le:=(· < ·)) (fun a b _ _ h1 h2=>by omega) h1 h2 ?_
 exact(List.perm_ext_iff_of_nodup (h1.imp fun h=>by omega) (h2.imp fun h=>by omega)).2 h
theorem nsort_strict {l:List Nat} (h:l.Nodup):(nsort l).Pairwise (· < ·):=by
 have h1:=nsort_sorted l
 have h2:(nsort l).Nodup:=(nsort_perm l).nodup_iff.2 h
 exact(h1.and h2).imp fun⟨h3,h4⟩=>by omega
section
variable {n c most:Nat} {s w:List F8} {E:List Nat}
theorem proots_eq {sig u:List F8} {L:Nat} (hl:sig.length=L+1) (h0:at0 sig 0=1):proots n sig E=(rts n L fun k=>at0 sig (L-k)).filter fun p=>!E.contains p:=by
 unfold proots rts
 rw[List.filter_filter]
 congr 1
 funext p
 rw[Bool.and_comm]
 congr 1
 rw[Bool.eq_iff_iff,beq_iff_eq,beq_iff_eq]
 exact root_iff hl h0 (PX_ne n p)
theorem refTry_some {u:List F8} {v:Nat} {o:List Nat} (h:refLoc n u v=some o) (hd: ∀p∈o,p∉E):refTry n s u E v=match gauss (srows n s (E++o)) (E++o).length with
  | none=>none
  | some y=>some (E++o,y):=by
 unfold refTry
 rw[h]
 have:(o.any fun p=>E.contains p)=false:=by
  rw[List.any_eq_false]
  intro p hp
  simpa using hd p hp
 simp only[this,Bool.false_eq_true,if_false]
 all_goals (cases gauss (srows n s (E++o)) (E++o).length<;>rfl)
theorem refTry_bad {u:List F8} {v:Nat} {o:List Nat} (h:refLoc n u v=some o) (hd: ¬ ∀p∈o,p∉E):refTry n s u E v=none:=by
 unfold refTry
 rw[h]
 have:(o.any fun p=>E.contains p)=true:=by
  rw[List.any_eq_true]
  obtain⟨p,hp⟩:=Classical.not_forall.1 hd
  obtain⟨hp1,hp2⟩:=Classical.not_imp.1 hp
  exact⟨p,hp1,by simpa using hp2⟩
 simp only[this,if_true]
theorem refTry_none {u:List F8} {v:Nat} (h:refLoc n u v=none):refTry n s u E v=none:=by
 unfold refTry
 rw[h]
theorem ysol_zero {P:List Nat} {Y:Nat→F8} (h:Ysol n s P Y) (h0: ∀p∈P,Y p=0):clean s=true:=clean_iff.2 fun j=>by
 by_cases hj:j<s.length
 ·rw[←h j hj]
  exact lsum_zero fun p hp=>by rw[h0 p hp,gmul_zero]
 ·exact getD_ge _ _ _ (by omega)
theorem dec_eq (hn:n≤64) (hw:w.length=n) (hE:E.Pairwise (· < ·)) (hEn: ∀p∈E,p<n) (hEc:E.length≤s.length) (hm:most≤(s.length-E.length)/2):
  progDec n most s w E=refDec n most s w E:=by
 have hEd:E.Nodup:=hE.imp fun h=>by omega
 obtain⟨L,h1,h2,h3,h4,h5⟩:=shortest_spec (U n s E)
 have hU:=U_len n E s
 have hs:HS (at0 (U n s E)) (U n s E).length L fun k=>at0 (shortest (U n s E)) (L-k):=(hs_gn h3 fun k hk=>rfl).2 h4
 have hother: ∀j,0≤j→j<0+(most+1)→j≠L→refTry n s (U n s E) E j=none:=fun j _ hj hne=>by
  rcases Nat.lt_or_ge j L with h|h
  ·exact refTry_none (loc_lt h5 h (by omega))
  ·exact refTry_none (loc_gt hs (by omega) (by omega))
 have hfind:=refFind_one (f:=refTry n s (U n s E) E) (L:=L) (most+1) 0 hother (Nat.zero_le _)
 rw[Nat.zero_add]at hfind
 unfold refDec progDec
 rw[hfind]
 by_cases hc:clean s=true
 ·rw[if_pos hc]
  have hu0:=U_zero n E s (clean_iff.1 hc)
  have hL0:L=0:=by
   have:=h5 (fun j=>if j=0 then 1 else 0) 0 rfl fun i h1 h2=>by
    show(0:F8)^^^gmul (if(0:Nat)=0 then 1 else 0) (at0 (U n s E) (i-0))=0
    rw[hu0,gmul_zero,xx]
   omega
  subst hL0
  have hr:rts n 0 (fun k=>at0 (shortest (U n s E)) (0-k))=[]:=by
   have:=rts_le hn (v:=0) (fun k=>at0 (shortest (U n s E)) (0-k))
   exact List.length_eq_zero_iff.1 (by omega)
  have hloc:=loc_at (n:=n) h5 hs (by omega)
  rw[hr,if_pos (show([]:List Nat).length=0 from rfl)]at hloc
  rw[if_pos (c:=0<most+1) (by omega),refTry_some hloc (fun p hp=>by cases hp),List.append_nil]
  have hg:=gauss_Y (n:=n) hEd hEc
  have hz:Ysol n s E fun _=>0:=fun j hj=>by
   rw[clean_iff.1 hc j]
   exact lsum_zero fun p _=>gmul_zero _
  have huniq: ∀Y,Ysol n s E Y→ ∀p∈E,Y p=0:=fun Y hY p hp=>by
   have hX: ∀q∈E,PX n q=PX n p→q=p:=fun q hq e=>PX_inj hn (hEn q hq) (hEn p hp) e
   let y:F8→F8:=fun x=>match(E.find? fun q=>PX n q==x)with
    | some q=>Y q
    | none=>0
   have hy: ∀q∈E,y (PX n q)=Y q:=fun q hq=>by
    show(match(E.find? fun r=>PX n r==PX n q)with|some q=>Y q|none=>0)=_
    cases hf:E.find? fun r=>PX n r==PX n q with
    | none=>
     have:=List.find?_eq_none.1 hf q hq
     simp at this
    | some r=>
     have e1:=List.find?_some hf
     have e2:=List.mem_of_find?_eq_some hf
     rw[beq_iff_eq]at e1
     show Y r=Y q
     rw[PX_inj hn (hEn r e2) (hEn q hq) e1]
   have hmap: ∀(l:List Nat) (f:F8→F8),lsum (l.map (PX n)) f=lsum l fun q=>f (PX n q):=fun l f=>by
    induction l with
    | nil=>rfl
    | cons a l ih=>exact congrArg (f (PX n a)^^^ ·) ih
   have:=vand (E.map (PX n)) y (PX_nodup hn hEd hEn) (fun k hk=>by
    rw[List.length_map]at hk
    have h6:=hY k (by omega)
    rw[clean_iff.1 hc k]at h6
    rw[hmap, ←h6]
    exact lsum_congr fun q hq=>by rw[hy q hq,gmul_comm]) (PX n p) (List.mem_map_of_mem hp)
   rwa[hy p hp]at this
  cases hgg:gauss (srows n s E) E.length with
  | none=>
   rw[hgg]at hg
   obtain⟨Y',h6,p,hp,hne⟩:=hg _ hz
   exact absurd (huniq Y' h6 p hp) hne
  | some y=>
   rw[hgg]at hg
   have hval:=(hg.2 _).1 hz
   have happ:appl w E y=w:=ext_getD 0 (appl_len _ _ _) fun i hi=>by
    rw[appl_getD y hEd (fun p hp=>by rw[hw];exact hEn p hp)]
    split
    ·rename_i hp
     rw[←hval i hp,x0]
    ·exact x0 _
   simp only[happ,if_true]
   simp[zs]
 ·rw[if_neg hc,h1,Nat.add_sub_cancel]
  by_cases hLm:L>most
  ·rw[if_pos hLm,if_neg (by omega)]
  rw[if_neg hLm,if_pos (c:=L<most+1) (by omega),proots_eq (u:=U n s E) h1 h3]
  have hloc:=loc_at (n:=n) h5 hs (by omega)
  have hrl:=rts_le hn (v:=L) (fun k=>at0 (shortest (U n s E)) (L-k))
  have hrn:=rts_nodup n L (fun k=>at0 (shortest (U n s E)) (L-k))
  have hrlt: ∀p∈rts n L (fun k=>at0 (shortest (U n s E)) (L-k)),p<n:=fun p hp=>rts_lt hp
  generalize rts n L (fun k=>at0 (shortest (U n s E)) (L-k))=R at hloc hrl hrn hrlt
  have hfl:=List.length_filter_le (fun p=>!E.contains p) R
  have hPl:(nsort (E++R.filter fun p=>!E.contains p)).length=E.length+(R.filter fun p=>!E.contains p).length:=by rw[(nsort_perm _).length_eq,List.length_append]
  by_cases hcnt:(R.filter fun p=>!E.contains p).length=L
  ·have hRL:R.length=L:=by omega
   have hall: ∀p∈R,p∉E:=fun p hp=>by
    have:=List.length_filter_eq_length_iff.1 (hcnt.trans hRL.symm) p hp
    simpa using this
   have hself:(R.filter fun p=>!E.contains p)=R:=List.filter_eq_self.2 fun p hp=>by simpa using hall p hp
   rw[if_pos hRL]at hloc
   rw[if_neg (show¬(nsort (E++R.filter fun p=>!E.contains p)).length≠E.length+L by omega),refTry_some hloc hall,hself]
   have hQd:(E++R).Nodup:=List.nodup_append.2 ⟨hEd,hrn,fun a ha b hb e=>hall b hb (e▸ha)⟩
   have hperm:=nsort_perm (E++R)
   have hPd:(nsort (E++R)).Nodup:=hperm.nodup_iff.2 hQd
   have hQl:(E++R).length≤s.length:=by rw[List.length_append];omega
   have hgp:=gauss_perm (n:=n) (s:=s) hPd hperm (by rw[hperm.length_eq];exact hQl)
   have hQlt: ∀p∈E++R,p<w.length:=fun p hp=>by
    rw[hw]
    rcases List.mem_append.1 hp with h|h
    ·exact hEn p h
    ·exact hrlt p h
   have hPlt: ∀p∈nsort (E++R),p<w.length:=fun p hp=>hQlt p (hperm.mem_iff.1 hp)
   have hstrict:=nsort_strict hQd
   generalize nsort (E++R)=P at hperm hPd hgp hPlt hstrict ⊢
   have hgY:=gauss_Y (n:=n) (s:=s) hQd hQl
   generalize E++R=Q at hperm hQd hQl hgp hQlt hgY ⊢
   cases hg1:gauss (srows n s P) P.length with
   | none=>
    rw[hg1]at hgp
    cases hg2:gauss (srows n s Q) Q.length with
    | none=>rfl
    | some z=>rw[hg2]at hgp;exact hgp.elim
   | some y=>
    rw[hg1]at hgp
    cases hg2:gauss (srows n s Q) Q.length with
    | none=>rw[hg2]at hgp;exact hgp.elim
    | some z=>
     rw[hg2]at hgp hgY
     have hval:=hgp.2.2
     have happ:appl w P y=appl w Q z:=ext_getD 0 (by rw[appl_len,appl_len]) fun i hi=>by
      rw[appl_getD y hPd hPlt,appl_getD z hQd hQlt]
      by_cases hp:i∈P
      ·rw[if_pos hp,if_pos (hperm.mem_iff.1 hp),hval i hp]
      ·rw[if_neg hp,if_neg fun h=>hp (hperm.mem_iff.2 h)]
     have hne: ¬appl w Q z=w:=fun e=>hc (ysol_zero ((hgY.2 (atP Q z)).2 fun p _=>rfl) fun p hp=>by
      have:=appl_getD z hQd hQlt p
      rw[e,if_pos hp]at this
      have h6:=congrArg (w.getD p 0^^^ ·) this
      rw[←BitVec.xor_assoc,xx,zx]at h6
      exact h6.symm)
     simp only[happ,if_neg hne]
     congr 3
     refine sorted_ext (List.Pairwise.filter _ hstrict) (List.Pairwise.filter _ List.pairwise_lt_range) fun a=>?_
     rw[List.mem_filter,List.mem_filter,List.mem_range,appl_getD z hQd hQlt,bne_iff_ne,bne_iff_ne]
     constructor
     ·rintro ⟨h6,h7⟩
      refine⟨by rw[←hw];exact hPlt a h6,fun e=>h7 ?_⟩
      rw[if_pos (hperm.mem_iff.1 h6)]at e
      have h8:=congrArg (w.getD a 0^^^ ·) e
      rw[←BitVec.xor_assoc,xx,zx]at h8
      rw[hval a h6]
      exact h8
     ·rintro ⟨h6,h7⟩
      by_cases hp:a∈Q
      ·refine⟨hperm.mem_iff.2 hp,fun e=>h7 ?_⟩
       rw[if_pos hp, ←hval a (hperm.mem_iff.2 hp),e,x0]
      ·rw[if_neg hp,x0]at h7
       exact absurd rfl h7
  ·rw[if_pos (show(nsort (E++R.filter fun p=>!E.contains p)).length≠E.length+L by omega)]
   by_cases hRL:R.length=L
   ·rw[if_pos hRL]at hloc
    rw[refTry_bad hloc fun hall=>hcnt (by rw[List.filter_eq_self.2 fun p hp=>by simpa using hall p hp,hRL])]
   ·rw[if_neg hRL]at hloc
    rw[refTry_none hloc]
end
theorem evalP_eq (x:F8): ∀c:List F8,evalP (bs c) (ofG x)=ofG (pev c x)
 | []=>rfl
 | c::r=>by
  show ofG (gmul (toG (evalP (bs r) (ofG x))) (toG (ofG x))^^^toG (ofG c))=_
  rw[evalP_eq x r,toG_ofG,toG_ofG,toG_ofG]
  rfl
theorem evalF_eq {α:Type} {k:Nat} (x:F8) (c:List F8) (h:c.length≤room) (K:Int→Option α):evalF k (bs c) (ofG x) K=K (ofG (pev c x)):=by
 unfold evalF
 rw[gd ⟨fun y hy=>by obtain⟨a,_,rfl⟩:=List.mem_map.1 hy;exact⟨ofG_nn a,ofG_lt a⟩,by rw[bs_len];exact h,ofG_nn x,ofG_lt x⟩,evalP_eq]
theorem run_filter (c:Nat→Bool) (a:List Nat): ∀n,run (fun p l=>if c p=true then l++[p]else l) 0 n a=a++(List.range n).filter c
 | 0=>by simp[run]
 | n+1=>by
  rw[run_succ,run_filter c a n,Nat.zero_add,List.range_succ,List.filter_append,List.filter_cons,List.filter_nil]
  cases c n
  ·simp
  ·simp[List.append_assoc]
theorem zs_snoc (l:List Nat) (p:Nat):zs l++[(p:Int)]=zs (l++[p]):=by simp[zs]
theorem zs_append (l m:List Nat):zs l++zs m=zs (l++m):=by simp[zs]
structure ErOk (E:List Nat) (n most:Nat):Prop where
 inc:E.Pairwise (· < ·)
 lt: ∀p∈E,p<n
 le:E.length≤most
theorem ErOk.get {E:List Nat} {n most i:Nat} (h:ErOk E n most) (hi:i+1<E.length):E.getD i 0<E.getD (i+1) 0:=by
 have:=List.pairwise_iff_getElem.1 h.inc i (i+1) (by omega) hi (by omega)
 rw[List.getD_eq_getElem?_getD,List.getD_eq_getElem?_getD,List.getElem?_eq_getElem hi,List.getElem?_eq_getElem (by omega)]
 exact this
section
variable {α:Type} {k:Nat}
theorem f123_eq (hk:10000≤k) {E:List Nat} {n most:Nat} (h:ErOk E n most) (hl:E.length<1000) (K:Int→Option α):f123 k (zs E) (n:Int) (most:Int) K=K 0:=by
 simp only[f123,s123,SumT.leaf,SumT.pre,SumT.seq,SumT.cond,SumT.block,SumT.blockP,SumT.loop,zB]
 rw[zs_len]
 refine lp_run2 (fun i (_:Unit)=>(zs E,(n:Int),(most:Int),zs E,(E.length:Int),(i:Int))) E.length (fun _ a=>a) (fun _ _=>True) (by omega) (a:=()) trivial ?_ ?_
 ·intro i _ n2 hi _
  refine⟨?_,trivial⟩
  have:=h.lt _ (getD_mem 0 hi)
  simp only[]
  rw[dlt (by omega),cond_true,zs_len,gd (by omega),Int.toNat_natCast,zs_getD,decide_eq_false (by omega),cond_false,decide_eq_false (by omega),cond_false,w64_id (by omega) (by omega)]
  rfl
 ·intro n2 _
  simp only[]
  rw[dge (by omega),cond_false]
  have hend:(bif decide (((zs E).length:Int)>(most:Int))then K 3 else K 0)=K 0:=by
   rw[zs_len,decide_eq_false (by have:=h.le;omega),cond_false]
  by_cases h0:E.length=0
  ·obtain⟨k',rfl⟩: ∃k',k=k'+1:=⟨k-1,by omega⟩
   rw[lpF]
   simp only[]
   rw[dge (by rw[zs_len];omega),cond_false]
   exact hend
  ·refine lp_rule (fun m x=> ∃i:Nat,1≤i∧i+m=E.length∧x=(zs E,(most:Int),(i:Int))) ?_ (m:=E.length-1) ⟨1,Nat.le_refl _,by omega,rfl⟩ (by omega)
   rintro m x n3 ⟨i,hi1,hi,rfl⟩ hn3
   cases m with
   | zero=>
    simp only[]
    rw[dge (by rw[zs_len];omega),cond_false]
    exact hend
   | succ m=>
    have hh:=h.get (i:=i-1) (by omega)
    rw[show i-1+1=i by omega]at hh
    have e1:w64 ((i:Int)-1)=((i-1:Nat):Int):=by
     rw[w64_id (by omega) (by omega)]
     omega
    simp only[e1]
    rw[zs_len,dlt (by omega),cond_true,gd (by omega),gd (by omega),Int.toNat_natCast,Int.toNat_natCast,zs_getD,zs_getD,decide_eq_false (by omega),cond_false,w64_id (by omega) (by omega)]
    exact hn3 m _ (by omega) ⟨i+1,by omega,by omega,rfl⟩
theorem f126_eq (hk:10000≤k) (n most:Nat) (s:List F8) (E:List Nat) (hn:n≤64) (hs:s.length<100) (hE:ErOk E n s.length) (hE8:E.length≤8) (hm:most≤4) (K:List Int→Bool→Option α):
  f126 k (bs s) (n:Int) (zs E) (most:Int) K=if(shortest (U n s E)).length-1>most then K [] false else
   K (zs (nsort (E++proots n (shortest (U n s E)) E))) (decide ((nsort (E++proots n (shortest (U n s E)) E)).length=E.length+((shortest (U n s E)).length-1))):=by
 simp only[f126,s126,SumT.leaf,SumT.pre,SumT.seq,SumT.cond,SumT.block,SumT.blockP,SumT.loop,zB]
 unfold cloneF
 rw[bs_len,gd (by unfold room;omega),zs_len]
 refine lp_run2 (fun i u=>((n:Int),zs E,(most:Int),bs u,zs E,(E.length:Int),(i:Int))) E.length (fun i u=>usub u (PX n (E.getD i 0))) (fun i u=>u.length=s.length-i) (by omega) (a:=s) rfl ?_ ?_
 ·intro i u n2 hi hI
  refine⟨?_,by unfold usub;simp;omega⟩
  have hEl:=hE.le
  simp only[]
  rw[dlt (by omega),cond_true,zs_len,gd (by omega),Int.toNat_natCast,zs_getD,f148_eq hk n _ hn (hE.lt _ (getD_mem 0 hi)),bs_len,w64_id (by omega) (by omega)]
  generalize hx:gpow 2 (n-1-E.getD i 0)=x
  refine lp_rule (fun m y=> ∃(j:Nat) (r:List F8),j=m∧m+1≤u.length∧y=((n:Int),zs E,(most:Int),bs r,ofG x,(j:Int),zs E,(E.length:Int),(i:Int))∧r.length=u.length∧
   (∀q,q<u.length→r.getD q 0=if j<q then u.getD q 0^^^gmul x (u.getD (q-1) 0)else u.getD q 0)) ?_ (m:=u.length-1) ⟨u.length-1,u,rfl,by omega,?_,rfl,fun q hq=>by rw[if_neg (by omega)]⟩ (by omega)
  ·rintro m y n3 ⟨j,r,rfl,hj,rfl,hr,hg⟩ hn3
   cases j with
   | zero=>
    simp only[]
    rw[decide_eq_false (by omega),cond_false,bs_len,gd (by omega),bs_drop,w64_id (by omega) (by omega)]
    have:r.drop 1=usub u (PX n (E.getD i 0)):=ext_getD 0 (by unfold usub;simp[hr]) fun q hq=>by
     rw[List.length_drop]at hq
     unfold usub
     rw[getD_drop,hg _ (by omega),if_pos (by omega),map_range_getD _ _ _ _ (by omega), ←hx,Nat.add_comm 1 q,Nat.add_sub_cancel]
    rw[this]
    rfl
   | succ j=>
    have e1:w64 (((j+1:Nat):Int)-1)=(j:Int):=by
     rw[w64_id (by omega) (by omega)]
     omega
    simp only[e1]
    rw[decide_eq_true (by omega),cond_true,bs_len,gd (by omega),gd (by omega),Int.toNat_natCast,Int.toNat_natCast,bs_getD,f146_eq hk,gd (by omega),bs_getD,ofG_xor,bs_set]
    refine hn3 j _ (by omega) ⟨j,_,rfl,by omega,rfl,by rw[List.length_set,hr],fun q hq=>?_⟩
    rw[getD_set]
    by_cases h1:j+1=q
    ·subst h1
     rw[if_pos ⟨rfl,by omega⟩,if_pos (by omega),hg _ hq,if_neg (by omega),hg _ (by omega),if_neg (by omega),Nat.add_sub_cancel]
    ·rw[if_neg (by omega),hg q hq]
     by_cases h2:j+1<q
     ·rw[if_pos h2,if_pos (by omega)]
     ·rw[if_neg h2,if_neg (by omega)]
  ·congr 6
   omega
 ·intro n2 _
  have hfold:run (fun i u=>usub u (PX n (E.getD i 0))) 0 E.length s=U n s E:=run_fold (f:=fun u p=>usub u (PX n p)) E s
  have hUl:=U_len n E s
  rw[hfold]
  simp only[]
  obtain⟨L,h1,h2,h3,h4,h5⟩:=shortest_spec (U n s E)
  rw[dge (by omega),cond_false,f149_eq hk _ (by omega),bs_len,h1,Nat.add_sub_cancel,show w64 (((L+1:Nat):Int)-1)=(L:Int) by rw[w64_id (by omega) (by omega)];omega]
  by_cases hL:L>most
  ·rw[decide_eq_true (by omega),cond_true,if_pos hL]
  ·rw[decide_eq_false (by omega),cond_false,if_neg hL,zs_len,gd (by unfold room;omega)]
   refine lp_run2 (fun i P=>((n:Int),zs E,bs (shortest (U n s E)),zs P,(n:Int),(i:Int))) n (fun p P=>if(pev (shortest (U n s E)) (ginv (PX n p))==0&&!E.contains p)=true then P++[p]else P) (fun i P=>P.length≤E.length+i) (by omega) (a:=E) (by omega) ?_ ?_
   ·intro i P n3 hi hI
    refine⟨?_,?_⟩
    ·simp only[]
     rw[dlt (by omega),cond_true,f148_eq hk n _ hn hi,f151_eq hk,if_neg (gpow_ne two_ne _),show gpow 2 (n-1-i)=PX n i from rfl]
     rw[evalF_eq _ _ (by unfold room;omega)]
     by_cases hz:pev (shortest (U n s E)) (ginv (PX n i))=0
     ·rw[hz,show(ofG 0==(0:Int))=true from rfl,cond_true,f153_eq hk _ _ (by omega),beq_self_eq_true,Bool.true_and,w64_id (by omega) (by omega)]
      cases hcn:E.contains i
      ·rw[Bool.not_false,cond_true,zs_len,gd (by simp;unfold room;omega),zs_snoc]
       rfl
      ·rfl
     ·rw[show(ofG (pev (shortest (U n s E)) (ginv (PX n i)))==(0:Int))=false from beq_eq_false_iff_ne.2 fun h=>hz (ofG_eq_zero.1 h),cond_false,beq_eq_false_iff_ne.2 hz,Bool.false_and,w64_id (by omega) (by omega)]
      rfl
    ·split
     ·rw[List.length_append]
      simp
      omega
     ·omega
   ·intro n3 _
    rw[run_filter (fun p=>pev (shortest (U n s E)) (ginv (PX n p))==0&&!E.contains p) E n,show(List.range n).filter (fun p=>pev (shortest (U n s E)) (ginv (PX n p))==0&&!E.contains p)=proots n (shortest (U n s E)) E from rfl]
    simp only[]
    have hpl:(proots n (shortest (U n s E)) E).length≤L:=by
     rw[proots_eq (u:=U n s E) h1 h3]
     exact Nat.le_trans (List.length_filter_le _ _) (rts_le hn _)
    rw[dge (by omega),cond_false,f154w_eq hk _ (by rw[List.length_append];omega),zs_len,zs_len,bs_len,h1]
    have hnl:(nsort (E++proots n (shortest (U n s E)) E)).length≤12:=by
     rw[(nsort_perm _).length_eq,List.length_append]
     omega
    rw[show w64 ((E.length:Int)+((L+1:Nat):Int))=((E.length+(L+1):Nat):Int)from w64_id (by omega) (by omega),show w64 (((E.length+(L+1):Nat):Int)-1)=((E.length+L:Nat):Int) by rw[w64_id (by omega) (by omega)];omega]
    congr 1
    rw[Bool.eq_iff_iff,beq_iff_eq,decide_eq_true_eq]
    omega
theorem chips_eq {P:List Nat} (y:List F8) (hP:P.Nodup):run (fun i (ch:List Nat)=>if y.getD i 0≠0 then ch++[P.getD i 0]else ch) 0 P.length []=P.filter fun p=>atP P y p !=0:=by
 have key: ∀m,m≤P.length→run (fun i (ch:List Nat)=>if y.getD i 0≠0 then ch++[P.getD i 0]else ch) 0 m []=(P.take m).filter fun p=>atP P y p !=0:=by
  intro m
  induction m with
  | zero=>intro _;rfl
  | succ m ih=>
   intro hm
   have ht:P.take (m+1)=P.take m++[P.getD m 0]:=by
    rw[List.take_add_one,List.getElem?_eq_getElem (by omega),List.getD_eq_getElem?_getD,List.getElem?_eq_getElem (by omega)]
    rfl
   rw[run_succ,ih (by omega),Nat.zero_add,ht,List.filter_append,List.filter_cons,List.filter_nil]
   have:atP P y (P.getD m 0)=y.getD m 0:=by
    unfold atP
    rw[idx_getD hP (by omega)]
   rw[this]
   by_cases h:y.getD m 0=0
   ·rw[if_neg (fun h2=>h2 h),h]
    simp
   ·rw[if_pos h,if_pos (bne_iff_ne.2 h)]
 rw[key _ (Nat.le_refl _),List.take_length]
theorem run_pair {A B:Type} {f:Nat→A→A} {g:Nat→B→B}: ∀(n i:Nat) (a:A) (b:B),run (fun i (x:A×B)=>(f i x.1,g i x.2)) i n (a,b)=(run f i n a,run g i n b)
 | 0,_,_,_=>rfl
 | n+1,i,a,b=>run_pair n (i+1) (f i a) (g i b)
theorem f104_eq (hk:10000≤k) (d c f:Nat) (h1:1≤d) (h2:d≤32) (h3:1≤c) (h4:c≤8) (h5:f≤c/2) (hv:vcode (2,(d:Int),(c:Int),(f:Int))=true) (w:List F8) (hw:w.length=d+c) (E:List Nat) (hE:ErOk E (d+c) c) (K:DT8→Int→Option α):
  f104 k (2,(d:Int),(c:Int),(f:Int)) (bs w) (zs E) K=K (progDec (d+c) (min f ((c-E.length)/2)) (syn w c) w E) 0:=by
 have hEl:=hE.le
 simp only[f104,s104,SumT.leaf,SumT.pre,SumT.seq,SumT.cond,SumT.block,SumT.blockP,SumT.loop,zB]
 unfold cloneF
 have e1:w64 ((d:Int)+(c:Int))=((d+c:Nat):Int):=w64_id (by omega) (by omega)
 have e2:minI (f:Int) (w64 (Int.tdiv (w64 ((c:Int)-((zs E).length:Int))) 2))=((min f ((c-E.length)/2):Nat):Int):=by
  rw[zs_len,show w64 ((c:Int)-(E.length:Int))=((c-E.length:Nat):Int) by rw[w64_id (by omega) (by omega)];omega,Int.tdiv_eq_ediv_of_nonneg (by omega),w64_id (by omega) (by omega)]
  unfold minI
  split<;>omega
 simp only[e1,e2]
 rw[f122_eq,hv,bs_len,hw,show(true&&((2:Int)==2))=true from rfl,Bool.not_true,cond_false,bne_self_eq_false,cond_false,f123_eq hk hE (by omega)]
 have hsl:=syn_len w c
 rw[show((0:Int) !=0)=false from rfl,cond_false,gd (by unfold room;omega),f124_eq hk w c (by omega) (by omega),f125_eq hk _ (by omega)]
 unfold progDec
 by_cases hc:clean (syn w c)=true
 ·rw[hc,cond_true,if_pos rfl]
 have hc':clean (syn w c)=false:=by simpa using hc
 rw[hc',cond_false,if_neg (by decide),f126_eq hk (d+c) _ _ E (by omega) (by omega) (by rw[hsl];exact hE) (by omega) (by omega)]
 by_cases hm:(shortest (U (d+c) (syn w c) E)).length-1>min f ((c-E.length)/2)
 ·rw[if_pos hm,if_pos hm]
  rfl
 rw[if_neg hm,if_neg hm]
 obtain⟨L,s1,s2,s3,s4,s5⟩:=shortest_spec (U (d+c) (syn w c) E)
 have hUl:=U_len (d+c) E (syn w c)
 have hPlt: ∀p∈nsort (E++proots (d+c) (shortest (U (d+c) (syn w c) E)) E),p<d+c:=fun p hp=>by
  rcases List.mem_append.1 ((nsort_perm _).mem_iff.1 hp)with h|h
  ·exact hE.lt p h
  ·unfold proots at h
   simp at h
   exact h.1
 have hEd:E.Nodup:=hE.inc.imp fun h=>by omega
 have hPd:(nsort (E++proots (d+c) (shortest (U (d+c) (syn w c) E)) E)).Nodup:=(nsort_perm _).nodup_iff.2 (List.nodup_append.2 ⟨hEd,List.Pairwise.filter _ List.nodup_range,fun a ha b hb e=>by
  unfold proots at hb
  simp at hb
  exact hb.2.2 (e▸ha)⟩)
 generalize nsort (E++proots (d+c) (shortest (U (d+c) (syn w c) E)) E)=P at hPlt hPd ⊢
 by_cases hcnt:P.length=E.length+((shortest (U (d+c) (syn w c) E)).length-1)
 case neg=>
  rw[decide_eq_false hcnt,Bool.not_false,cond_true,if_pos hcnt]
 rw[decide_eq_true hcnt,Bool.not_true,cond_false,if_neg (fun h=>h hcnt)]
 have hPl:P.length≤c:=by omega
 rw[f127_eq hk (d+c) (syn w c) P (by omega) (by omega) hPlt (by omega)]
 have hg:=gauss_Y (n:=d+c) (s:=syn w c) hPd (by omega)
 cases hgg:gauss (srows (d+c) (syn w c) P) P.length with
 | none=>rfl
 | some y=>
  rw[hgg]at hg
  simp only[]
  rw[Bool.not_true,cond_false,zs_len]
  refine lp_run2 (fun i (x:List F8×List Nat)=>(((0:Int),([]:List Int),([]:List Int)),((1:Int),bs x.1,zs x.2),bs y,zs P,(P.length:Int),(i:Int))) P.length
   (fun i (x:List F8×List Nat)=>(x.1.set (P.getD i 0) (x.1.getD (P.getD i 0) 0^^^y.getD i 0),if y.getD i 0≠0 then x.2++[P.getD i 0]else x.2)) (fun i x=>x.1.length=d+c∧x.2.length≤i) (by omega) (a:=(w,[])) ⟨hw,Nat.le_refl _⟩ ?_ ?_
  ·rintro i ⟨v,ch⟩ n3 hi ⟨hI1,hI2⟩
   have hp:=hPlt _ (getD_mem 0 hi)
   have hI1:v.length=d+c:=hI1
   have hI2:ch.length≤i:=hI2
   refine⟨?_,by show(v.set _ _).length=_;rw[List.length_set,hI1],?_⟩
   ·simp only[]
    rw[dlt (by omega),cond_true,zs_len,gd (by omega),bs_len,hg.1,gd (by omega),Int.toNat_natCast,bs_getD]
    by_cases h0:y.getD i 0=0
    ·rw[h0,show(ofG 0 !=(0:Int))=false from rfl,cond_false,x0,set_same (d:=0) rfl (by omega),w64_id (by omega) (by omega)]
     rfl
    ·rw[bne_iff_ne.2 (fun h=>h0 (ofG_eq_zero.1 h)),cond_true,zs_getD,bs_len,hI1,gd (by omega),gd (by omega),gd (by omega),zs_len,gd (by simp;unfold room;omega),Int.toNat_natCast,bs_getD,ofG_xor,bs_set,zs_snoc,if_pos h0,w64_id (by omega) (by omega)]
     rfl
   ·show(if y.getD i 0≠0 then ch++[P.getD i 0]else ch).length≤i+1
    split
    ·simp
     exact hI2
    ·omega
  ·intro n3 _
   rw[run_pair (f:=fun i (x:List F8)=>x.set (P.getD i 0) (x.getD (P.getD i 0) 0^^^y.getD i 0)) (g:=fun i (ch:List Nat)=>if y.getD i 0≠0 then ch++[P.getD i 0]else ch),chips_eq y hPd]
   simp only[]
   rw[dge (by omega),cond_false]
   rfl
end
section
variable {α:Type} {k:Nat}
theorem rb_snoc (rows:List (List F8)) (r:List F8):rb rows++[bs r]=rb (rows++[r]):=by simp[rb]
theorem f161_eq (hk:10000≤k) (n:Nat) (u:List F8) (v:Nat) (hn:n≤64) (hu:u.length<100) (hv:v≤u.length-v) (K:List Int→Bool→Option α):
  f161 k (n:Int) (bs u) (v:Int) K=match gauss (hrows u v) v with|none=>K [] false|some l=>K (zs (rts n v (at0 l))) (decide ((rts n v (at0 l)).length=v)):=by
 simp only[f161,s161,SumT.leaf,SumT.pre,SumT.seq,SumT.cond,SumT.block,SumT.blockP,SumT.loop,zB]
 refine lp_run2 (fun i rows=>((n:Int),bs u,(v:Int),rb rows,(i:Int))) (u.length-v) (fun i rows=>rows++[hrow u v i]) (fun i rows=>rows.length=i) (by omega) (a:=[]) rfl ?_ ?_
 ·intro i rows n2 hi hI
  refine⟨?_,by rw[List.length_append,hI];rfl⟩
  have e1:w64 ((i:Int)+(v:Int))=((i+v:Nat):Int):=w64_id (by omega) (by omega)
  have e2:w64 (((i+v:Nat):Int)+1)=((i+v+1:Nat):Int):=w64_id (by omega) (by omega)
  simp only[e1,e2]
  rw[bs_len,dlt (by omega),cond_true,gd (by omega),Int.toNat_natCast,Int.toNat_natCast,bs_take,bs_drop,bs_len,gd (by rw[List.length_drop,List.length_take];unfold room;omega),rb_len,hI,gd (by simp;unfold room;omega)]
  have:(u.take (i+v+1)).drop i=hrow u v i:=ext_getD 0 (by unfold hrow;simp;omega) fun j hj=>by
   rw[List.length_drop,List.length_take]at hj
   unfold hrow
   rw[getD_drop,getD_take,if_pos (by omega),map_range_getD _ _ _ _ (by omega)]
  rw[this,rb_snoc,w64_id (by omega) (by omega)]
  rfl
 ·intro n2 _
  rw[run_snoc,List.nil_append,show(List.range (u.length-v)).map (fun i=>hrow u v i)=hrows u v from rfl]
  have e1:w64 (((u.length-v:Nat):Int)+(v:Int))=(u.length:Int):=by
   rw[w64_id (by omega) (by omega)]
   omega
  simp only[e1]
  rw[bs_len,dge (by omega),cond_false]
  refine(f181w_eq hk (hrows u v) v (by rw[hrows_len];exact hv) (by rw[hrows_len];omega) (hrows_wd u v) _).trans ?_
  have hg:=gauss_spec (w:=v) (rows:=hrows u v) (by rw[hrows_len];exact hv) (hrows_wd u v)
  cases hgg:gauss (hrows u v) v with
  | none=>rfl
  | some l=>
   rw[hgg]at hg
   simp only[]
   rw[Bool.not_true,cond_false]
   refine lp_run2 (fun i out=>((n:Int),(v:Int),bs l,zs out,(i:Int))) n (fun p out=>if(gsum v (fun k=>gmul (at0 l k) (gpow (PX n p) k))==gpow (PX n p) v)=true then out++[p]else out) (fun i out=>out.length≤i) (by omega) (a:=[]) (Nat.le_refl _) ?_ ?_
   ·intro i out n3 hi hI
    refine⟨?_,?_⟩
    ·have e2:w64 (w64 ((n:Int)-1)-(i:Int))=((n-1-i:Nat):Int):=by
      rw[show w64 ((n:Int)-1)=((n-1:Nat):Int) by rw[w64_id (by omega) (by omega)];omega,w64_id (by omega) (by omega)]
      omega
     simp only[e2]
     rw[dlt (by omega),cond_true,f108_eq hk _ (by omega),show gpow 2 (n-1-i)=PX n i from rfl]
     refine lp_run2 (fun j (x:F8×F8)=>((n:Int),(v:Int),bs l,zs out,(i:Int),ofG (PX n i),ofG x.1,ofG x.2,(j:Int))) v (fun j (x:F8×F8)=>(x.1^^^gmul (l.getD j 0) x.2,gmul x.2 (PX n i)))
      (fun j x=>x=(gsum j (fun k=>gmul (at0 l k) (gpow (PX n i) k)),gpow (PX n i) j)) (by omega) (a:=(0,1)) rfl ?_ ?_
     ·rintro j x n4 hj rfl
      refine⟨?_,rfl⟩
      simp only[]
      rw[dlt (by omega),cond_true,bs_len,hg.1,gd (by omega),Int.toNat_natCast,bs_getD,f131_eq hk,f131_eq hk,ofG_xor,w64_id (by omega) (by omega)]
      rfl
     ·intro n4 hI2
      rw[hI2]
      simp only[]
      rw[dge (by omega),cond_false]
      by_cases he:gsum v (fun k=>gmul (at0 l k) (gpow (PX n i) k))=gpow (PX n i) v
      ·rw[he,show(ofG (gpow (PX n i) v)==ofG (gpow (PX n i) v))=true by simp,cond_true,zs_len,gd (by simp;unfold room;omega),zs_snoc,beq_self_eq_true,if_pos rfl,w64_id (by omega) (by omega)]
       rfl
      ·rw[show(ofG (gsum v (fun k=>gmul (at0 l k) (gpow (PX n i) k)))==ofG (gpow (PX n i) v))=false from beq_eq_false_iff_ne.2 fun h=>he (ofG_inj h),cond_false,show(gsum v (fun k=>gmul (at0 l k) (gpow (PX n i) k))==gpow (PX n i) v)=false from beq_eq_false_iff_ne.2 he,w64_id (by omega) (by omega)]
       rfl
    ·split
     ·simp
      omega
     ·omega
   ·intro n3 _
    rw[run_filter (fun p=>gsum v (fun k=>gmul (at0 l k) (gpow (PX n p) k))==gpow (PX n p) v) [] n,List.nil_append,show(List.range n).filter (fun p=>gsum v (fun k=>gmul (at0 l k) (gpow (PX n p) k))==gpow (PX n p) v)=rts n v (at0 l)from rfl]
    simp only[]
    rw[dge (by omega),cond_false,zs_len]
    congr 1
    rw[Bool.eq_iff_iff,beq_iff_eq,decide_eq_true_eq]
    omega
theorem f162_eq (hk:10000≤k) (n:Nat) (s:List F8) (ps:List Nat) (hs:s.length<100) (hn:n≤64) (hps: ∀p∈ps,p<n) (hw:ps.length≤s.length) (K:List Int→Bool→Option α):
  f162 k (n:Int) (bs s) (zs ps) K=match gauss (srows n s ps) ps.length with|some out=>K (bs out) true|none=>K [] false:=by
 simp only[f162,s162,SumT.leaf,SumT.pre,SumT.seq,SumT.cond,SumT.block,SumT.blockP,SumT.loop,zB]
 refine lp_run2 (fun j rows=>((n:Int),bs s,zs ps,rb rows,(j:Int))) s.length (fun j rows=>rows++[srow n s ps j]) (fun j rows=>rows.length=j) (by omega) (a:=[]) rfl ?_ ?_
 ·intro j rows n2 hj hI
  refine⟨?_,by rw[List.length_append,hI];rfl⟩
  simp only[]
  rw[bs_len,dlt (by omega),cond_true]
  refine lp_run2 (fun i row=>((n:Int),bs s,zs ps,rb rows,(j:Int),bs row,(i:Int))) ps.length (fun i row=>row++[gpow (gpow 2 (n-1-ps.getD i 0)) j]) (fun i row=>row.length=i) (by omega) (a:=[]) rfl ?_ ?_
  ·intro i row n3 hi hI2
   have hp:=hps _ (getD_mem 0 hi)
   refine⟨?_,by rw[List.length_append,hI2];rfl⟩
   have hb:j*(n-1-ps.getD i 0)≤100*64:=Nat.mul_le_mul (by omega) (by omega)
   have e2:w64 ((j:Int)*w64 (w64 ((n:Int)-1)-((ps.getD i 0:Nat):Int)))=((j*(n-1-ps.getD i 0):Nat):Int):=by
    have e3:w64 (w64 ((n:Int)-1)-((ps.getD i 0:Nat):Int))=((n-1-ps.getD i 0:Nat):Int):=by
     rw[show w64 ((n:Int)-1)=((n-1:Nat):Int) by rw[w64_id (by omega) (by omega)];omega,w64_id (by omega) (by omega)]
     omega
    rw[e3, ←Int.natCast_mul,w64_id (by omega) (by omega)]
   simp only[]
   rw[zs_len,dlt (by omega),cond_true,gd (by omega),Int.toNat_natCast,zs_getD,e2,f108_eq hk _ (by omega),bs_len,hI2,gd (by simp;unfold room;omega),bs_snoc2,w64_id (by omega) (by omega),Nat.mul_comm j,gpow_mul]
   rfl
  ·intro n3 _
   rw[run_snoc,List.nil_append]
   simp only[]
   rw[zs_len,dge (by omega),cond_false,bs_len,gd (by omega),bs_len,Int.toNat_natCast,bs_getD,gd (by simp;unfold room;omega),rb_len,hI,gd (by simp;unfold room;omega),bs_snoc2,rb_snoc,w64_id (by omega) (by omega)]
   rfl
 ·intro n2 _
  rw[run_snoc,List.nil_append,show(List.range s.length).map (fun j=>srow n s ps j)=srows n s ps from rfl]
  simp only[]
  rw[bs_len,dge (by omega),cond_false,zs_len]
  exact f181w_eq hk (srows n s ps) ps.length (by rw[srows_len];exact hw) (by rw[srows_len];exact hs) (srows_wd n s ps) _
theorem f159_eq (hk:10000≤k) (d c f:Nat) (h2:d≤32) (h4:c≤8) (hv:vcode (2,(d:Int),(c:Int),(f:Int))=true) (w:List F8) (hw:w.length=d+c) (E:List Nat) (h:ErOk E (d+c) c) (K:Int→Option α):
  f159 k (2,(d:Int),(c:Int),(f:Int)) (bs w) (zs E) K=K 0:=by
 simp only[f159,s159,SumT.leaf,SumT.pre,SumT.seq,SumT.cond,SumT.block,SumT.blockP,SumT.loop,zB]
 have hl:=h.le
 have e1:w64 ((d:Int)+(c:Int))=((d+c:Nat):Int):=w64_id (by omega) (by omega)
 rw[f106_eq,hv,bs_len,hw,e1,show(true&&((2:Int)==2))=true from rfl,Bool.not_true,cond_false,bne_self_eq_false,cond_false]
 refine lp_run2 (fun i (_:Unit)=>(zs E,((2:Int),(d:Int),(c:Int),(f:Int)),((d+c:Nat):Int),(i:Int))) E.length (fun _ a=>a) (fun _ _=>True) (by omega) (a:=()) trivial ?_ ?_
 ·intro i _ n2 hi _
  refine⟨?_,trivial⟩
  have:=h.lt _ (getD_mem 0 hi)
  simp only[]
  rw[zs_len,dlt (by omega),cond_true,gd (by omega),Int.toNat_natCast,zs_getD,decide_eq_false (by omega),cond_false,gd (by omega),decide_eq_false (by omega),cond_false,w64_id (by omega) (by omega)]
  rfl
 ·intro n2 _
  simp only[]
  rw[zs_len,dge (by omega),cond_false]
  have hend:(bif decide ((E.length:Int)>(c:Int))then K 3 else K 0)=K 0:=by
   rw[decide_eq_false (by omega),cond_false]
  by_cases h0:E.length=0
  ·obtain⟨k',rfl⟩: ∃k',k=k'+1:=⟨k-1,by omega⟩
   rw[lpF]
   simp only[]
   rw[zs_len,dge (by omega),cond_false]
   exact hend
  ·refine lp_rule (fun m x=> ∃i:Nat,1≤i∧i+m=E.length∧x=(zs E,((2:Int),(d:Int),(c:Int),(f:Int)),(i:Int))) ?_ (m:=E.length-1) ⟨1,Nat.le_refl _,by omega,rfl⟩ (by omega)
   rintro m x n3 ⟨i,hi1,hi,rfl⟩ hn3
   cases m with
   | zero=>
    simp only[]
    rw[zs_len,dge (by omega),cond_false]
    exact hend
   | succ m=>
    have hh:=h.get (i:=i-1) (by omega)
    rw[show i-1+1=i by omega]at hh
    have e1:w64 ((i:Int)-1)=((i-1:Nat):Int):=by
     rw[w64_id (by omega) (by omega)]
     omega
    simp only[e1]
    rw[zs_len,dlt (by omega),cond_true,gd (by omega),gd (by omega),Int.toNat_natCast,Int.toNat_natCast,zs_getD,zs_getD,decide_eq_false (by omega),cond_false,w64_id (by omega) (by omega)]
    exact hn3 m _ (by omega) ⟨i+1,by omega,by omega,rfl⟩
end
end Go.Proofs.YtkeiedikiiccpaaGreatDoor.Am
