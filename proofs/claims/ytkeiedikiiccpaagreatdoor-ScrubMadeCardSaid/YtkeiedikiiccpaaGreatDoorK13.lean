/- A part of the proof of ScrubMade: lemmas. No conditions beyond those of each lemma. -/
import Derived.Test.YtkeiedikiiccpaaGreatDoorK9
import Derived.Test.YtkeiedikiiccpaaGreatDoorK12
set_option linter.all false
namespace Go.Proofs.YtkeiedikiiccpaaGreatDoor.Am
open Go
section
variable {α:Type} {k:Nat}
theorem ref_step (a p:F8):bitI .xor .i64 (ofG p) (ofG a)=ofG (p^^^a):=by
 have h: ∀a:F8,BitVec.ofInt 64 (ofG a)=BitVec.setWidth 64 a:=by decide+kernel
 show w64 ((BitVec.ofInt 64 (ofG p)^^^BitVec.ofInt 64 (ofG a)).toNat:Int)=_
 rw[h,h, ←BitVec.setWidth_xor,BitVec.toNat_setWidth]
 have:=(p^^^a).isLt
 rw[Nat.mod_eq_of_lt (by omega),w64_id (by omega) (by omega)]
 rfl
theorem ref_dbl (a:F8):(bif decide (w64 (ofG a*2^1)≥256)then bitI .xor .i64 (w64 (ofG a*2^1)) 285 else w64 (ofG a*2^1))=ofG (gdbl a):=by
 revert a
 decide+kernel
theorem ref_bit (b:F8) (i:Nat) (h:i<8):(bitI .and .u8 (Int.fdiv (ofG b) (2^(min (wu64 (i:Int)).toNat 8))) 1==1)=(b>>>i).getLsbD 0:=by
 have h8: ∀(i:Fin 8) (b:F8),(bitI .and .u8 (Int.fdiv (ofG b) (2^(min (wu64 (i.val:Int)).toNat 8))) 1==1)=(b>>>i.val).getLsbD 0:=by decide+kernel
 exact h8 ⟨i,h⟩ b
theorem f131_eq (hk:10000≤k) (a b:F8) (K:Int→Option α):f131 k (ofG a) (ofG b) K=K (ofG (gmul a b)):=by
 simp only[f131,s131,SumT.leaf,SumT.pre,SumT.seq,SumT.cond,SumT.block,SumT.blockP,SumT.loop,zB]
 have ha:=ofG_lt a
 have ha':=ofG_nn a
 rw[w64_id (by omega) (by omega)]
 refine lp_rule (fun m x=>m≤8∧ ∃a' p':F8,x=(ofG b,ofG p',ofG a',((8-m:Nat):Int))∧gmulA m p' a' (b>>>(8-m))=gmul a b) ?_ (m:=8) ⟨Nat.le_refl _,a,0,rfl,rfl⟩ (by omega)
 rintro m x n ⟨hm,a',p',rfl,hg⟩ hn
 cases m with
 | zero=>
  simp only[gmulA]at hg
  show K (w8 (ofG p'))=_
  rw[hg,w8_id (ofG_nn _) (ofG_lt _)]
 | succ m=>
  have hlt:((8-(m+1):Nat):Int)<8:=by omega
  simp only[ref_bit b (8-(m+1)) (by omega),ref_step,decide_eq_true hlt,cond_true]
  rw[if_pos (by rw[wu64_id (by omega) (by omega)];omega),show w64 (((8-(m+1):Nat):Int)+1)=((8-(m+1):Nat):Int)+1 from w64_id (by omega) (by omega)]
  have hd:=ref_dbl a'
  rw[gmulA]at hg
  have hs:(b>>>(8-(m+1)))>>>1=b>>>(8-m):=by
   rw[←BitVec.shiftRight_add]
   congr 1
   omega
  rw[hs]at hg
  have hi:((8-(m+1):Nat):Int)+1=((8-m:Nat):Int):=by omega
  rw[hi]
  cases hc:(b>>>(8-(m+1))).getLsbD 0<;>rw[hc]at hg<;>cases hd':decide (w64 (ofG a'*2^1)≥256)<;>rw[hd']at hd<;>simp only[cond_true,cond_false]at hd hg ⊢ <;>rw[hd]
  all_goals exact hn m _ (by omega) ⟨by omega,_,_,rfl,hg⟩
theorem and1 {x:Int} (h0:0≤x) (h1:x<9223372036854775808):(bitI .and .i64 x 1==1)=decide (x.toNat%2=1):=by
 show(w64 ((BitVec.ofInt 64 x&&&BitVec.ofInt 64 1).toNat:Int)==1)=_
 have h2:(BitVec.ofInt 64 x&&&BitVec.ofInt 64 1).toNat=x.toNat%2:=by
  rw[BitVec.toNat_and,show(BitVec.ofInt 64 1).toNat=1 from rfl,Nat.and_one_is_mod,BitVec.toNat_ofInt]
  omega
 rw[h2,w64_id (by omega) (by omega),Bool.eq_iff_iff]
 simp
 omega
theorem f173_eq (hk:10000≤k) (a:F8) (e:Nat) (he:e<2^62) (K:Int→Option α):f173 k (ofG a) (e:Int) K=K (ofG (gpow a e)):=by
 simp only[f173,s173,SumT.leaf,SumT.pre,SumT.seq,SumT.cond,SumT.block,SumT.blockP,SumT.loop,zB]
 refine lp_rule (fun m x=>m≤62∧ ∃(a' p':F8) (e':Nat),x=(ofG a',(e':Int),ofG p')∧e'<2^m∧gmul p' (gpow a' e')=gpow a e) ?_ (m:=62) ⟨by omega,a,1,e,rfl,he,one_gmul _⟩ (by omega)
 rintro m x n ⟨hm,a',p',e',rfl,he',hg⟩ hn
 by_cases h0:e'=0
 ·subst h0
  rw[show gpow a' 0=1 from rfl,gmul_one]at hg
  rw[←hg]
  rfl
 ·have hp:(e':Int)>0:=by omega
  have hlt:e'<2^62:=Nat.lt_of_lt_of_le he' (Nat.pow_le_pow_right (by omega) hm)
  simp only[decide_eq_true hp,cond_true]
  rw[and1 (by omega) (by omega),Int.toNat_natCast]
  simp only[f146_eq hk]
  have hf:Int.fdiv (e':Int) (2^1)=((e'/2:Nat):Int):=by
   rw[Int.fdiv_eq_ediv_of_nonneg _ (by omega)]
   omega
  rw[hf]
  cases m with
  | zero=>omega
  | succ m=>
   have h2:e'/2<2^m:=by
    rw[Nat.pow_succ]at he'
    omega
   by_cases ho:e'%2=1
   ·simp only[ho,decide_true,cond_true]
    refine hn m _ (by omega) ⟨by omega,_,_,_,rfl,h2,?_⟩
    rw[gpow_sq,gmul_assoc, ←hg]
    congr 1
    have:e'=1+2*(e'/2):=by omega
    rw[congrArg (gpow a') this,gpow_add,gpow_one]
   ·simp only[ho,decide_false,cond_false]
    refine hn m _ (by omega) ⟨by omega,_,_,_,rfl,h2,?_⟩
    rw[gpow_sq, ←hg]
    congr 2
    omega
theorem f174_eq (e:Nat) (he:e<2^62) (K:Int→Option α):f174 k (e:Int) K=K ((e%255:Nat):Int):=by
 simp only[f174,s174,SumT.leaf,SumT.pre,SumT.seq,SumT.cond,SumT.block,SumT.blockP,SumT.loop,zB]
 congr 1
 have h1:Int.tmod (e:Int) 255=((e%255:Nat):Int):=by
  rw[Int.tmod_eq_emod_of_nonneg (by omega)]
  omega
 rw[h1,w64_id (by omega) (by omega),Int.tmod_eq_emod_of_nonneg (by omega)]
 omega
theorem f145_eq (hk:10000≤k) (e:Nat) (he:e<2^62) (K:Int→Option α):f145 k (e:Int) K=K (ofG (gpow 2 e)):=by
 simp only[f145,s145,SumT.leaf,SumT.pre,SumT.seq,SumT.cond,SumT.block,SumT.blockP,SumT.loop,zB]
 simp only[f174_eq e he]
 rw[show(2:Int)=ofG 2 from rfl,f173_eq hk _ _ (by omega),gpow_mod two_ne]
theorem f151_eq (hk:10000≤k) (a:F8) (K:Int→Int→Option α):f151 k (ofG a) K=if a=0 then K 0 4 else K (ofG (ginv a)) 0:=by
 simp only[f151,s151,SumT.leaf,SumT.pre,SumT.seq,SumT.cond,SumT.block,SumT.blockP,SumT.loop,zB]
 by_cases h:a=0
 ·subst h
  rfl
 ·have h0:(ofG a==0)=false:=by
   simp only[beq_eq_false_iff_ne,ne_eq,ofG_eq_zero]
   exact h
  rw[if_neg h,h0]
  exact f173_eq hk a 254 (by omega) _
theorem f176_eq (hk:10000≤k) (a b:F8) (hb:b≠0) (K:Int→Int→Option α):f176 k (ofG a) (ofG b) K=K (ofG (gmul a (ginv b))) 0:=by
 simp only[f176,s176,SumT.leaf,SumT.pre,SumT.seq,SumT.cond,SumT.block,SumT.blockP,SumT.loop,zB]
 simp only[f151_eq hk,if_neg hb,f146_eq hk]
theorem f155_eq (hk:10000≤k) (a:F8) (ha:a≠0) (e:Nat) (he:e<2^62) (K:Int→Int→Option α):f155 k (ofG a) (e:Int) K=K (ofG (gpow a e)) 0:=by
 simp only[f155,s155,SumT.leaf,SumT.pre,SumT.seq,SumT.cond,SumT.block,SumT.blockP,SumT.loop,zB]
 have h0:(ofG a==0)=false:=by
  simp only[beq_eq_false_iff_ne,ne_eq,ofG_eq_zero]
  exact ha
 by_cases h:e=0
 ·subst h
  rfl
 ·have h1:((e:Int)==0)=false:=by
   simp only[beq_eq_false_iff_ne,ne_eq]
   omega
  simp only[h0,h1,cond_false,f174_eq e he]
  rw[f173_eq hk _ _ (by omega),gpow_mod ha]
theorem f132_eq (hk:10000≤k) (a:F8) (ha:a≠0) (e:Nat) (he:e<2^62) (K:Int→Int→Option α):f132 k (ofG a) (e:Int) K=K (ofG (gpow a e)) 0:=by
 simp only[f132,s132,SumT.leaf,SumT.pre,SumT.seq,SumT.cond,SumT.block,SumT.blockP,SumT.loop,zB]
 have h0:(ofG a==0)=false:=by
  simp only[beq_eq_false_iff_ne,ne_eq,ofG_eq_zero]
  exact ha
 have h1:Int.tmod (e:Int) 255=((e%255:Nat):Int):=by
  rw[Int.tmod_eq_emod_of_nonneg (by omega)]
  omega
 simp only[h0,cond_false,h1]
 rw[decide_eq_false (by omega),cond_false]
 rw[←gpow_mod ha]
 refine lp_rule (fun m x=>m<255∧ ∃(p':F8),x=(ofG a,(m:Int),ofG p')∧gmul p' (gpow a m)=gpow a (e%255)) ?_ (m:=e%255) ⟨by omega,1,rfl,one_gmul _⟩ (by omega)
 rintro m x n ⟨hm,p',rfl,hg⟩ hn
 cases m with
 | zero=>
  rw[show gpow a 0=1 from rfl,gmul_one]at hg
  rw[←hg]
  rfl
 | succ m=>
  have hp:((m+1:Nat):Int)>0:=by omega
  simp only[decide_eq_true hp,cond_true,f131_eq hk]
  rw[w64_id (by omega) (by omega)]
  refine hn m _ (by omega) ⟨by omega,gmul p' a,by simp,?_⟩
  rw[←hg,gmul_assoc]
  congr 1
  rw[Nat.add_comm,gpow_add,gpow_one]
theorem f108_eq (hk:10000≤k) (e:Nat) (he:e<2^62) (K:Int→Option α):f108 k (e:Int) K=K (ofG (gpow 2 e)):=by
 simp only[f108,s108,SumT.leaf,SumT.pre,SumT.seq,SumT.cond,SumT.block,SumT.blockP,SumT.loop,zB]
 rw[show(2:Int)=ofG 2 from rfl,f132_eq hk _ two_ne e he]
theorem f133_eq (hk:10000≤k) (a:F8) (ha:a≠0) (K:Int→Int→Option α):f133 k (ofG a) K=K (ofG (ginv a)) 0:=by
 simp only[f133,s133,SumT.leaf,SumT.pre,SumT.seq,SumT.cond,SumT.block,SumT.blockP,SumT.loop,zB]
 have h0:(ofG a==0)=false:=by
  simp only[beq_eq_false_iff_ne,ne_eq,ofG_eq_zero]
  exact ha
 simp only[h0,cond_false]
 refine lp_rule (fun m x=>m≤254∧x=(ofG a,ofG (gpow a (254-m)),((254-m:Nat):Int))) ?_ (m:=254) ⟨by omega,rfl⟩ (by omega)
 rintro m x n ⟨hm,rfl⟩ hn
 cases m with
 | zero=>rfl
 | succ m=>
  have hp:((254-(m+1):Nat):Int)<254:=by omega
  simp only[decide_eq_true hp,cond_true,f131_eq hk]
  rw[w64_id (by omega) (by omega)]
  refine hn m _ (by omega) ⟨by omega,?_⟩
  have e1:254-m=(254-(m+1))+1:=by omega
  rw[e1]
  rfl
end
def run {A:Type} (f:Nat→A→A):Nat→Nat→A→A
 | _,0,a=>a
 | i,n+1,a=>run f (i+1) n (f i a)
theorem lp_run {V A α:Type} {F:V→(V→Option α)→Option α} (st:Nat→A→V) (N:Nat) (f:Nat→A→A) (Inv:Nat→A→Prop) (ex:A→Option α)
  (h1: ∀i a n,i<N→Inv i a→F (st i a) n=n (st (i+1) (f i a))∧Inv (i+1) (f i a)) (h2: ∀a n,Inv N a→F (st N a) n=ex a) {j:Nat} (hj:N<j) {a:A} (h0:Inv 0 a):
  lpF F j (st 0 a)=ex (run f 0 N a):=by
 refine lp_rule (fun m x=> ∃i a',i+m=N∧x=st i a'∧Inv i a'∧run f i m a'=run f 0 N a) ?_ (m:=N) ⟨0,a,by omega,rfl,h0,rfl⟩ (by omega)
 rintro m x n ⟨i,a',hi,rfl,hI,hr⟩ hn
 cases m with
 | zero=>
  obtain rfl:i=N:=by omega
  rw[h2 _ _ hI]
  exact congrArg ex hr
 | succ m=>
  obtain⟨e,hI2⟩:=h1 i a' n (by omega) hI
  rw[e]
  exact hn m _ (by omega) ⟨i+1,_,by omega,rfl,hI2,hr⟩
theorem lp_run2 {V A α:Type} {F:V→(V→Option α)→Option α} (st:Nat→A→V) (N:Nat) (f:Nat→A→A) (Inv:Nat→A→Prop) {r:Option α} {j:Nat} {a:A} (hj:N<j) (h0:Inv 0 a)
  (h1: ∀i a n,i<N→Inv i a→F (st i a) n=n (st (i+1) (f i a))∧Inv (i+1) (f i a)) (h2: ∀n,Inv N (run f 0 N a)→F (st N (run f 0 N a)) n=r):lpF F j (st 0 a)=r:=by
 refine lp_rule (fun m x=> ∃i a',i+m=N∧x=st i a'∧Inv i a'∧run f i m a'=run f 0 N a) ?_ (m:=N) ⟨0,a,by omega,rfl,h0,rfl⟩ (by omega)
 rintro m x n ⟨i,a',hi,rfl,hI,hr⟩ hn
 cases m with
 | zero=>
  obtain rfl:i=N:=by omega
  have hr:a'=run f 0 i a:=hr
  subst hr
  exact h2 n hI
 | succ m=>
  obtain⟨e,hI2⟩:=h1 i a' n (by omega) hI
  rw[e]
  exact hn m _ (by omega) ⟨i+1,_,by omega,rfl,hI2,hr⟩
theorem run_inv {A:Type} {f:Nat→A→A} (Inv:Nat→A→Prop): ∀(n i:Nat) (a:A),Inv i a→(∀j a,i≤j→j<i+n→Inv j a→Inv (j+1) (f j a))→Inv (i+n) (run f i n a)
 | 0,_,_,h,_=>h
 | n+1,i,a,h,hs=>by
  have:=run_inv Inv n (i+1) (f i a) (hs i a (by omega) (by omega) h) fun j a h1 h2 h3=>hs j a (by omega) (by omega) h3
  rwa[show i+1+n=i+(n+1) by omega]at this
theorem run_succ {A:Type} {f:Nat→A→A}: ∀(n i:Nat) (a:A),run f i (n+1) a=f (i+n) (run f i n a)
 | 0,_,_=>rfl
 | n+1,i,a=>by
  show run f (i+1) (n+1) (f i a)=f (i+(n+1)) (run f (i+1) n (f i a))
  rw[run_succ n (i+1),show i+1+n=i+(n+1) by omega]
theorem run_foldl {A B:Type} {f:A→B→A} {d:B}: ∀(l:List B) (p:List B) (a:A),run (fun i a=>f a ((p++l).getD i d)) p.length l.length a=l.foldl f a
 | [],_,_=>rfl
 | x::l,p,a=>by
  have h:=run_foldl (f:=f) (d:=d) l (p++[x]) (f a x)
  simp only[List.append_assoc,List.cons_append,List.nil_append,List.length_append,List.length_cons,List.length_nil]at h
  simp only[run,List.length_cons,List.foldl_cons]
  rw[←h]
  simp
theorem run_fold {A B:Type} {f:A→B→A} {d:B} (l:List B) (a:A):run (fun i a=>f a (l.getD i d)) 0 l.length a=l.foldl f a:=run_foldl l [] a
theorem gd {α:Type} {c:Prop} [Decidable c] {a b:Option α} (h:c):(if c then a else b)=a:=if_pos h
theorem dlt {a b:Int} (h:a<b):decide (a<b)=true:=decide_eq_true h
theorem dge {a b:Int} (h: ¬a<b):decide (a<b)=false:=decide_eq_false h
theorem dle {a b:Int} (h:a≤b):decide (a≤b)=true:=decide_eq_true h
theorem dgt {a b:Int} (h: ¬a≤b):decide (a≤b)=false:=decide_eq_false h
def paddAt (p q:List F8) (t:F8) (at_:Nat):List F8:=run (fun i p=>p.set (at_+i) (p.getD (at_+i) 0^^^gmul t (q.getD i 0))) 0 q.length p
theorem paddAt_len (p q:List F8) (t:F8) (at_:Nat):(paddAt p q t at_).length=p.length:=
 run_inv (fun _ a=>List.length a=p.length) _ _ _ rfl fun j a _ _ h=>by rw[List.length_set,h]
theorem getD_set {α:Type} (l:List α) (i j:Nat) (a d:α):(l.set i a).getD j d=if i=j∧i<l.length then a else l.getD j d:=by
 rw[List.getD_eq_getElem?_getD,List.getD_eq_getElem?_getD,List.getElem?_set]
 by_cases h:i=j
 ·subst h
  by_cases h2:i<l.length
  ·simp[h2]
  ·simp[h2,List.getElem?_eq_none (Nat.le_of_not_lt h2)]
 ·simp[h]
theorem paddAt_run (q:List F8) (t:F8) (at_:Nat): ∀(n i:Nat) (p:List F8) (j:Nat),at_+i+n≤p.length→
  (run (fun i p=>p.set (at_+i) (p.getD (at_+i) 0^^^gmul t (q.getD i 0))) i n p).getD j 0=p.getD j 0^^^(if at_+i≤j∧j<at_+i+n then gmul t (q.getD (j-at_) 0)else 0)
 | 0,i,p,j,_=>by
  rw[if_neg (by omega),x0]
  rfl
 | n+1,i,p,j,h=>by
  rw[run,paddAt_run q t at_ n (i+1) _ j (by rw[List.length_set];omega),getD_set]
  by_cases hj:at_+i=j
  ·subst hj
   rw[if_pos ⟨rfl,by omega⟩,if_neg (by omega),if_pos (by omega),x0]
   congr 3
   omega
  ·rw[if_neg (by omega)]
   by_cases h2:at_+(i+1)≤j∧j<at_+(i+1)+n
   ·rw[if_pos h2,if_pos (by omega)]
   ·rw[if_neg h2,if_neg (by omega)]
theorem paddAt_getD (p q:List F8) (t:F8) (at_ j:Nat) (h:at_+q.length≤p.length):(paddAt p q t at_).getD j 0=p.getD j 0^^^(if at_≤j∧j<at_+q.length then gmul t (q.getD (j-at_) 0)else 0):=
 paddAt_run q t at_ q.length 0 p j (by omega)
section
variable {α:Type} {k:Nat}
theorem f182w_eq (hk:10000≤k) (p q:List F8) (t:F8) (at_:Nat) (hq:q.length<1000) (hp:p.length<1000) (h:at_+q.length≤p.length) (K:List Int→Option α):
  f182w k (bs p) (bs q) (ofG t) (at_:Int) K=K (bs (paddAt p q t at_)):=by
 simp only[f182w,s182w,SumT.leaf,SumT.pre,SumT.seq,SumT.cond,SumT.block,SumT.blockP,SumT.loop,zB]
 rw[bs_len]
 refine lp_run (fun i p'=>(bs p',ofG t,(at_:Int),bs q,(q.length:Int),(i:Int))) q.length _ (fun i p'=>p'.length=p.length) (fun p'=>K (bs p')) ?_ ?_ (by omega) (a:=p) rfl
 ·intro i p' n hi hI
  refine⟨?_,?_⟩
  rotate_left
  ·rw[List.length_set,hI]
  ·have h1:w64 ((at_:Int)+(i:Int))=((at_+i:Nat):Int):=w64_id (by omega) (by omega)
   simp (disch:=omega) only[gd,w64_id,wu64_id,room,Int.toNat_natCast,bs_len,List.length_set,List.length_append,List.length_replicate,List.length_cons,List.length_nil,bs_getD,bs_set,ofG_xor,cond_true,cond_false,dlt,dge,dle,dgt,Bool.not_true,Bool.not_false,h1,f146_eq hk]
   rfl
 ·intro p' n hI
  simp (disch:=omega) only[gd,w64_id,wu64_id,room,Int.toNat_natCast,bs_len,List.length_set,List.length_append,List.length_replicate,List.length_cons,List.length_nil,bs_getD,bs_set,ofG_xor,cond_true,cond_false,dlt,dge,dle,dgt,Bool.not_true,Bool.not_false]
def ptrim (l:List F8):List F8:=(l.reverse.dropWhile (· ==0)).reverse
theorem ptrim_zero (l:List F8):ptrim (l++[0])=ptrim l:=by
 unfold ptrim
 rw[List.reverse_append]
 rfl
theorem ptrim_ne (l:List F8) {x:F8} (h:x≠0):ptrim (l++[x])=l++[x]:=by
 unfold ptrim
 rw[List.reverse_append]
 have h2:(x==0)=false:=beq_eq_false_iff_ne.2 h
 simp only[List.reverse_cons,List.reverse_nil,List.nil_append,List.singleton_append,List.dropWhile,h2,List.reverse_reverse,List.cons_append]
theorem ptrim_zeros (l:List F8): ∀n,ptrim (l++List.replicate n 0)=ptrim l
 | 0=>by simp
 | n+1=>by rw[List.replicate_succ', ←List.append_assoc,ptrim_zero,ptrim_zeros l n]
theorem snoc_cases {β:Type} (l:List β):l=[]∨ ∃m x,l=m++[x]:=by
 rcases List.eq_nil_or_concat l with h|⟨m,x,h⟩
 ·exact .inl h
 ·exact .inr ⟨m,x,by simpa using h⟩
theorem ptrim_len (l:List F8):(ptrim l).length≤l.length:=by
 unfold ptrim
 rw[List.length_reverse]
 have:=(List.dropWhile_sublist (fun x:F8=>x==0) (l:=l.reverse)).length_le
 simpa using this
def pvalid (p:List F8):Bool:=decide (p.length≤255)&&(p.length==0||p.getD (p.length-1) 0 !=0)
theorem getD_last {β:Type} (m:List β) (x d:β):(m++[x]).getD m.length d=x:=by
 rw[List.getD_eq_getElem?_getD,List.getElem?_append_right (Nat.le_refl _)]
 simp
theorem ptrim_valid (l:List F8) (h:l.length≤255):pvalid (ptrim l)=true:=by
 generalize hn:l.length=n
 induction n generalizing l with
 | zero=>
  rw[List.length_eq_zero_iff.1 hn]
  rfl
 | succ n ih=>
  rcases snoc_cases l with rfl|⟨m,x,rfl⟩
  ·cases hn
  ·by_cases hx:x=0
   ·subst hx
    rw[ptrim_zero]
    simp at hn h
    exact ih m (by omega) hn
   ·rw[ptrim_ne m hx]
    simp only[pvalid,List.length_append,List.length_cons,List.length_nil]at h ⊢
    rw[Nat.zero_add,Nat.add_sub_cancel,getD_last,decide_eq_true (by simpa using h)]
    have h2:(x !=0)=true:=bne_iff_ne.2 hx
    rw[h2]
    simp
theorem ptrim_idem (l:List F8):ptrim (ptrim l)=ptrim l:=by
 generalize hn:l.length=n
 induction n generalizing l with
 | zero=>
  rw[List.length_eq_zero_iff.1 hn]
  rfl
 | succ n ih=>
  rcases snoc_cases l with rfl|⟨m,x,rfl⟩
  ·cases hn
  ·by_cases hx:x=0
   ·subst hx
    rw[ptrim_zero]
    simp at hn
    exact ih m hn
   ·rw[ptrim_ne m hx,ptrim_ne m hx]
theorem bs_snoc (m:List F8) (x:F8):(bs (m++[x])).length=m.length+1:=by simp[bs]
theorem f197_eq (hk:10000≤k) (l:List F8) (hl:l.length<1000) (K:List Int→Option α):f197 k (bs l) 0 K=K (bs (ptrim l)):=by
 simp only[f197,s197,SumT.leaf,SumT.pre,SumT.seq,SumT.cond,SumT.block,SumT.blockP,SumT.loop,zB]
 refine lp_rule (fun m x=> ∃l',l'.length=m∧l'.length<1000∧x=(bs l',0)∧ptrim l'=ptrim l) ?_ (m:=l.length) ⟨l,rfl,hl,rfl,rfl⟩ (by omega)
 rintro m x n ⟨l',rfl,hl',rfl,hp⟩ hn
 rcases snoc_cases l' with rfl|⟨m,x,rfl⟩
 ·rw[←hp]
  rfl
 ·simp only[List.length_append,List.length_cons,List.length_nil]at hl'
  have h1:decide ((((bs (m++[x])).length:Nat):Int)>0)=true:=decide_eq_true (by rw[bs_len];simp)
  have h2:w64 ((((bs (m++[x])).length:Nat):Int)-1)=(m.length:Int):=by
   rw[bs_snoc,w64_id (by omega) (by omega)]
   omega
  simp only[h1,h2,cond_true]
  rw[bs_snoc,gd (by omega),gd (by omega),Int.toNat_natCast,bs_getD,getD_last]
  by_cases hx:x=0
  ·subst hx
   rw[show(ofG 0==(0:Int))=true from rfl,cond_true]
   refine hn m.length _ (by simp) ⟨m,rfl,by omega,?_,by rw[←hp,ptrim_zero]⟩
   rw[bs_take,List.take_left]
  ·rw[show(ofG x==(0:Int))=false by rw[beq_eq_false_iff_ne,ne_eq,ofG_eq_zero];exact hx,cond_false, ←hp,ptrim_ne m hx]
theorem f167_eq (hk:10000≤k) (l:List F8) (hl:l.length<1000) (K:List Int→Option α):f167 k (bs l) K=K (bs (ptrim l)):=by
 simp only[f167,s167,SumT.leaf,SumT.pre,SumT.seq,SumT.cond,SumT.block,SumT.blockP,SumT.loop,zB]
 simp only[f183,s183,SumT.leaf,SumT.pre,SumT.seq,SumT.cond,SumT.block,SumT.blockP,SumT.loop,zB]
 by_cases h0:l=[]
 ·subst h0
  rfl
 ·have h1:(((bs l).length:Int)==0)=false:=by
   rw[bs_len]
   simpa using h0
  have h2:((⟨#[0]⟩:ByteArray).toList==(⟨#[]⟩:ByteArray).toList)=false:=by decide+kernel
  have h3:byteAt ⟨#[0]⟩ 0=0:=by decide+kernel
  rw[h1,cond_false,h2,h3]
  exact f197_eq hk l hl K
theorem f137_eq (hk:10000≤k) (l:List F8) (hl:l.length<1000) (K:List Int→Option α):f137 k (bs l) K=K (bs (ptrim l)):=by
 simp only[f137,s137,SumT.leaf,SumT.pre,SumT.seq,SumT.cond,SumT.block,SumT.blockP,SumT.loop,zB]
 rw[f167_eq hk l hl]
 unfold cloneF
 rw[gd]
 rw[bs_len]
 have:=ptrim_len l
 unfold room
 omega
theorem f110_eq (hk:10000≤k) (l:List F8) (hl:l.length<1000) (K:List Int→Option α):f110 k (bs l) K=K (bs (ptrim l)):=by
 simp only[f110,s110,SumT.leaf,SumT.pre,SumT.seq,SumT.cond,SumT.block,SumT.blockP,SumT.loop,zB]
 rw[bs_len]
 refine lp_rule (fun m x=>x=(bs l,(m:Int))∧m≤l.length∧ptrim (l.take m)=ptrim l) ?_ (m:=l.length) ⟨rfl,Nat.le_refl _,by rw[List.take_length]⟩ (by omega)
 rintro m x n ⟨rfl,hm,hp⟩ hn
 have hend:ptrim (l.take m)=l.take m→(if 0≤(0:Int)∧(0:Int)≤(m:Int)∧(m:Int)≤((bs l).length:Int)then(if((bs l).take ((m:Int).toNat)).length*1≤room then(K ((bs l).take ((m:Int).toNat)))else none)else none)=K (bs (ptrim l)):=fun h=>by
  rw[bs_len,gd (by omega),Int.toNat_natCast,bs_take,bs_len,gd, ←h,hp]
  rw[List.length_take]
  unfold room
  omega
 cases m with
 | zero=>exact hend rfl
 | succ m=>
  have hg:=List.getElem?_eq_getElem (l:=l) (i:=m) (by omega)
  have ht:l.take (m+1)=l.take m++[l.getD m 0]:=by
   rw[List.take_add_one,hg,List.getD_eq_getElem?_getD,hg]
   rfl
  have h1:decide (((m+1:Nat):Int)>0)=true:=decide_eq_true (by omega)
  have h2:w64 (((m+1:Nat):Int)-1)=(m:Int):=by
   rw[w64_id (by omega) (by omega)]
   omega
  simp only[h1,h2,cond_true]
  rw[gd (by rw[bs_len];omega),Int.toNat_natCast,bs_getD]
  by_cases hx:l.getD m 0=0
  ·rw[hx,show(ofG 0==(0:Int))=true from rfl,cond_true]
   refine hn m _ (by omega) ⟨rfl,by omega,?_⟩
   rw[←hp,ht,hx,ptrim_zero]
  ·rw[show(ofG (l.getD m 0)==(0:Int))=false by rw[beq_eq_false_iff_ne,ne_eq,ofG_eq_zero];exact hx,cond_false]
   exact hend (by rw[ht,ptrim_ne _ hx])
theorem valid_walk (p:List F8) (hp:p.length<1000) (K:Bool→Option α):
  (bif decide (((bs p).length:Int)≤255)then(bif ((bs p).length:Int)==0 then(K true)else(if 0≤w64 (((bs p).length:Int)-1)∧w64 (((bs p).length:Int)-1)<((bs p).length:Int)then(K (((bs p).getD ((w64 (((bs p).length:Int)-1)).toNat) (0:Int)) !=0))else none))else(K false))=K (pvalid p):=by
 rw[bs_len]
 by_cases h:p.length≤255
 ·rw[decide_eq_true (by omega),cond_true]
  by_cases h0:p.length=0
  ·rw[h0]
   simp[pvalid,h0]
  ·rw[show((p.length:Int)==0)=false by simp;exact fun e=>h0 (by rw[e];rfl),cond_false]
   have h2:w64 ((p.length:Int)-1)=((p.length-1:Nat):Int):=by
    rw[w64_id (by omega) (by omega)]
    omega
   rw[h2,gd (by omega),Int.toNat_natCast,bs_getD]
   congr 1
   unfold pvalid
   rw[decide_eq_true h,show(p.length==0)=false by simp;exact fun e=>h0 (by rw[e];rfl)]
   rw[Bool.true_and,Bool.false_or,Bool.eq_iff_iff]
   simp[ofG_eq_zero]
 ·rw[decide_eq_false (by omega),cond_false]
  unfold pvalid
  rw[decide_eq_false h]
  rfl
theorem f165_eq (p:List F8) (hp:p.length<1000) (K:Bool→Option α):f165 k (bs p) K=K (pvalid p):=by
 simp only[f165,s165,SumT.leaf,SumT.pre,SumT.seq,SumT.cond,SumT.block,SumT.blockP,SumT.loop,zB]
 exact valid_walk p hp K
theorem f130_eq (p:List F8) (hp:p.length<1000) (K:Bool→Option α):f130 k (bs p) K=K (pvalid p):=by
 simp only[f130,s130,SumT.leaf,SumT.pre,SumT.seq,SumT.cond,SumT.block,SumT.blockP,SumT.loop,zB]
 exact valid_walk p hp K
end
def pmul (p q:List F8):List F8:=run (fun i out=>paddAt out q (p.getD i 0) i) 0 p.length (List.replicate (p.length+q.length-1) 0)
def gen (c:Nat):List F8:=run (fun i g=>pmul g [gpow 2 i,1]) 0 c [1]
theorem gen_succ (c:Nat):gen (c+1)=pmul (gen c) [gpow 2 c,1]:=by
 unfold gen
 rw[run_succ,Nat.zero_add]
theorem gen_ok (c:Nat) (h:c≤8):(gen c).length=c+1∧pvalid (gen c)=true∧(gen c).getD c 0=1:=by
 have: ∀c:Fin 9,(gen c.val).length=c.val+1∧pvalid (gen c.val)=true∧(gen c.val).getD c.val 0=1:=by decide+kernel
 exact this ⟨c,by omega⟩
theorem ext_getD {β:Type} {l m:List β} (d:β) (h1:l.length=m.length) (h2: ∀i,i<l.length→l.getD i d=m.getD i d):l=m:=by
 refine List.ext_getElem h1 fun i hl hm=>?_
 have:=h2 i hl
 rwa[List.getD_eq_getElem?_getD,List.getD_eq_getElem?_getD,List.getElem?_eq_getElem hl,List.getElem?_eq_getElem hm]at this
theorem getD_append {β:Type} (l m:List β) (i:Nat) (d:β):(l++m).getD i d=if i<l.length then l.getD i d else m.getD (i-l.length) d:=by
 rw[List.getD_eq_getElem?_getD,List.getD_eq_getElem?_getD,List.getD_eq_getElem?_getD,List.getElem?_append]
 split<;>rfl
theorem getD_take {β:Type} (l:List β) (n i:Nat) (d:β):(l.take n).getD i d=if i<n then l.getD i d else d:=by
 rw[List.getD_eq_getElem?_getD,List.getD_eq_getElem?_getD,List.getElem?_take]
 split<;>rfl
theorem getD_rep {β:Type} (n i:Nat) (d:β):(List.replicate n d).getD i d=d:=by
 rw[List.getD_eq_getElem?_getD,List.getElem?_replicate]
 split<;>rfl
theorem getD_ge {β:Type} (l:List β) (i:Nat) (d:β) (h:l.length≤i):l.getD i d=d:=by
 rw[List.getD_eq_getElem?_getD,List.getElem?_eq_none h]
 rfl
theorem getD_reverse {β:Type} (l:List β) (i:Nat) (d:β) (h:i<l.length):l.reverse.getD i d=l.getD (l.length-1-i) d:=by
 rw[List.getD_eq_getElem?_getD,List.getD_eq_getElem?_getD,List.getElem?_reverse h]
theorem paddAt_append (p z q:List F8) (t:F8) (a:Nat) (h:a+q.length≤p.length):paddAt (p++z) q t a=paddAt p q t a++z:=by
 refine ext_getD 0 (by simp[paddAt_len]) fun i hi=>?_
 rw[paddAt_getD _ _ _ _ _ (by rw[List.length_append];omega),getD_append,getD_append,paddAt_len,paddAt_getD _ _ _ _ _ h]
 split
 ·rfl
 ·rw[if_neg (by omega),x0]
def pstep (q R:List F8) (a:Nat):List F8:=paddAt R q (gmul (R.getD (a+q.length-1) 0) (ginv (q.getD (q.length-1) 0))) a
theorem pstep_len (q R:List F8) (a:Nat):(pstep q R a).length=R.length:=paddAt_len _ _ _ _
theorem pstep_append (q p z:List F8) (a:Nat) (h0:0<q.length) (h:a+q.length≤p.length):pstep q (p++z) a=pstep q p a++z:=by
 unfold pstep
 rw[paddAt_append _ _ _ _ _ h,getD_append,if_pos (by omega)]
theorem pstep_top (q p:List F8) (a:Nat) (h0:0<q.length) (hq:q.getD (q.length-1) 0≠0) (h:a+q.length=p.length):pstep q p a=(pstep q p a).take (a+q.length-1)++[0]:=by
 refine ext_getD 0 (by simp[pstep_len];omega) fun i hi=>?_
 rw[pstep_len]at hi
 rw[getD_append,List.length_take,pstep_len,getD_take]
 by_cases h2:i<a+q.length-1
 ·rw[if_pos (by omega),if_pos h2]
 ·have e:i=a+q.length-1:=by omega
  rw[if_neg (by omega)]
  have:([0]:List F8).getD (i-min (a+q.length-1) p.length) 0=0:=by
   rw[show i-min (a+q.length-1) p.length=0 by omega]
   rfl
  rw[this]
  unfold pstep
  rw[paddAt_getD _ _ _ _ _ (by omega),if_pos (by omega),e,show a+q.length-1-a=q.length-1 by omega,gmul_assoc,ginv_gmul hq,gmul_one,xx]
def pdiv (q:List F8) (m i:Nat) (p:List F8):List F8:=run (fun i R=>pstep q R (m-i)) 0 i p
theorem pdiv_succ (q p:List F8) (m i:Nat):pdiv q m (i+1) p=pstep q (pdiv q m i p) (m-i):=by
 unfold pdiv
 rw[run_succ,Nat.zero_add]
theorem pdiv_len (q p:List F8) (m i:Nat):(pdiv q m i p).length=p.length:=
 run_inv (fun _ a=>List.length a=p.length) _ _ _ rfl fun j a _ _ h=>by rw[pstep_len,h]
def prem (p q:List F8):List F8:=ptrim (if q.length≤p.length then pdiv q (p.length-q.length) (p.length-q.length+1) p else p)
theorem pdiv_split (q p:List F8) (h0:0<q.length) (hq:q.getD (q.length-1) 0≠0) (hl:q.length≤p.length): ∀i,i≤p.length-q.length+1→
  ∃P,P.length=p.length-i∧pdiv q (p.length-q.length) i p=P++List.replicate i 0
 | 0,_=>⟨p,rfl,by simp[pdiv,run]⟩
 | i+1,hi=>by
  obtain⟨P,h1,h2⟩:=pdiv_split q p h0 hq hl i (by omega)
  refine⟨(pstep q P (p.length-q.length-i)).take (p.length-(i+1)),by rw[List.length_take,pstep_len,h1];omega,?_⟩
  have ht:=pstep_top q P (p.length-q.length-i) h0 hq (by omega)
  rw[show p.length-q.length-i+q.length-1=p.length-(i+1) by omega]at ht
  rw[pdiv_succ,h2,pstep_append _ _ _ _ h0 (by omega),show List.replicate (i+1) (0:F8)=[0]++List.replicate i 0 from rfl, ←List.append_assoc, ←ht]
theorem prem_len (p q:List F8) (h0:0<q.length) (hq:q.getD (q.length-1) 0≠0):(prem p q).length<q.length:=by
 unfold prem
 split
 ·rename_i hl
  obtain⟨P,h1,h2⟩:=pdiv_split q p h0 hq hl _ (Nat.le_refl _)
  rw[h2,ptrim_zeros]
  have:=ptrim_len P
  omega
 ·have:=ptrim_len p
  omega
def enc (data:List F8) (c:Nat):List F8:=data++(List.range c).map fun j=>(prem (ptrim (data++List.replicate c 0).reverse) (gen c)).getD (c-1-j) 0
section
variable {α:Type} {k:Nat}
theorem f168_eq (hk:10000≤k) (p q:List F8) (hp:pvalid p=true) (hq:pvalid q=true) (h1:0<p.length) (h2:0<q.length) (h3:p.length+q.length≤256) (K:List Int→Int→Option α):
  f168 k (bs p) (bs q) K=K (bs (pmul p q)) 0:=by
 simp only[f168,s168,SumT.leaf,SumT.pre,SumT.seq,SumT.cond,SumT.block,SumT.blockP,SumT.loop,zB]
 rw[f165_eq p (by omega),hp]
 simp only[Bool.not_true,cond_false]
 rw[f165_eq q (by omega),hq]
 have e1:((p.length:Int)==0)=false:=by rw[beq_eq_false_iff_ne];omega
 have e2:((q.length:Int)==0)=false:=by rw[beq_eq_false_iff_ne];omega
 have e3:w64 (w64 ((p.length:Int)+(q.length:Int))-1)=((p.length+q.length-1:Nat):Int):=by
  rw[show w64 ((p.length:Int)+(q.length:Int))=(p.length:Int)+(q.length:Int)from w64_id (by omega) (by omega),w64_id (by omega) (by omega)]
  omega
 simp only[bs_len,e1,e2,e3,Bool.not_true,cond_false]
 rw[decide_eq_false (by omega),cond_false,gd (by unfold room;omega),Int.toNat_natCast,bs_rep]
 refine lp_run (fun i out=>(bs q,bs out,bs p,(p.length:Int),(i:Int))) p.length _ (fun i out=>out.length=p.length+q.length-1) (fun out=>K (bs out) 0) ?_ ?_ (by omega) (a:=List.replicate (p.length+q.length-1) 0) List.length_replicate
 ·intro i out n hi hI
  refine⟨?_,by rw[paddAt_len,hI]⟩
  simp (disch:=omega) only[gd,w64_id,wu64_id,room,Int.toNat_natCast,bs_len,List.length_set,List.length_append,List.length_replicate,List.length_cons,List.length_nil,bs_getD,bs_set,ofG_xor,cond_true,cond_false,dlt,dge,dle,dgt,Bool.not_true,Bool.not_false]
  rw[f182w_eq hk _ _ _ _ (by omega) (by omega) (by omega)]
  rfl
 ·intro out n hI
  simp (disch:=omega) only[gd,w64_id,wu64_id,room,Int.toNat_natCast,bs_len,List.length_set,List.length_append,List.length_replicate,List.length_cons,List.length_nil,bs_getD,bs_set,ofG_xor,cond_true,cond_false,dlt,dge,dle,dgt,Bool.not_true,Bool.not_false]
theorem f107_eq (hk:10000≤k) (p q:List F8) (hp:pvalid p=true) (hq:pvalid q=true) (h1:0<p.length) (h2:0<q.length) (h3:p.length+q.length≤256) (K:List Int→Int→Option α):
  f107 k (bs p) (bs q) K=K (bs (pmul p q)) 0:=by
 simp only[f107,s107,SumT.leaf,SumT.pre,SumT.seq,SumT.cond,SumT.block,SumT.blockP,SumT.loop,zB]
 rw[f130_eq p (by omega),hp]
 simp only[Bool.not_true,cond_false]
 rw[f130_eq q (by omega),hq]
 have e1:((p.length:Int)==0)=false:=by rw[beq_eq_false_iff_ne];omega
 have e2:((q.length:Int)==0)=false:=by rw[beq_eq_false_iff_ne];omega
 have e3:w64 ((p.length:Int)+(q.length:Int))=(p.length:Int)+(q.length:Int):=w64_id (by omega) (by omega)
 have e4:w64 ((p.length:Int)+(q.length:Int)-1)=((p.length+q.length-1:Nat):Int):=by
  rw[w64_id (by omega) (by omega)]
  omega
 have e5:w64 ((p.length:Int)+(q.length:Int)-2)=(p.length:Int)+(q.length:Int)-2:=w64_id (by omega) (by omega)
 simp only[bs_len,e1,e2,e3,e4,e5,Bool.not_true,cond_false]
 rw[decide_eq_false (by omega),cond_false,gd (by unfold room;omega),Int.toNat_natCast,bs_rep]
 refine lp_run (fun i out=>(bs p,bs q,bs out,(i:Int))) p.length _ (fun i out=>out.length=p.length+q.length-1) (fun out=>K (bs out) 0) ?_ ?_ (by omega) (a:=List.replicate (p.length+q.length-1) 0) List.length_replicate
 ·intro i out n hi hI
  refine⟨?_,by rw[paddAt_len,hI]⟩
  simp (disch:=omega) only[gd,w64_id,wu64_id,room,Int.toNat_natCast,bs_len,List.length_set,List.length_append,List.length_replicate,List.length_cons,List.length_nil,bs_getD,bs_set,ofG_xor,cond_true,cond_false,dlt,dge,dle,dgt,Bool.not_true,Bool.not_false]
  refine(lp_run (fun j out=>(bs p,bs q,bs out,(i:Int),(j:Int))) q.length (fun j p'=>p'.set (i+j) (p'.getD (i+j) 0^^^gmul (p.getD i 0) (q.getD j 0))) (fun j out=>out.length=p.length+q.length-1) (fun out=>n (bs p,bs q,bs out,(i:Int)+1)) ?_ ?_ (by omega) (a:=out) hI).trans ?_
  ·intro j p' n' hj hI'
   refine⟨?_,by rw[List.length_set,hI']⟩
   have e6:w64 ((i:Int)+(j:Int))=((i+j:Nat):Int):=w64_id (by omega) (by omega)
   simp (disch:=omega) only[gd,w64_id,wu64_id,room,Int.toNat_natCast,bs_len,List.length_set,List.length_append,List.length_replicate,List.length_cons,List.length_nil,bs_getD,bs_set,ofG_xor,cond_true,cond_false,dlt,dge,dle,dgt,Bool.not_true,Bool.not_false,e6,f131_eq hk]
   rfl
  ·intro p' n' hI'
   simp (disch:=omega) only[gd,w64_id,wu64_id,room,Int.toNat_natCast,bs_len,List.length_set,List.length_append,List.length_replicate,List.length_cons,List.length_nil,bs_getD,bs_set,ofG_xor,cond_true,cond_false,dlt,dge,dle,dgt,Bool.not_true,Bool.not_false]
  ·rfl
 ·intro out n hI
  simp (disch:=omega) only[gd,w64_id,wu64_id,room,Int.toNat_natCast,bs_len,List.length_set,List.length_append,List.length_replicate,List.length_cons,List.length_nil,bs_getD,bs_set,ofG_xor,cond_true,cond_false,dlt,dge,dle,dgt,Bool.not_true,Bool.not_false]
theorem f138_eq (hk:10000≤k) (c:Nat) (hc:c≤8) (K:List Int→Option α):f138 k (c:Int) K=K (bs (gen c)):=by
 simp only[f138,s138,SumT.leaf,SumT.pre,SumT.seq,SumT.cond,SumT.block,SumT.blockP,SumT.loop,zB]
 refine lp_run (fun i g=>(bs g,(c:Int),(i:Int))) c _ (fun i g=>g=gen i) (fun g=>K (bs g)) ?_ ?_ (by omega) (a:=[1]) rfl
 ·rintro i g n hi rfl
  obtain⟨g1,g2,g3⟩:=gen_ok i (by omega)
  refine⟨?_,(gen_succ i).symm⟩
  simp (disch:=omega) only[gd,w64_id,wu64_id,room,Int.toNat_natCast,bs_len,List.length_set,List.length_append,List.length_replicate,List.length_cons,List.length_nil,bs_getD,bs_set,ofG_xor,cond_true,cond_false,dlt,dge,dle,dgt,Bool.not_true,Bool.not_false,f145_eq hk]
  rw[show([ofG (gpow 2 i),1]:List Int)=bs [gpow 2 i,1]from rfl,f168_eq hk (gen i) [gpow 2 i,1] g2 rfl (by omega) (by simp) (by rw[g1];simp;omega)]
  rfl
 ·rintro g n rfl
  simp (disch:=omega) only[gd,w64_id,wu64_id,room,Int.toNat_natCast,bs_len,List.length_set,List.length_append,List.length_replicate,List.length_cons,List.length_nil,bs_getD,bs_set,ofG_xor,cond_true,cond_false,dlt,dge,dle,dgt,Bool.not_true,Bool.not_false]
theorem f166_eq (hk:10000≤k) (p q:List F8) (hp:p.length<1000) (h0:0<q.length) (hq:q.getD (q.length-1) 0≠0) (hp2:ptrim p=p) (hql:q.length<1000) (K:List Int→Option α):
  f166 k (bs p) (bs q) (fun _ r=>K r)=K (bs (prem p q)):=by
 simp only[f166,s166,SumT.leaf,SumT.pre,SumT.seq,SumT.cond,SumT.block,SumT.blockP,SumT.loop,zB]
 unfold cloneF
 rw[bs_len,gd (by unfold room;omega)]
 simp only[bs_len]
 by_cases hl:p.length<q.length
 ·rw[decide_eq_true (by omega),cond_true]
  unfold prem
  rw[if_neg (by omega),hp2]
 ·have e1:w64 ((q.length:Int)-1)=((q.length-1:Nat):Int):=by
   rw[w64_id (by omega) (by omega)]
   omega
  have e2:w64 ((p.length:Int)-(q.length:Int))=((p.length-q.length:Nat):Int):=by
   rw[w64_id (by omega) (by omega)]
   omega
  have e3:w64 (((p.length-q.length:Nat):Int)+1)=((p.length-q.length+1:Nat):Int):=w64_id (by omega) (by omega)
  rw[decide_eq_false (by omega),cond_false,e1,e2,e3,gd (by omega),Int.toNat_natCast,bs_getD,f151_eq hk,if_neg hq,gd (by unfold room;omega),Int.toNat_natCast]
  unfold prem
  rw[if_pos (by omega)]
  refine lp_rule (fun m x=> ∃i P out,i+m=p.length-q.length+1∧x=(bs q,bs P,ofG (ginv (q.getD (q.length-1) 0)),out,(m:Int)-1)∧List.length out=p.length-q.length+1∧P.length=p.length-i∧
   pdiv q (p.length-q.length) i p=P++List.replicate i 0) ?_ (m:=p.length-q.length+1) ⟨0,p,List.replicate (p.length-q.length+1) 0,by omega,?_,List.length_replicate,rfl,by simp[pdiv,run]⟩ (by omega)
  ·rintro m x n ⟨i,P,out,hi,rfl,ho,hP,hR⟩ hn
   cases m with
   | zero=>
    simp only[f167_eq hk P (by omega)]
    rw[show i=p.length-q.length+1 by omega]at hR
    rw[hR,ptrim_zeros]
    rfl
   | succ m=>
    have hm:((m+1:Nat):Int)-1=(m:Int):=by omega
    have e4:w64 ((m:Int)+(q.length:Int))=(m:Int)+(q.length:Int):=w64_id (by omega) (by omega)
    have e5:w64 ((m:Int)+(q.length:Int)-1)=((m+q.length-1:Nat):Int):=by
     rw[w64_id (by omega) (by omega)]
     omega
    have e6: ∀x:Int,(out.set m x).getD m 0=x:=fun x=>by rw[getD_set,if_pos ⟨rfl,by omega⟩]
    simp (disch:=omega) only[gd,w64_id,wu64_id,room,Int.toNat_natCast,bs_len,List.length_set,List.length_append,List.length_replicate,List.length_cons,List.length_nil,bs_getD,bs_set,ofG_xor,cond_true,cond_false,dlt,dge,dle,dgt,Bool.not_true,Bool.not_false,hm,e4,e5,f146_eq hk]
    rw[e6,f182w_eq hk _ _ _ _ (by omega) (by omega) (by omega),bs_len,paddAt_len,gd (by omega)]
    refine hn m _ (by omega) ⟨i+1,(pstep q P m).take (m+q.length-1),out.set m (ofG (gmul (P.getD (m+q.length-1) 0) (ginv (q.getD (q.length-1) 0)))),by omega,?_,by rw[List.length_set,ho],by rw[List.length_take,pstep_len];omega,?_⟩
    ·rw[bs_take]
     rfl
    ·rw[pdiv_succ,hR,show p.length-q.length-i=m by omega,pstep_append _ _ _ _ h0 (by omega),show List.replicate (i+1) (0:F8)=[0]++List.replicate i 0 from rfl, ←List.append_assoc, ←pstep_top q P _ h0 hq (by omega)]
  ·congr 4
   omega
theorem f136_eq (hk:10000≤k) (p q:List F8) (hp:p.length<1000) (h0:0<q.length) (hp1:pvalid p=true) (hq1:pvalid q=true) (hp2:ptrim p=p) (hql:q.length<1000) (K:List Int→Int→Option α):
  f136 k (bs p) (bs q) (fun _ r e=>K r e)=K (bs (prem p q)) 0:=by
 simp only[f136,s136,SumT.leaf,SumT.pre,SumT.seq,SumT.cond,SumT.block,SumT.blockP,SumT.loop,zB]
 have hq:q.getD (q.length-1) 0≠0:=by
  unfold pvalid at hq1
  simp only[Bool.and_eq_true,Bool.or_eq_true,beq_iff_eq,bne_iff_ne]at hq1
  exact hq1.2.resolve_left (by omega)
 rw[f165_eq p hp,hp1]
 simp only[Bool.not_true,cond_false]
 rw[f165_eq q hql,hq1,bs_len,show((q.length:Int)==0)=false by rw[beq_eq_false_iff_ne];omega]
 simp only[Bool.not_true,cond_false]
 exact f166_eq hk p q hp h0 hq hp2 hql _
theorem f109_eq (hk:10000≤k) (p q:List F8) (hp:p.length<1000) (h0:0<q.length) (hp1:pvalid p=true) (hq1:pvalid q=true) (hql:q.length<1000) (K:List Int→Int→Option α):
  f109 k (bs p) (bs q) (fun _ r e=>K r e)=K (bs (prem p q)) 0:=by
 simp only[f109,s109,SumT.leaf,SumT.pre,SumT.seq,SumT.cond,SumT.block,SumT.blockP,SumT.loop,zB]
 have hq:q.getD (q.length-1) 0≠0:=by
  unfold pvalid at hq1
  simp only[Bool.and_eq_true,Bool.or_eq_true,beq_iff_eq,bne_iff_ne]at hq1
  exact hq1.2.resolve_left (by omega)
 rw[f130_eq p hp,hp1]
 simp only[Bool.not_true,cond_false]
 rw[f130_eq q hql,hq1,bs_len,show((q.length:Int)==0)=false by rw[beq_eq_false_iff_ne];omega]
 simp only[Bool.not_true,cond_false]
 have e1:w64 ((q.length:Int)-1)=((q.length-1:Nat):Int):=by
  rw[w64_id (by omega) (by omega)]
  omega
 simp only[bs_len,e1,Int.toNat_natCast,bs_getD]
 rw[gd (by unfold room;omega)]
 by_cases hl:p.length<q.length
 ·rw[decide_eq_false (by omega),cond_false,gd (by omega),f133_eq hk _ hq]
  have e2:w64 ((p.length:Int)-(q.length:Int))=(p.length:Int)-(q.length:Int):=w64_id (by omega) (by omega)
  rw[e2]
  unfold prem
  rw[if_neg (by omega)]
  obtain⟨k',rfl⟩: ∃k',k=k'+1:=⟨k-1,by omega⟩
  rw[lpF]
  simp only[]
  rw[decide_eq_false (by omega),cond_false]
  rw[show([]:List Int)=bs []from rfl,f110_eq hk [] (by simp),f110_eq hk p hp]
 ·have e2:w64 ((p.length:Int)-(q.length:Int))=((p.length-q.length:Nat):Int):=by
   rw[w64_id (by omega) (by omega)]
   omega
  have e3:w64 (((p.length-q.length:Nat):Int)+1)=((p.length-q.length+1:Nat):Int):=w64_id (by omega) (by omega)
  rw[decide_eq_true (by omega),cond_true,e2,e3,gd (by unfold room;omega),gd (by omega),f133_eq hk _ hq,Int.toNat_natCast]
  unfold prem
  rw[if_pos (by omega)]
  refine lp_rule (fun m x=> ∃(i:Nat) (out:List F8),i+m=p.length-q.length+1∧x=(bs q,bs (pdiv q (p.length-q.length) i p),bs out,ofG (ginv (q.getD (q.length-1) 0)),(m:Int)-1)∧List.length out=p.length-q.length+1)
   ?_ (m:=p.length-q.length+1) ⟨0,List.replicate (p.length-q.length+1) 0,by omega,?_,List.length_replicate⟩ (by omega)
  ·rintro m x n ⟨i,out,hi,rfl,ho⟩ hn
   cases m with
   | zero=>
    rw[show i=p.length-q.length+1 by omega]
    simp only[f110_eq hk out (by omega),f110_eq hk (pdiv q (p.length-q.length) (p.length-q.length+1) p) (by rw[pdiv_len];omega)]
    rfl
   | succ m=>
    have hm:((m+1:Nat):Int)-1=(m:Int):=by omega
    have e4:w64 ((m:Int)+(q.length:Int))=(m:Int)+(q.length:Int):=w64_id (by omega) (by omega)
    have e5:w64 ((m:Int)+(q.length:Int)-1)=((m+q.length-1:Nat):Int):=by
     rw[w64_id (by omega) (by omega)]
     omega
    have hR:=pdiv_len q p (p.length-q.length) i
    simp (disch:=omega) only[gd,w64_id,wu64_id,room,Int.toNat_natCast,bs_len,List.length_set,List.length_append,List.length_replicate,List.length_cons,List.length_nil,bs_getD,bs_set,ofG_xor,cond_true,cond_false,dlt,dge,dle,dgt,Bool.not_true,Bool.not_false,hm,e4,e5,f131_eq hk]
    generalize hRR:pdiv q (p.length-q.length) i p=R at hR
    refine(lp_run (fun j R'=>(bs q,bs R',bs (out.set m (gmul (R.getD (m+q.length-1) 0) (ginv (q.getD (q.length-1) 0)))),ofG (ginv (q.getD (q.length-1) 0)),(m:Int),ofG (gmul (R.getD (m+q.length-1) 0) (ginv (q.getD (q.length-1) 0))),(j:Int)))
     q.length (fun j p'=>p'.set (m+j) (p'.getD (m+j) 0^^^gmul (gmul (R.getD (m+q.length-1) 0) (ginv (q.getD (q.length-1) 0))) (q.getD j 0))) (fun j R'=>R'.length=p.length)
     (fun R'=>n (bs q,bs R',bs (out.set m (gmul (R.getD (m+q.length-1) 0) (ginv (q.getD (q.length-1) 0)))),ofG (ginv (q.getD (q.length-1) 0)),(m:Int)-1)) ?_ ?_ (by omega) (a:=R) hR).trans ?_
    ·intro j p' n' hj hI'
     refine⟨?_,by rw[List.length_set,hI']⟩
     have e6:w64 ((m:Int)+(j:Int))=((m+j:Nat):Int):=w64_id (by omega) (by omega)
     simp (disch:=omega) only[gd,w64_id,wu64_id,room,Int.toNat_natCast,bs_len,List.length_set,List.length_append,List.length_replicate,List.length_cons,List.length_nil,bs_getD,bs_set,ofG_xor,cond_true,cond_false,dlt,dge,dle,dgt,Bool.not_true,Bool.not_false,e6,f131_eq hk]
     rfl
    ·intro p' n' hI'
     simp (disch:=omega) only[gd,w64_id,wu64_id,room,Int.toNat_natCast,bs_len,List.length_set,List.length_append,List.length_replicate,List.length_cons,List.length_nil,bs_getD,bs_set,ofG_xor,cond_true,cond_false,dlt,dge,dle,dgt,Bool.not_true,Bool.not_false]
    ·refine hn m _ (by omega) ⟨i+1,out.set m (gmul (R.getD (m+q.length-1) 0) (ginv (q.getD (q.length-1) 0))),by omega,?_,by rw[List.length_set,ho]⟩
     rw[pdiv_succ,hRR,show p.length-q.length-i=m by omega]
     rfl
  ·congr 3
   ·exact bs_rep _
   ·congr 1
    omega
end
def vcode (c:DT5):Bool:=bif c.1==1 then(c.2.1==8&&(c.2.2.1==1&&c.2.2.2==1))else(c.1==2&&(decide (1≤c.2.1)&&(decide (c.2.1≤32)&&(decide (1≤c.2.2.1)&&(decide (c.2.2.1≤8)&&(decide (0≤c.2.2.2)&&decide (c.2.2.2≤Int.tdiv c.2.2.1 2)))))))
theorem vcode_sym {c:DT5} (h:vcode c=true) (h2:c.1=2): ∃d ch f:Nat,c=(2,(d:Int),(ch:Int),(f:Int))∧1≤d∧d≤32∧1≤ch∧ch≤8∧f≤ch/2:=by
 obtain⟨kd,da,ch,f⟩:=c
 simp only at h2
 subst h2
 simp[vcode]at h
 obtain⟨h1,h2,h3,h4,h5,h6⟩:=h
 rw[Int.tdiv_eq_ediv_of_nonneg (by omega)]at h6
 refine⟨da.toNat,ch.toNat,f.toNat,?_,by omega,by omega,by omega,by omega,by omega⟩
 rw[Int.toNat_of_nonneg (by omega),Int.toNat_of_nonneg (by omega),Int.toNat_of_nonneg (by omega)]
theorem vcode_bit {c:DT5} (h:vcode c=true) (h2:c.1≠2):c=(1,8,1,1):=by
 obtain⟨kd,da,ch,f⟩:=c
 simp only[vcode]at h h2
 by_cases h1:kd=1
 ·subst h1
  simp only[beq_self_eq_true,cond_true,Bool.and_eq_true,beq_iff_eq]at h
  obtain⟨rfl,rfl,rfl⟩:=h
  rfl
 ·rw[beq_eq_false_iff_ne.2 h1,beq_eq_false_iff_ne.2 h2]at h
  cases h
section
variable {α:Type} {k:Nat}
theorem f65_eq (c:DT5) (K:Bool→Option α):f65 k c K=K (vcode c):=by
 simp only[f65,s65,SumT.leaf,SumT.pre,SumT.seq,SumT.cond,SumT.block,SumT.blockP,SumT.loop,zB]
 unfold vcode
 cases c.1==1
 ·cases c.1==2
  ·rfl
  ·simp only[cond_false,cond_true,Bool.true_and,ge_iff_le]
   by_cases h:1≤c.2.2.1∧c.2.2.1≤8
   ·rw[show w64 (Int.tdiv c.2.2.1 2)=Int.tdiv c.2.2.1 2 by rw[Int.tdiv_eq_ediv_of_nonneg (by omega)];exact w64_id (by omega) (by omega)]
    cases decide (1≤c.2.1)<;>cases decide (c.2.1≤32)<;>cases decide (1≤c.2.2.1)<;>cases decide (c.2.2.1≤8)<;>cases decide (0≤c.2.2.2)<;>rfl
   ·by_cases h1:1≤c.2.2.1
    ·rw[decide_eq_false (show¬c.2.2.1≤8 by omega)]
     cases decide (1≤c.2.1)<;>cases decide (c.2.1≤32)<;>cases decide (1≤c.2.2.1)<;>rfl
    ·rw[decide_eq_false h1]
     cases decide (1≤c.2.1)<;>cases decide (c.2.1≤32)<;>rfl
 ·simp only[cond_true]
  cases c.2.1==8<;>cases c.2.2.1==1<;>rfl
theorem f78_eq (c:DT5) (K:Bool→Option α):f78 k c K=K (vcode c):=by
 have h:=f65_eq (k:=k) c K
 simp only[f65,s65,SumT.leaf,SumT.pre,SumT.seq,SumT.cond,SumT.block,SumT.blockP,SumT.loop,zB]at h
 simp only[f78,s78,SumT.leaf,SumT.pre,SumT.seq,SumT.cond,SumT.block,SumT.blockP,SumT.loop,zB]
 exact h
theorem f122_eq (c:DT5) (K:Bool→Option α):f122 k c K=K (vcode c&&c.1==2):=by
 simp only[f122,s122,SumT.leaf,SumT.pre,SumT.seq,SumT.cond,SumT.block,SumT.blockP,SumT.loop,zB]
 rw[f65_eq]
 cases vcode c<;>rfl
theorem f106_eq (c:DT5) (K:Bool→Option α):f106 k c K=K (vcode c&&c.1==2):=by
 simp only[f106,s106,SumT.leaf,SumT.pre,SumT.seq,SumT.cond,SumT.block,SumT.blockP,SumT.loop,zB]
 rw[f78_eq]
 cases vcode c<;>cases c.1==2<;>rfl
theorem f135w_eq (hk:10000≤k) (l:List F8) (hl:l.length<1000) (K:List Int→Option α):f135w k (bs l) K=K (bs l.reverse):=by
 simp only[f135w,s135w,SumT.leaf,SumT.pre,SumT.seq,SumT.cond,SumT.block,SumT.blockP,SumT.loop,zB]
 rw[bs_len]
 refine lp_rule (fun m x=> ∃(i:Nat) (s:List F8),i+m=l.length∧x=(bs s,(i:Int),(l.length:Int)-1-i)∧s.length=l.length∧i≤l.length-i+1∧
  (∀j,j<l.length→s.getD j 0=if j<i∨l.length-i≤j then l.getD (l.length-1-j) 0 else l.getD j 0)) ?_ (m:=l.length) ⟨0,l,by omega,?_,rfl,by omega,fun j hj=>by rw[if_neg (by omega)]⟩ (by omega)
 ·rintro m x n ⟨i,s,hi,rfl,hs,hi2,hg⟩ hn
  by_cases h:(i:Int)<(l.length:Int)-1-i
  ·have e1:(l.length:Int)-1-i=((l.length-1-i:Nat):Int):=by omega
   rw[e1]at h ⊢
   simp (disch:=omega) only[gd,w64_id,wu64_id,room,Int.toNat_natCast,bs_len,List.length_set,List.length_append,List.length_replicate,List.length_cons,List.length_nil,bs_getD,bs_set,ofG_xor,cond_true,cond_false,dlt,dge,dle,dgt,Bool.not_true,Bool.not_false]
   refine hn (m-1) _ (by omega) ⟨i+1,(s.set i (s.getD (l.length-1-i) 0)).set (l.length-1-i) (s.getD i 0),by omega,?_,?_,by omega,?_⟩
   ·congr 2
    omega
   ·rw[List.length_set,List.length_set,hs]
   ·intro j hj
    rw[getD_set,getD_set,List.length_set]
    by_cases h1:l.length-1-i=j
    ·rw[if_pos ⟨h1,by omega⟩,if_pos (by omega),hg i (by omega),if_neg (by omega)]
     congr 1
     omega
    ·rw[if_neg (by omega)]
     by_cases h2:i=j
     ·rw[if_pos ⟨h2,by omega⟩,if_pos (by omega),hg _ (by omega),if_neg (by omega),h2]
     ·rw[if_neg (by omega),hg j hj]
      by_cases h3:j<i∨l.length-i≤j
      ·rw[if_pos h3,if_pos (by omega)]
      ·rw[if_neg h3,if_neg (by omega)]
  ·simp (disch:=omega) only[gd,w64_id,wu64_id,room,Int.toNat_natCast,bs_len,List.length_set,List.length_append,List.length_replicate,List.length_cons,List.length_nil,bs_getD,bs_set,ofG_xor,cond_true,cond_false,dlt,dge,dle,dgt,Bool.not_true,Bool.not_false]
   congr 1
   congr 1
   refine ext_getD 0 (by rw[hs,List.length_reverse]) fun j hj=>?_
   rw[hs]at hj
   rw[getD_reverse _ _ _ hj,hg j hj]
   split
   ·rfl
   ·congr 1
    omega
 ·rw[w64_id (by omega) (by omega)]
  congr 2
  omega
theorem enc_set (w r:List F8): ∀(m i:Nat),i+m≤w.length→ ∀j,(run (fun i w'=>w'.set (w.length-1-i) (r.getD i 0)) i m w).getD j 0=if i≤w.length-1-j∧w.length-1-j<i+m∧j<w.length then r.getD (w.length-1-j) 0 else w.getD j 0:=by
 intro m i hm j
 have key: ∀(m i:Nat) (v:List F8),v.length=w.length→i+m≤w.length→(run (fun i w'=>w'.set (w.length-1-i) (r.getD i 0)) i m v).getD j 0=if i≤w.length-1-j∧w.length-1-j<i+m∧j<w.length then r.getD (w.length-1-j) 0 else v.getD j 0:=by
  intro m
  induction m with
  | zero=>
   intro i v hv h
   rw[if_neg (by omega)]
   rfl
  | succ m ih=>
   intro i v hv h
   rw[run,ih (i+1) _ (by rw[List.length_set,hv]) (by omega),getD_set]
   by_cases h1:w.length-1-i=j
   ·rw[if_neg (by omega),if_pos ⟨h1,by omega⟩,if_pos (by omega)]
    congr 1
    omega
   ·rw[if_neg (c:=w.length-1-i=j∧w.length-1-i<v.length) (by omega)]
    by_cases h2:i+1≤w.length-1-j∧w.length-1-j<i+1+m∧j<w.length
    ·rw[if_pos h2,if_pos (by omega)]
    ·rw[if_neg h2,if_neg (by omega)]
 exact key m i w rfl hm
theorem enc_of_set (w:List F8) (c:Nat) (r:List F8) (hr:r.length≤c):run (fun i (w':List F8)=>w'.set ((w++List.replicate c 0).length-1-i) (r.getD i 0)) 0 r.length (w++List.replicate c 0)=w++(List.range c).map fun j=>r.getD (c-1-j) 0:=by
 have hlen:(run (fun i (w':List F8)=>w'.set ((w++List.replicate c 0).length-1-i) (r.getD i 0)) 0 r.length (w++List.replicate c 0)).length=w.length+c:=
  run_inv (fun _ a=>List.length a=w.length+c) _ _ _ (by simp) fun j a _ _ h=>by rw[List.length_set,h]
 refine ext_getD 0 (by rw[hlen];simp) fun j hj=>?_
 rw[hlen]at hj
 rw[enc_set _ _ _ _ (by simp;omega),getD_append,getD_append]
 rw[List.length_append,List.length_replicate]
 by_cases h1:j<w.length
 ·rw[if_neg (by omega),if_pos h1,if_pos h1]
 ·rw[if_neg h1,if_neg h1,getD_rep]
  have e2:((List.range c).map fun j=>r.getD (c-1-j) 0).getD (j-w.length) 0=r.getD (w.length+c-1-j) 0:=by
   rw[List.getD_eq_getElem?_getD,List.getElem?_map,List.getElem?_range (by omega)]
   show r.getD (c-1-(j-w.length)) 0=_
   congr 1
   omega
  rw[e2]
  split
  ·rfl
  ·rw[getD_ge _ _ _ (by omega)]
theorem f113_eq (hk:10000≤k) (d c f:Nat) (h1:1≤d) (h2:d≤32) (h3:1≤c) (h4:c≤8) (h5:f≤c/2) (w:List F8) (hw:w.length=d) (K:List Int→Int→Option α):
  f113 k (2,(d:Int),(c:Int),(f:Int)) (bs w) K=K (bs (enc w c)) 0:=by
 have hv:vcode (2,(d:Int),(c:Int),(f:Int))=true:=by
  simp only[vcode]
  rw[Int.tdiv_eq_ediv_of_nonneg (by omega),decide_eq_true (by omega),decide_eq_true (by omega),decide_eq_true (by omega),decide_eq_true (by omega),decide_eq_true (by omega),decide_eq_true (by omega)]
  rfl
 simp only[f113,s113,SumT.leaf,SumT.pre,SumT.seq,SumT.cond,SumT.block,SumT.blockP,SumT.loop,zB]
 rw[f122_eq,hv]
 unfold cloneF
 simp only[bs_rep,Int.toNat_natCast,bs_append,bs_len,List.length_append,List.length_replicate,hw]
 rw[show(true&&((2:Int)==2))=true from rfl,Bool.not_true,cond_false,bne_self_eq_false,cond_false]
 rw[gd (by unfold room;omega),gd (by unfold room;omega),gd (by unfold room;omega),gd (by unfold room;omega),f135w_eq hk _ (by simp;omega),f137_eq hk _ (by simp;omega),f138_eq hk _ h4]
 obtain⟨g1,g2,g3⟩:=gen_ok c h4
 have hp:=ptrim_len (w++List.replicate c 0).reverse
 simp only[List.length_reverse,List.length_append,List.length_replicate]at hp
 have hv2:=ptrim_valid (w++List.replicate c 0).reverse (by simp;omega)
 have hi2:=ptrim_idem (w++List.replicate c 0).reverse
 have hg3:(gen c).getD ((gen c).length-1) 0≠0:=by
  rw[g1,Nat.add_sub_cancel,g3]
  decide
 have hr:=prem_len (ptrim (w++List.replicate c 0).reverse) (gen c) (by omega) hg3
 unfold enc
 generalize gen c=g at g1 g2 g3 hg3 hr ⊢
 generalize ptrim (w++List.replicate c 0).reverse=p at hp hv2 hi2 hr ⊢
 refine(f136_eq hk p g (by omega) (by omega) hv2 g2 hi2 (by omega) _).trans ?_
 generalize prem p g=r at hr ⊢
 rw[←enc_of_set w c r (by omega),bs_len]
 refine lp_run (fun i v=>(bs v,bs r,(r.length:Int),(i:Int))) r.length _ (fun i v=>v.length=d+c) (fun v=>K (bs v) 0) ?_ ?_ (by omega) (a:=w++List.replicate c 0) (by simp[hw])
 ·intro i v n hi hI
  refine⟨?_,by rw[List.length_set,hI]⟩
  have e2:w64 ((v.length:Int)-1)=(v.length:Int)-1:=w64_id (by omega) (by omega)
  have e3:w64 ((v.length:Int)-1-(i:Int))=(((w++List.replicate c 0).length-1-i:Nat):Int):=by
   rw[w64_id (by omega) (by omega)]
   simp[hw]
   omega
  have e4:(w++List.replicate c 0).length=d+c:=by simp[hw]
  simp (disch:=omega) only[bs_len,e2,e3]
  rw[e4]
  simp (disch:=omega) only[gd,w64_id,wu64_id,room,Int.toNat_natCast,bs_len,List.length_set,List.length_append,List.length_replicate,List.length_cons,List.length_nil,bs_getD,bs_set,ofG_xor,cond_true,cond_false,dlt,dge,dle,dgt,Bool.not_true,Bool.not_false]
  rfl
 ·intro v n hI
  simp (disch:=omega) only[gd,w64_id,wu64_id,room,Int.toNat_natCast,bs_len,List.length_set,List.length_append,List.length_replicate,List.length_cons,List.length_nil,bs_getD,bs_set,ofG_xor,cond_true,cond_false,dlt,dge,dle,dgt,Bool.not_true,Bool.not_false]
theorem run_snoc {β:Type} (g:Nat→β) (a:List β): ∀n,run (fun j out=>out++[g j]) 0 n a=a++(List.range n).map g
 | 0=>by simp[run]
 | n+1=>by rw[run_succ,run_snoc g a n,List.range_succ,List.map_append,Nat.zero_add,List.append_assoc];rfl
theorem rev_set (w:List F8) (c:Nat):run (fun i (p:List F8)=>p.set (w.length+c-1-i) (w.getD i 0)) 0 w.length (List.replicate (w.length+c) 0)=(w++List.replicate c 0).reverse:=by
 have hlen:(run (fun i (p:List F8)=>p.set (w.length+c-1-i) (w.getD i 0)) 0 w.length (List.replicate (w.length+c) 0)).length=w.length+c:=
  run_inv (fun _ a=>List.length a=w.length+c) _ _ _ (by simp) fun j a _ _ h=>by rw[List.length_set,h]
 refine ext_getD 0 (by rw[hlen];simp[Nat.add_comm]) fun j hj=>?_
 rw[hlen]at hj
 have h1:=enc_set (List.replicate (w.length+c) 0) w w.length 0 (by simp) j
 rw[List.length_replicate]at h1
 rw[h1,getD_reverse _ _ _ (by simp;omega),getD_append,List.length_append,List.length_replicate,getD_rep,getD_rep]
 by_cases h2:w.length+c-1-j<w.length
 ·rw[if_pos (by omega),if_pos h2]
 ·rw[if_neg (by omega),if_neg h2]
theorem f89_eq (hk:10000≤k) (d c f:Nat) (h1:1≤d) (h2:d≤32) (h3:1≤c) (h4:c≤8) (h5:f≤c/2) (w:List F8) (hw:w.length=d) (K:List Int→Int→Option α):
  f89 k (2,(d:Int),(c:Int),(f:Int)) (bs w) K=K (bs (enc w c)) 0:=by
 have hv:vcode (2,(d:Int),(c:Int),(f:Int))=true:=by
  simp only[vcode]
  rw[Int.tdiv_eq_ediv_of_nonneg (by omega),decide_eq_true (by omega),decide_eq_true (by omega),decide_eq_true (by omega),decide_eq_true (by omega),decide_eq_true (by omega),decide_eq_true (by omega)]
  rfl
 simp only[f89,s89,SumT.leaf,SumT.pre,SumT.seq,SumT.cond,SumT.block,SumT.blockP,SumT.loop,zB]
 rw[f106_eq,hv]
 simp only[bs_len,hw]
 rw[show(true&&((2:Int)==2))=true from rfl,Bool.not_true,cond_false,bne_self_eq_false,cond_false]
 refine lp_run2 (fun i g=>(bs w,((2:Int),(d:Int),(c:Int),(f:Int)),bs g,(i:Int))) c (fun i g=>pmul g [gpow 2 i,1]) (fun i g=>g=gen i) (by omega) (a:=[1]) rfl ?_ ?_
 ·rintro i g n hi rfl
  obtain⟨g1,g2,g3⟩:=gen_ok i (by omega)
  refine⟨?_,(gen_succ i).symm⟩
  simp only[]
  rw[dlt (by omega),cond_true]
  simp (disch:=omega) only[gd,w64_id,wu64_id,room,Int.toNat_natCast,bs_len,List.length_set,List.length_append,List.length_replicate,List.length_cons,List.length_nil,bs_getD,bs_set,ofG_xor,cond_true,cond_false,dlt,dge,dle,dgt,Bool.not_true,Bool.not_false,f108_eq hk]
  rw[show([ofG (gpow 2 i),1]:List Int)=bs [gpow 2 i,1]from rfl,f107_eq hk (gen i) [gpow 2 i,1] g2 rfl (by omega) (by simp) (by rw[g1];simp;omega)]
  rfl
 ·intro n _
  rw[show run (fun i g=>pmul g [gpow 2 i,1]) 0 c [1]=gen c from rfl]
  simp only[]
  rw[dge (by omega),cond_false]
  have e1:w64 ((d:Int)+(c:Int))=((d+c:Nat):Int):=w64_id (by omega) (by omega)
  simp only[e1,Int.toNat_natCast]
  rw[gd (by unfold room;omega),bs_rep]
  obtain⟨g1,g2,g3⟩:=gen_ok c h4
  have hp:=ptrim_len (w++List.replicate c 0).reverse
  simp only[List.length_reverse,List.length_append,List.length_replicate]at hp
  have hv2:=ptrim_valid (w++List.replicate c 0).reverse (by simp;omega)
  have hi2:=ptrim_idem (w++List.replicate c 0).reverse
  have hg3:(gen c).getD ((gen c).length-1) 0≠0:=by
   rw[g1,Nat.add_sub_cancel,g3]
   decide
  have hr:=prem_len (ptrim (w++List.replicate c 0).reverse) (gen c) (by omega) hg3
  unfold enc
  generalize gen c=g at g1 g2 g3 hg3 hr ⊢
  refine lp_run2 (fun i p=>(bs w,((2:Int),(d:Int),(c:Int),(f:Int)),bs g,((d+c:Nat):Int),bs p,(i:Int))) d (fun i (p:List F8)=>p.set (w.length+c-1-i) (w.getD i 0)) (fun i p=>p.length=d+c) (by omega) (a:=List.replicate (d+c) 0) (by simp) ?_ ?_
  ·intro i p n hi hI
   refine⟨?_,by rw[List.length_set,hI]⟩
   have e2:w64 (((d+c:Nat):Int)-1)=((d+c-1:Nat):Int):=by
    rw[w64_id (by omega) (by omega)]
    omega
   have e3:w64 (((d+c-1:Nat):Int)-(i:Int))=((d+c-1-i:Nat):Int):=by
    rw[w64_id (by omega) (by omega)]
    omega
   simp only[]
   rw[dlt (by omega),cond_true]
   simp (disch:=omega) only[gd,w64_id,wu64_id,room,Int.toNat_natCast,bs_len,List.length_set,List.length_append,List.length_replicate,List.length_cons,List.length_nil,bs_getD,bs_set,ofG_xor,cond_true,cond_false,dlt,dge,dle,dgt,Bool.not_true,Bool.not_false,e2,e3,hw]
   rfl
  ·intro n _
   simp only[]
   rw[dge (by omega),cond_false]
   have e4:=rev_set w c
   rw[hw]at e4 ⊢
   rw[e4,f110_eq hk _ (by simp;omega)]
   generalize ptrim (w++List.replicate c 0).reverse=p at hp hv2 hi2 hr ⊢
   refine(f109_eq hk p g (by omega) (by omega) hv2 g2 (by omega) _).trans ?_
   generalize prem p g=r at hr ⊢
   rw[gd (by rw[bs_len];unfold room;omega), ←run_snoc (fun j=>r.getD (c-1-j) 0)]
   refine lp_run (fun i out=>(((d+c:Nat):Int),bs r,bs out,((d+i:Nat):Int))) c (fun j out=>out++[r.getD (c-1-j) 0]) (fun i out=>out.length=d+i) (fun out=>K (bs out) 0) ?_ ?_ (by omega) (a:=w) hw
   ·intro i out n hi hI
    refine⟨?_,by rw[List.length_append,hI];rfl⟩
    have e2:w64 (((d+c:Nat):Int)-1)=((d+c-1:Nat):Int):=by
     rw[w64_id (by omega) (by omega)]
     omega
    have e3:w64 (((d+c-1:Nat):Int)-((d+i:Nat):Int))=((c-1-i:Nat):Int):=by
     rw[w64_id (by omega) (by omega)]
     omega
    simp only[e2,e3,bs_len,List.length_cons,List.length_nil,Int.toNat_natCast]
    rw[dlt (by omega),cond_true,w64_id (by omega) (by omega)]
    by_cases h6:c-1-i<r.length
    ·rw[dlt (by omega),cond_true,gd (by omega),gd (by unfold room;omega),bs_getD]
     rw[show bs out++[ofG (r.getD (c-1-i) 0)]=bs (out++[r.getD (c-1-i) 0])from bs_append out [r.getD (c-1-i) 0]]
     rfl
    ·rw[dge (by omega),cond_false,gd (by unfold room;omega),getD_ge r _ _ (by omega)]
     rw[show bs out++[(0:Int)]=bs (out++[0])from bs_append out [0]]
     rfl
   ·intro out n hI
    simp (disch:=omega) only[gd,w64_id,wu64_id,room,Int.toNat_natCast,bs_len,List.length_set,List.length_append,List.length_replicate,List.length_cons,List.length_nil,bs_getD,bs_set,ofG_xor,cond_true,cond_false,dlt,dge,dle,dgt,Bool.not_true,Bool.not_false]
end
def gsum:Nat→(Nat→F8)→F8
 | 0,_=>0
 | n+1,f=>gsum n f^^^f n
theorem gsum_congr {f g:Nat→F8}: ∀{n:Nat},(∀i,i<n→f i=g i)→gsum n f=gsum n g
 | 0,_=>rfl
 | n+1,h=>by rw[gsum,gsum,gsum_congr fun i hi=>h i (by omega),h n (by omega)]
theorem gsum_zero: ∀{n:Nat} {f:Nat→F8},(∀i,i<n→f i=0)→gsum n f=0
 | 0,_,_=>rfl
 | n+1,f,h=>by rw[gsum,gsum_zero fun i hi=>h i (by omega),h n (by omega),x0]
theorem gsum_add (f g:Nat→F8): ∀n,gsum n (fun i=>f i^^^g i)=gsum n f^^^gsum n g
 | 0=>(x0 _).symm
 | n+1=>by
  simp only[gsum]
  rw[gsum_add f g n,xor_mid]
theorem gsum_mul (c:F8) (f:Nat→F8): ∀n,gsum n (fun i=>gmul c (f i))=gmul c (gsum n f)
 | 0=>(gmul_zero c).symm
 | n+1=>by
  simp only[gsum]
  rw[gsum_mul c f n,gmul_add]
theorem gsum_swap (f:Nat→Nat→F8) (m:Nat): ∀n,gsum n (fun i=>gsum m (f i))=gsum m (fun j=>gsum n fun i=>f i j)
 | 0=>(gsum_zero fun _ _=>rfl).symm
 | n+1=>by
  simp only[gsum]
  rw[gsum_swap f m n, ←gsum_add]
theorem gsum_ext {f:Nat→F8} {n:Nat}: ∀{m:Nat},n≤m→(∀i,n≤i→i<m→f i=0)→gsum m f=gsum n f
 | 0,h,_=>by rw[Nat.le_zero.1 h]
 | m+1,h,h0=>by
  by_cases e:n=m+1
  ·rw[e]
  ·rw[gsum,h0 m (by omega) (by omega),x0,gsum_ext (by omega) fun i h1 h2=>h0 i h1 (by omega)]
theorem gsum_front (f:Nat→F8): ∀n,gsum (n+1) f=f 0^^^gsum n fun i=>f (i+1)
 | 0=>by simp only[gsum];rw[zx,x0]
 | n+1=>by rw[gsum,gsum_front f n,gsum,BitVec.xor_assoc]
theorem gsum_rev (f:Nat→F8): ∀n,gsum n f=gsum n fun i=>f (n-1-i)
 | 0=>rfl
 | n+1=>by
  rw[gsum_front (fun i=>f (n+1-1-i)) n,gsum,gsum_rev f n,BitVec.xor_comm]
  congr 1
  refine gsum_congr fun i hi=>?_
  congr 1
  omega
theorem gsum_shift (f:Nat→F8) (a:Nat): ∀n,gsum (a+n) (fun i=>if a≤i then f (i-a)else 0)=gsum n f
 | 0=>gsum_zero fun i hi=>by rw[if_neg (by omega)]
 | n+1=>by
  rw[←Nat.add_assoc,gsum,gsum_shift f a n,if_pos (by omega),gsum]
  congr 2
  omega
theorem gsum_one {f:Nat→F8} {n k:Nat} (hk:k<n) (h: ∀i,i<n→i≠k→f i=0):gsum n f=f k:=by
 rw[gsum_ext (n:=k+1) (by omega) fun i h1 h2=>h i h2 (by omega),gsum,gsum_zero fun i hi=>h i (by omega) (by omega),zx]
section
variable (u:Nat→F8)
def Gn (C:Nat→F8) (L N:Nat):Prop:= ∀i,L≤i→i<N→gsum (L+1) (fun j=>gmul (C j) (u (i-j)))=0
variable {u}
theorem Gn.le {C:Nat→F8} {L N M:Nat} (h:Gn u C L N) (hm:M≤N):Gn u C L M:=fun i h1 h2=>h i h1 (by omega)
theorem massey {B C:Nat→F8} {LB L N:Nat} (hB:Gn u B LB N) (hd:gsum (LB+1) (fun j=>gmul (B j) (u (N-j)))≠0) (hC:Gn u C L (N+1)) (hC0:C 0=1):N+1≤L+LB:=by
 refine Nat.lt_of_not_le fun hle=>hd ?_
 have h1:gsum (LB+1) (fun i=>gsum (L+1) fun j=>gmul (gmul (B i) (C j)) (u (N-i-j)))=0:=by
  refine gsum_zero fun i hi=>?_
  have:=hC (N-i) (by omega) (by omega)
  rw[show gsum (L+1) (fun j=>gmul (gmul (B i) (C j)) (u (N-i-j)))=gsum (L+1) (fun j=>gmul (B i) (gmul (C j) (u (N-i-j))))from gsum_congr fun j _=>gmul_assoc _ _ _,gsum_mul,this,gmul_zero]
 rw[gsum_swap,gsum_front,gsum_zero (n:=L),x0,hC0]at h1
 ·rw[←h1]
  exact gsum_congr fun i _=>by rw[gmul_one,Nat.sub_zero]
 ·intro j hj
  have:=hB (N-(j+1)) (by omega) (by omega)
  rw[show gsum (LB+1) (fun i=>gmul (gmul (B i) (C (j+1))) (u (N-i-(j+1))))=gsum (LB+1) (fun i=>gmul (C (j+1)) (gmul (B i) (u (N-(j+1)-i))))from gsum_congr fun i _=>by
   rw[gmul_comm (B i),gmul_assoc]
   congr 3
   omega,gsum_mul,this,gmul_zero]
def HS (u:Nat→F8) (N v:Nat) (l:Nat→F8):Prop:= ∀i,i+v<N→gsum v (fun k=>gmul (l k) (u (i+k)))=u (i+v)
theorem hs_gn {N v:Nat} {l C:Nat→F8} (h0:C 0=1) (hl: ∀k,k<v→l k=C (v-k)):HS u N v l↔Gn u C v N:=by
 have key: ∀i,gsum (v+1) (fun j=>gmul (C j) (u (i+v-j)))=u (i+v)^^^gsum v (fun k=>gmul (l k) (u (i+k))):=fun i=>by
  rw[gsum_front,h0,one_gmul,Nat.sub_zero,gsum_rev (fun k=>gmul (l k) (u (i+k)))]
  congr 1
  refine gsum_congr fun j hj=>?_
  rw[hl _ (by omega)]
  congr 2
  ·omega
  ·omega
 constructor
 ·intro h i h1 h2
  have:=key (i-v)
  rw[show i-v+v=i by omega]at this
  rw[this,h (i-v) (by omega),show i-v+v=i by omega,xx]
 ·intro h i hi
  have:=h (i+v) (by omega) hi
  rw[key,xor_eq_zero]at this
  exact this.symm
def Least (u:Nat→F8) (N L:Nat):Prop:= ∀C' L',C' 0=1→Gn u C' L' N→L≤L'
theorem no_less {N L v:Nat} {l:Nat→F8} (hL:Least u N L) (h:HS u N v l):L≤v:=
 hL (fun j=>if j=0 then 1 else l (v-j)) v rfl ((hs_gn rfl fun k hk=>by
  rw[if_neg (by omega)]
  congr 1
  omega).1 h)
theorem last_ne {δ:Nat→F8}: ∀{L:Nat},(∃k,k<L∧δ k≠0)→ ∃d,d<L∧δ d≠0∧ ∀k,d<k→k<L→δ k=0
 | 0,⟨k,h,_⟩=>absurd h (Nat.not_lt_zero _)
 | L+1,⟨k,h,hk⟩=>by
  by_cases hz:δ L=0
  ·obtain⟨d,h1,h2,h3⟩:=last_ne (δ:=δ) (L:=L) ⟨k,by
    by_cases e:k=L
    ·subst e;exact absurd hz hk
    ·omega,hk⟩
   refine⟨d,by omega,h2,fun j hj1 hj2=>?_⟩
   by_cases e:j=L
   ·rw[e,hz]
   ·exact h3 j hj1 (by omega)
  ·exact⟨L,by omega,hz,fun j h1 h2=>by omega⟩
theorem hs_unique {N L:Nat} {l l':Nat→F8} (hL:Least u N L) (h2:2*L≤N) (h:HS u N L l) (h':HS u N L l'): ∀k,k<L→l k=l' k:=by
 intro k hk
 refine Classical.byContradiction fun hne=>?_
 obtain⟨d,hd,hdn,hdz⟩:=last_ne (δ:=fun k=>l k^^^l' k) ⟨k,hk,fun e=>hne (xor_eq_zero.1 e)⟩
 let δ:Nat→F8:=fun k=>l k^^^l' k
 let t:Nat→F8:=fun i=>gsum (d+1) fun k=>gmul (δ k) (u (i+k))
 have t0: ∀i,i+L<N→t i=0:=fun i hi=>by
  show gsum (d+1) (fun k=>gmul (δ k) (u (i+k)))=0
  rw[←gsum_ext (m:=L) (by omega) fun j h1 h2=>by rw[show δ j=0 from hdz j (by omega) h2,zero_gmul]]
  rw[show gsum L (fun k=>gmul (δ k) (u (i+k)))=gsum L (fun k=>gmul (l k) (u (i+k))^^^gmul (l' k) (u (i+k)))from gsum_congr fun j _=>add_gmul _ _ _,gsum_add,h i hi,h' i hi,xx]
 have tz: ∀i,i+d<N→t i=0:=by
  intro i
  induction i using Nat.strongRecOn with
  | ind i ih=>
   intro hi
   by_cases hs:i+L<N
   ·exact t0 i hs
   ·have e:t i=gsum L fun j=>gmul (l j) (t (i-L+j)):=by
     show gsum (d+1) (fun k=>gmul (δ k) (u (i+k)))=_
     rw[show gsum (d+1) (fun k=>gmul (δ k) (u (i+k)))=gsum (d+1) (fun k=>gsum L fun j=>gmul (gmul (δ k) (l j)) (u (i+k-L+j)))from gsum_congr fun k hk=>by
      have:=h (i+k-L) (by omega)
      rw[show i+k-L+L=i+k by omega]at this
      rw[←this, ←gsum_mul]
      exact gsum_congr fun j _=>(gmul_assoc _ _ _).symm,gsum_swap]
     refine gsum_congr fun j hj=>?_
     rw[←gsum_mul]
     refine gsum_congr fun k hk=>?_
     rw[gmul_comm (δ k),gmul_assoc]
     congr 3
     omega
    rw[e]
    exact gsum_zero fun j hj=>by rw[ih (i-L+j) (by omega) (by omega),gmul_zero]
 have hm:HS u N d fun k=>gmul (ginv (δ d)) (δ k):=fun i hi=>by
  have h3:=tz i hi
  have h3:gsum d (fun k=>gmul (δ k) (u (i+k)))^^^gmul (δ d) (u (i+d))=0:=h3
  rw[xor_eq_zero]at h3
  rw[show gsum d (fun k=>gmul (gmul (ginv (δ d)) (δ k)) (u (i+k)))=gsum d (fun k=>gmul (ginv (δ d)) (gmul (δ k) (u (i+k))))from gsum_congr fun _ _=>gmul_assoc _ _ _,gsum_mul,h3, ←gmul_assoc,ginv_gmul hdn,one_gmul]
 have:=no_less hL hm
 omega
theorem hs_more {N L v:Nat} {l:Nat→F8} (h:HS u N L l) (hv:L<v): ∃l1 l2,HS u N v l1∧HS u N v l2∧ ∃k,k<v∧l1 k≠l2 k:=by
 let l1:Nat→F8:=fun k=>if v-L≤k then l (k-(v-L))else 0
 let e:Nat→F8:=fun k=>if k<L then l k else if k=L then 1 else 0
 have h1:HS u N v l1:=fun i hi=>by
  have h3:=h (i+(v-L)) (by omega)
  rw[show i+(v-L)+L=i+v by omega]at h3
  rw[←h3, ←gsum_shift _ (v-L) L,show v-L+L=v by omega]
  refine gsum_congr fun k hk=>?_
  show gmul (if v-L≤k then l (k-(v-L))else 0) (u (i+k))=_
  split
  ·congr 2
   omega
  ·exact zero_gmul _
 refine⟨l1,fun k=>l1 k^^^e k,h1,fun i hi=>?_,L,hv,fun h=>?_⟩
 ·rw[show gsum v (fun k=>gmul (l1 k^^^e k) (u (i+k)))=gsum v (fun k=>gmul (l1 k) (u (i+k))^^^gmul (e k) (u (i+k)))from gsum_congr fun j _=>add_gmul _ _ _,gsum_add,h1 i hi]
  have:gsum v (fun k=>gmul (e k) (u (i+k)))=0:=by
   rw[gsum_ext (n:=L+1) (by omega) fun j h1 h2=>by
    show gmul (if j<L then l j else if j=L then 1 else 0) _=0
    rw[if_neg (by omega),if_neg (by omega),zero_gmul]]
   show gsum L (fun k=>gmul (e k) (u (i+k)))^^^gmul (if L<L then l L else if L=L then 1 else 0) (u (i+L))=0
   rw[if_neg (by omega),if_pos rfl,one_gmul, ←h i (by omega),xor_eq_zero]
   refine gsum_congr fun k hk=>?_
   show gmul (if k<L then l k else _) _=_
   rw[if_pos hk]
  rw[this,x0]
 ·have:l1 L^^^l1 L=l1 L^^^(l1 L^^^e L):=congrArg (l1 L^^^ ·) h
  rw[←BitVec.xor_assoc,xx,zx]at this
  have e1:e L=1:=by
   show(if L<L then l L else if L=L then 1 else 0)=(1:F8)
   rw[if_neg (by omega),if_pos rfl]
  rw[e1]at this
  exact absurd this (by decide)
end
end Go.Proofs.YtkeiedikiiccpaaGreatDoor.Am
