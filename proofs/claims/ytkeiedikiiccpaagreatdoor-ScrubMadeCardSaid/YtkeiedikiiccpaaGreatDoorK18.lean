/- A part of the proof of ScrubMade: lemmas. No conditions beyond those of each lemma. -/
import Derived.Test.YtkeiedikiiccpaaGreatDoorK17
set_option linter.all false
namespace Go.Proofs.YtkeiedikiiccpaaGreatDoor.Am
open Go
section
variable {α:Type} {k:Nat} {s:DT4} {c:DT5} {ws:List DT0} {fs:List DT1}
theorem VM.oks (hk:10000≤k) (h:VM s c ws fs):Ok k ws fs:=⟨h.mb,fun w hw=>by
 have:=(h.ok w hw).2.2.1
 have:=chips_le h.cd
 omega⟩
theorem lk0:LkOk (0,[],[]):=⟨Nat.zero_le _,Nat.zero_le _⟩
theorem f53_eq (hk:10000≤k) (h:VM s c ws fs) (t:Int) (h0:0≤t) (h1:t<szOf s) {E:List Int} (hE:E.length≤100) (K:DT8→Int→Option α):
  f53 k (mk s c ws fs) t E K=bif eok c E !=0 then K (0,[],[]) (eok c E)else f87 k (mk s c ws fs) (seenW fs (atP4 s t) (lkW t (chips c).toNat ws)) E fun r=>K r 0:=by
 simp only[f53,s53,SumT.leaf,SumT.pre,SumT.seq,SumT.cond,SumT.block,SumT.blockP,SumT.loop,zB]
 simp only[f85,s85,SumT.leaf,SumT.pre,SumT.seq,SumT.cond,SumT.block,SumT.blockP,SumT.loop,zB]
 rw[f57_eq hk h t h0 h1,z0,cond_false,f88_eq hk h t h0 h1,cond_false]
 show f86 k c E _=_
 rw[f86_eq hk c h.cd E hE]
theorem f57_bad (hk:10000≤k) (hm:MB ws fs) (hv:vmem s c ws fs=false) (t:Int) (K:DT0→Int→Option α):f57 k (mk s c ws fs) t K=K (0,[],false) 1:=by
 simp only[f57,s57,SumT.leaf,SumT.pre,SumT.seq,SumT.cond,SumT.block,SumT.blockP,SumT.loop,zB]
 rw[f47_eq hk s c ws fs hm,hv,Bool.not_false,cond_true]
theorem f57_out (hk:10000≤k) (h:VM s c ws fs) (t:Int) (ht:t<0∨t≥szOf s) (K:DT0→Int→Option α):f57 k (mk s c ws fs) t K=K (0,[],false) 2:=by
 simp only[f57,s57,SumT.leaf,SumT.pre,SumT.seq,SumT.cond,SumT.block,SumT.blockP,SumT.loop,zB]
 rw[f47_eq hk s c ws fs h.mb,h.mem,Bool.not_true,cond_false]
 by_cases h0:t<0
 ·rw[decide_eq_true h0,cond_true]
 ·rw[decide_eq_false h0,cond_false,f13_eq hk,decide_eq_true (show t≥szOf s by omega),cond_true]
theorem f53_err {e:Int} (he:e≠0) {m:DT2} {t:Int} (h: ∀{β:Type} (K:DT0→Int→Option β),f57 k m t K=K (0,[],false) e) (E:List Int) (K:DT8→Int→Option α):f53 k m t E K=K (0,[],[]) e:=by
 simp only[f53,s53,SumT.leaf,SumT.pre,SumT.seq,SumT.cond,SumT.block,SumT.blockP,SumT.loop,zB]
 simp only[f85,s85,SumT.leaf,SumT.pre,SumT.seq,SumT.cond,SumT.block,SumT.blockP,SumT.loop,zB]
 rw[h,bne_iff_ne.2 he,cond_true,cond_true]
theorem demand_both (hk:10000≤k) (ho:Ok k ws fs) (hb: ∀w∈ws,Byt w.2.1) (t:Int) {E:List Int} (hE:E.length≤100):
  ∃(ws':List DT0) (r:DT8) (e:Int),Ok k ws' fs∧LkOk r∧(∀K:DT2→DT8→Int→Option α,f18 k (mk s c ws fs) t E K=K (mk s c ws' fs) r e)∧(∀K:DT2→DT8→Int→Option α,f26 k (mk s c ws fs) t E K=K (mk s c ws' fs) r e):=by
 simp only[f18,s18,SumT.leaf,SumT.pre,SumT.seq,SumT.cond,SumT.block,SumT.blockP,SumT.loop,zB]
 simp only[f26,s26,SumT.leaf,SumT.pre,SumT.seq,SumT.cond,SumT.block,SumT.blockP,SumT.loop,zB]
 simp only[f39_eq hk s c ws fs ho.mb,f40_eq hk s c ws fs ho.mb]
 cases hv:vmem s c ws fs
 ·refine⟨ws,(0,[],[]),1,ho,lk0,fun K=>rfl,fun K=>?_⟩
  rw[f53_err (by decide) (fun K=>f57_bad hk ho.mb hv t K) E]
  show f48 k (mk s c ws fs) _=_
  rw[f48_eq hk s c ws fs ho.mb]
 have h:=vm_of hv hb
 simp only[Bool.not_true,cond_false]
 have hsz: ∀(a:Option α) (b:Option α),(bif decide (t≥szOf ((mk s c ws fs).1,(mk s c ws fs).2.1,(mk s c ws fs).2.2.1,(mk s c ws fs).2.2.2.1,(mk s c ws fs).2.2.2.2.1,(mk s c ws fs).2.2.2.2.2.1))then a else b)=bif decide (t≥szOf s)then a else b:=fun a b=>rfl
 simp only[f41_eq hk,hsz]
 by_cases hin:t<0∨t≥szOf s
 ·refine⟨ws,(0,[],[]),2,ho,lk0,fun K=>?_,fun K=>?_⟩
  ·by_cases h0:t<0
   ·rw[decide_eq_true h0,cond_true]
   ·rw[decide_eq_false h0,cond_false,decide_eq_true (by omega),cond_true]
  ·rw[f53_err (by decide) (fun K=>f57_out hk h t hin K) E]
   show f48 k (mk s c ws fs) _=_
   rw[f48_eq hk s c ws fs ho.mb]
 have h0:0≤t:=by omega
 have h1:t<szOf s:=by omega
 have pc:((mk s c ws fs).2.2.2.2.2.2.1,(mk s c ws fs).2.2.2.2.2.2.2.1,(mk s c ws fs).2.2.2.2.2.2.2.2.1,(mk s c ws fs).2.2.2.2.2.2.2.2.2.1)=c:=rfl
 rw[decide_eq_false (by omega),decide_eq_false (by omega)]
 simp only[cond_false,pc,f42_eq hk c E hE,f53_eq hk h t h0 h1 hE]
 by_cases he:eok c E=0
 ·obtain⟨ws',r,v1,v2,v3,v4,v5⟩:=look_both (α:=α) hk h t h0 h1 he
  rw[he]
  simp only[z0,cond_false]
  refine⟨ws',r,0,v1.oks hk,v2,fun K=>v3 _,fun K=>?_⟩
  rw[v5,v4]
  exact f48_eq hk s c ws' fs v1.mb _
 ·refine⟨ws,(0,[],[]),eok c E,ho,lk0,fun K=>?_,fun K=>?_⟩
  ·rw[bne_iff_ne.2 he,cond_true]
  ·rw[bne_iff_ne.2 he,cond_true,cond_true]
   exact f48_eq hk s c ws fs ho.mb _
def fstep (size:Int) (L:List DT0×Int→List DT0×DT8) (a:Int×List DT0×List DT6):Int×List DT0×List DT6:=
 (Int.tmod (w64 (a.1+1)) size,(L (a.2.1,a.1)).1,bif (L (a.2.1,a.1)).2.1==1||(L (a.2.1,a.1)).2.1==2 then a.2.2++[(a.1,(L (a.2.1,a.1)).2.1,(L (a.2.1,a.1)).2.2.1,(L (a.2.1,a.1)).2.2.2)]else a.2.2)
theorem patrol_both (hk:10000≤k) (ho:Ok k ws fs) (hb: ∀w∈ws,Byt w.2.1) (t cnt:Int) {E:List Int} (hE:E.length≤100):
  ∃(ws':List DT0) (t':Int) (l:List DT6) (e:Int),Ok k ws' fs∧FoOk l∧(∀K:DT2→Int→List DT6→Int→Option α,f27 k (mk s c ws fs) t cnt E K=K (mk s c ws' fs) t' l e)∧(∀K:DT2→Int→List DT6→Int→Option α,f28 k (mk s c ws fs) t cnt E K=K (mk s c ws' fs) t' l e):=by
 have fo0:FoOk []:=⟨Nat.zero_le _,fun x h=>nomatch h⟩
 simp only[f27,s27,SumT.leaf,SumT.pre,SumT.seq,SumT.cond,SumT.block,SumT.blockP,SumT.loop,zB]
 simp only[f28,s28,SumT.leaf,SumT.pre,SumT.seq,SumT.cond,SumT.block,SumT.blockP,SumT.loop,zB]
 simp only[f55,s55,SumT.leaf,SumT.pre,SumT.seq,SumT.cond,SumT.block,SumT.blockP,SumT.loop,zB]
 simp only[f39_eq hk s c ws fs ho.mb,f40_eq hk s c ws fs ho.mb,f47_eq hk s c ws fs ho.mb,f48_eq hk s c ws fs ho.mb,f41_eq hk,f13_eq hk]
 cases hv:vmem s c ws fs
 ·exact⟨ws,t,[],1,ho,fo0,fun K=>rfl,fun K=>rfl⟩
 have h:=vm_of hv hb
 simp only[Bool.not_true,cond_false]
 have ps:szOf ((mk s c ws fs).1,(mk s c ws fs).2.1,(mk s c ws fs).2.2.1,(mk s c ws fs).2.2.2.1,(mk s c ws fs).2.2.2.2.1,(mk s c ws fs).2.2.2.2.2.1)=szOf s:=rfl
 simp only[ps]
 cases c1:decide (t<0)
 case true=>exact⟨ws,t,[],2,ho,fo0,fun K=>rfl,fun K=>rfl⟩
 cases c2:decide (t≥szOf s)
 case true=>exact⟨ws,t,[],2,ho,fo0,fun K=>rfl,fun K=>rfl⟩
 cases c3:decide (cnt<0)
 case true=>exact⟨ws,t,[],2,ho,fo0,fun K=>rfl,fun K=>rfl⟩
 cases c4:decide (cnt>4096)
 case true=>exact⟨ws,t,[],2,ho,fo0,fun K=>rfl,fun K=>rfl⟩
 have c1:=of_decide_eq_false c1
 have c2:=of_decide_eq_false c2
 have c3:=of_decide_eq_false c3
 have c4:=of_decide_eq_false c4
 have h0:0≤t:=by omega
 have h1:t<szOf s:=by omega
 have pc:((mk s c ws fs).2.2.2.2.2.2.1,(mk s c ws fs).2.2.2.2.2.2.2.1,(mk s c ws fs).2.2.2.2.2.2.2.2.1,(mk s c ws fs).2.2.2.2.2.2.2.2.2.1)=c:=rfl
 simp only[cond_false,pc,f42_eq hk c E hE,f53_eq hk h t h0 h1 hE]
 by_cases he:eok c E=0
 case neg=>
  rw[bne_iff_ne.2 he]
  refine⟨ws,t,[],eok c E,ho,fo0,fun K=>rfl,fun K=>?_⟩
  rw[cond_true,cond_true]
 rw[he]
 simp only[z0,cond_false]
 have hL: ∀x:List DT0×Int, ∃y:List DT0×DT8,VM s c x.1 fs→0≤x.2→x.2<szOf s→VM s c y.1 fs∧LkOk y.2∧(∀K:DT2→DT8→Option α,f43w k (mk s c x.1 fs) x.2 E K=K (mk s c y.1 fs) y.2)∧(∀K:DT2→DT8→Option α,f54 k (mk s c x.1 fs) x.2 E K=K (mk s c y.1 fs) y.2):=fun x=>by
  by_cases hx:VM s c x.1 fs∧0≤x.2∧x.2<szOf s
  ·obtain⟨ws',r,v1,v2,v3,v4,_⟩:=look_both (α:=α) hk hx.1 x.2 hx.2.1 hx.2.2 he
   exact⟨(ws',r),fun _ _ _=>⟨v1,v2,v3,v4⟩⟩
  ·exact⟨([],(0,[],[])),fun a b d=>absurd ⟨a,b,d⟩ hx⟩
 obtain⟨L,hL⟩:=Classical.axiomOfChoice hL
 have hsz:=szOf_le s
 obtain⟨_,_,_,_,_,_,v5⟩:=look_both (α:=α) hk h t h0 h1 he
 obtain⟨N,rfl⟩: ∃N:Nat,cnt=N:=⟨cnt.toNat,by omega⟩
 let Inv:=fun(i:Nat) (a:Int×List DT0×List DT6)=>0≤a.1∧a.1<szOf s∧VM s c a.2.1 fs∧List.length a.2.2≤i∧ ∀x∈a.2.2,LkOk (rdOf x)
 have hI0:Inv 0 (t,ws,[]):=⟨h0,h1,h,Nat.le_refl _,fun x h=>nomatch h⟩
 have hstep: ∀i a,Inv i a→Inv (i+1) (fstep (szOf s) L a):=by
  rintro i ⟨n,w,l⟩ ⟨a1,a2,a3,a4,a5⟩
  obtain⟨b1,b2,_,_⟩:=hL (w,n) a3 a1 a2
  have a1:0≤n:=a1
  have a2:n<szOf s:=a2
  have e:Int.tmod (w64 (n+1)) (szOf s)=(n+1)%szOf s:=by rw[w64_id (by omega) (by omega),Int.tmod_eq_emod_of_nonneg (by omega)]
  refine⟨?_,?_,b1,?_,?_⟩
  ·show 0≤Int.tmod (w64 (n+1)) (szOf s)
   rw[e]
   exact Int.emod_nonneg _ (by omega)
  ·show Int.tmod (w64 (n+1)) (szOf s)<_
   rw[e]
   exact Int.emod_lt_of_pos _ (by omega)
  ·have a4:l.length≤i:=a4
   show List.length (bif _ then _ else l)≤_
   cases (L (w,n)).2.1==1||(L (w,n)).2.1==2
   ·rw[cond_false]
    omega
   ·rw[cond_true,List.length_append]
    simp
    omega
  ·intro x hx
   have hx:x∈(bif (L (w,n)).2.1==1||(L (w,n)).2.1==2 then l++[(n,(L (w,n)).2.1,(L (w,n)).2.2.1,(L (w,n)).2.2.2)]else l):=hx
   cases hc:(L (w,n)).2.1==1||(L (w,n)).2.1==2<;>rw[hc]at hx
   ·exact a5 x hx
   ·rcases List.mem_append.1 hx with hx|hx
    ·exact a5 x hx
    ·rw[List.mem_singleton.1 hx]
     exact b2
 have hIN:Inv N (run (fun _ a=>fstep (szOf s) L a) 0 N (t,ws,[])):=by
  have h:=run_inv (f:=fun _ a=>fstep (szOf s) L a) Inv N 0 _ hI0 fun j a _ _ hI=>hstep _ a hI
  rw[Nat.zero_add]at h
  exact h
 have hN:N≤4096:=by omega
 generalize hR:run (fun _ a=>fstep (szOf s) L a) 0 N (t,ws,[])=R at hIN
 obtain⟨r1,r2,r3,r4,r5⟩:=hIN
 refine⟨R.2.1,R.1,R.2.2,0,r3.oks hk,⟨by omega,r5⟩,fun K=>?_,fun K=>?_⟩
 ·refine lp_run2 (fun i (a:Int×List DT0×List DT6)=>(a.1,E,zT2,mk s c a.2.1 fs,szOf s,a.2.2,(N:Int),(i:Int))) N (fun _ a=>fstep (szOf s) L a) Inv (by omega) (a:=(t,ws,[])) hI0 ?_ ?_
  ·rintro i ⟨n,w,l⟩ q hi hI
   have hI':=hI
   refine⟨?_,hstep i _ hI⟩
   obtain⟨a1,a2,a3,a4,a5⟩:=hI'
   obtain⟨b1,b2,b3,b4⟩:=hL (w,n) a3 a1 a2
   have a4:l.length≤i:=a4
   simp only[]
   rw[dlt (by omega),cond_true]
   refine(b3 _).trans ?_
   unfold fstep
   have g: ∀x:DT6,(l.length+[x].length)*64≤room:=fun x=>by simp;unfold room;omega
   have gs: ¬szOf s=0:=by omega
   simp only[if_pos (g _),if_neg gs]
   rw[w64_id (x:=(i:Int)+1) (by omega) (by omega)]
   cases h1:(L (w,n)).2.1==1
   ·cases h2:(L (w,n)).2.1==2
    ·rfl
    ·rfl
   ·rfl
  ·intro q _
   rw[hR]
   simp only[]
   rw[dge (by omega),cond_false]
 ·rw[v5]
  refine Eq.trans (lp_run2 (fun i (a:Int×List DT0×List DT6)=>(a.1,(N:Int)-(i:Int),E,mk s c a.2.1 fs,zT2,szOf s,a.2.2)) N (fun _ a=>fstep (szOf s) L a) Inv (r:=K (mk s c R.2.1 fs) R.1 R.2.2 0) (by omega) (a:=(t,ws,[])) hI0 ?_ ?_) rfl
  ·rintro i ⟨n,w,l⟩ q hi hI
   have hI':=hI
   refine⟨?_,hstep i _ hI⟩
   obtain⟨a1,a2,a3,a4,a5⟩:=hI'
   obtain⟨b1,b2,b3,b4⟩:=hL (w,n) a3 a1 a2
   have a4:l.length≤i:=a4
   simp only[]
   rw[decide_eq_true (show(N:Int)-i>0 by omega),cond_true]
   refine(b4 _).trans ?_
   unfold fstep
   have g: ∀x:DT6,(l.length+[x].length)*64≤room:=fun x=>by simp;unfold room;omega
   have gs: ¬szOf s=0:=by omega
   simp only[if_pos (g _),if_neg gs]
   rw[w64_id (x:=(N:Int)-i-1) (by omega) (by omega),show(N:Int)-i-1=N-((i+1:Nat):Int) by omega]
   cases h1:(L (w,n)).2.1==1
   ·cases h2:(L (w,n)).2.1==2
    ·rfl
    ·rfl
   ·rfl
  ·intro q _
   rw[hR]
   simp only[]
   rw[decide_eq_false (show¬(N:Int)-N>0 by omega),cond_false,f48_eq hk s c R.2.1 fs r3.mb]
theorem sweep_both (hk:10000≤k) (ho:Ok k ws fs) (hb: ∀w∈ws,Byt w.2.1) {E:List Int} (hE:E.length≤100):
  ∃(ws':List DT0) (l:List DT6) (e:Int),Ok k ws' fs∧FoOk l∧(∀K:DT2→List DT6→Int→Option α,f25 k (mk s c ws fs) E K=K (mk s c ws' fs) l e)∧(∀K:DT2→List DT6→Int→Option α,f30 k (mk s c ws fs) E K=K (mk s c ws' fs) l e):=by
 obtain⟨ws',t',l,e,h1,h2,h3,h4⟩:=patrol_both (α:=α) (s:=s) (c:=c) hk ho hb 0 (szOf s) hE
 refine⟨ws',l,e,h1,h2,fun K=>?_,fun K=>?_⟩
 ·simp only[f25,s25,SumT.leaf,SumT.pre,SumT.seq,SumT.cond,SumT.block,SumT.blockP,SumT.loop,zB]
  rw[f41_eq hk]
  exact h3 _
 ·simp only[f30,s30,SumT.leaf,SumT.pre,SumT.seq,SumT.cond,SumT.block,SumT.blockP,SumT.loop,zB]
  simp only[f55,s55,SumT.leaf,SumT.pre,SumT.seq,SumT.cond,SumT.block,SumT.blockP,SumT.loop,zB]
  rw[f13_eq hk]
  exact h4 _
theorem f9_eq (hk:10000≤k) (ho:Ok k ws fs) (hb: ∀w∈ws,Byt w.2.1) (n:DT3) {E:List Int} (hE:E.length≤100) (K:Bool→Option α):f9 k (mk s c ws fs) n E K=K true:=by
 obtain⟨w1,r1,e1,a1,a2,a3,a4⟩:=demand_both (α:=α) (s:=s) (c:=c) hk ho hb n.1 hE
 obtain⟨w2,t2,l2,e2,b1,b2,b3,b4⟩:=patrol_both (α:=α) (s:=s) (c:=c) hk ho hb n.1 n.2 hE
 obtain⟨w3,l3,e3,c1,c2,c3,c4⟩:=sweep_both (α:=α) (s:=s) (c:=c) hk ho hb hE
 have g1: ∀(x y:Int) (a b:Option α),(if 0<[x,y].length then a else b)=a:=fun x y a b=>rfl
 have g2: ∀(x y:Int) (a b:Option α),(if 1<[x,y].length then a else b)=a:=fun x y a b=>rfl
 have g3: ∀x y:Int,[x,y].getD 0 0=x:=fun x y=>rfl
 have g4: ∀x y:Int,[x,y].getD 1 0=y:=fun x y=>rfl
 simp only[f9,s9,SumT.leaf,SumT.pre,SumT.seq,SumT.cond,SumT.block,SumT.blockP,SumT.loop,zB]
 simp only[g1,g2,g3,g4,a3,a4,b3,b4,c3,c4,bne_self_eq_false,beq_self_eq_true,cond_false,cond_true,f20_eq hk _ a2,f19_eq hk a1,f19_eq hk b1,f19_eq hk c1,f29_eq hk _ b2,f29_eq hk _ c2,Bool.not_true]
end
set_option maxRecDepth 100000 in
theorem awake_eq {α:Type} (j:Nat) (K:Bool→Option α):f7 (j+10000) K=K true:=by kernel_rfl
structure Dok (d:DT9):Prop where
 lo:0≤d.2
 hi:d.2≤(d.1.length:Int)
 ln:d.1.length≤400
 vs: ∀x∈d.1, -9223372036854775808≤x∧x<9223372036854775808
section
variable {α:Type} {k:Nat}
def modI (n m:Int):Int:=if m<1 then 0 else n%m
theorem modI_le (n:Int) {m:Int} (h:1≤m):0≤modI n m∧modI n m<m:=by
 unfold modI
 rw[if_neg (by omega)]
 exact⟨Int.emod_nonneg _ (by omega),Int.emod_lt_of_pos _ (by omega)⟩
theorem f17_eq (n m:Int) (hm:m≤4611686018427387904) (K:Int→Option α):f17 k n m K=K (modI n m):=by
 simp only[f17,s17,SumT.leaf,SumT.pre,SumT.seq,SumT.cond,SumT.block,SumT.blockP,SumT.loop,zB]
 unfold modI
 by_cases h:m<1
 ·rw[decide_eq_true h,cond_true,if_pos h]
 ·rw[decide_eq_false h,cond_false,if_neg h,if_neg (by omega)]
  have h1:=Int.emod_nonneg n (show m≠0 by omega)
  have h2:=Int.emod_lt_of_pos n (show 0<m by omega)
  have h3:Int.tmod n m=n%m∨(Int.tmod n m<0∧Int.tmod n m+m=n%m)∨Int.tmod n m=n%m:=by
   by_cases hn:0≤n
   ·exact .inl (Int.tmod_eq_emod_of_nonneg hn)
   ·have e:=Int.tmod_eq_emod (a:=n) (b:=m)
    rw[e]
    split
    ·exact .inl (by omega)
    ·right
     left
     rename_i hd
     have:n%m≠0:=fun h=>hd (.inr (Int.dvd_of_emod_eq_zero h))
     have:((m.natAbs:Nat):Int)=m:=by omega
     omega
  rcases h3 with h3|⟨h3,h4⟩|h3
  ·rw[decide_eq_false (by omega),cond_false,h3]
  ·rw[decide_eq_true h3,cond_true,w64_id (by omega) (by omega),h4]
  ·rw[decide_eq_false (by omega),cond_false,h3]
def Gv (n v:Int):Prop:=0≤v∧(1≤n→v<n)
theorem f14_eq {d:DT9} (h:Dok d) (n:Int) (hn:n≤4611686018427387904): ∃(d':DT9) (v:Int),Dok d'∧Gv n v∧ ∀K:DT9→Int→Option α,f14w k d n K=K d' v:=by
 have h1:=h.lo
 have h2:=h.hi
 have h3:=h.ln
 simp only[f14w,s14w,SumT.leaf,SumT.pre,SumT.seq,SumT.cond,SumT.block,SumT.blockP,SumT.loop,zB]
 by_cases hd:d.2≥(d.1.length:Int)
 ·refine⟨d,0,h,⟨by omega,fun _=>by omega⟩,fun K=>?_⟩
  rw[decide_eq_true hd,cond_true]
 ·have e1:w64 (d.2+1)=d.2+1:=w64_id (by omega) (by omega)
  have e2:w64 (d.2+1-1)=d.2:=by rw[w64_id (by omega) (by omega)];omega
  refine⟨(d.1,d.2+1),modI (d.1.getD d.2.toNat 0) n,⟨by show 0≤d.2+1;omega,by show d.2+1≤(d.1.length:Int);omega,h.ln,h.vs⟩,?_,fun K=>?_⟩
  ·by_cases hn1:1≤n
   ·have:=modI_le (d.1.getD d.2.toNat 0) hn1
    exact⟨this.1,fun _=>this.2⟩
   ·unfold modI
    rw[if_pos (by omega)]
    exact⟨Int.le_refl _,fun h=>absurd h hn1⟩
  ·rw[decide_eq_false hd,cond_false,e1,e2,gd (by omega),f17_eq _ _ hn]
theorem f15_eq {d:DT9} (h:Dok d) (n:Int) (hn:n≤4611686018427387904): ∃(d':DT9) (b:Bool),Dok d'∧ ∀K:DT9→Bool→Option α,f15w k d n K=K d' b:=by
 obtain⟨d',v,h1,_,h2⟩:=f14_eq (α:=α) (k:=k) h n hn
 refine⟨d',v==w64 (n-1),h1,fun K=>?_⟩
 simp only[f15w,s15w,SumT.leaf,SumT.pre,SumT.seq,SumT.cond,SumT.block,SumT.blockP,SumT.loop,zB]
 rw[h2]
theorem f34_eq (hk:10000≤k) {d:DT9} (h:Dok d) (n:Nat) (hn:n≤1000): ∃(d':DT9) (l:List Int),Dok d'∧Byt l∧l.length=n∧ ∀K:DT9→List Int→Option α,f34w k d (n:Int) K=K d' l:=by
 have hL: ∀d:DT9, ∃y:DT9×Int,Dok d→Dok y.1∧ ∀K:DT9→Int→Option α,f14w k d 256 K=K y.1 y.2:=fun d=>by
  by_cases hd:Dok d
  ·obtain⟨d',v,h1,_,h2⟩:=f14_eq (α:=α) (k:=k) hd 256 (by omega)
   exact⟨(d',v),fun _=>⟨h1,h2⟩⟩
  ·exact⟨(d,0),fun h=>absurd h hd⟩
 obtain⟨L,hL⟩:=Classical.axiomOfChoice hL
 have w8b: ∀z:Int,0≤w8 z∧w8 z<256:=fun z=>by
  simp only[w8,IntKind.wrap,IntKind.bits,IntKind.signed]
  simp
  omega
 let stp:=fun(_:Nat) (a:DT9×List Int)=>((L a.1).1,a.2++[w8 (L a.1).2])
 let Inv:=fun(i:Nat) (a:DT9×List Int)=>Dok a.1∧Byt a.2∧List.length a.2=i
 have hst: ∀i a,Inv i a→Inv (i+1) (stp i a):=fun i a ⟨h1,h2,h3⟩=>⟨(hL a.1 h1).1,fun x hx=>by
  rcases List.mem_append.1 hx with hx|hx
  ·exact h2 x hx
  ·rw[List.mem_singleton.1 hx]
   exact w8b _,by show List.length (a.2++[_])=i+1;rw[List.length_append,h3];rfl⟩
 have hI0:Inv 0 (d,[]):=⟨h,(fun x hx=>nomatch hx),rfl⟩
 have hIN:=run_inv (f:=stp) Inv n 0 _ hI0 fun j a _ _ hI=>hst j a hI
 rw[Nat.zero_add]at hIN
 refine⟨(run stp 0 n (d,[])).1,(run stp 0 n (d,[])).2,hIN.1,hIN.2.1,hIN.2.2,fun K=>?_⟩
 simp only[f34w,s34w,SumT.leaf,SumT.pre,SumT.seq,SumT.cond,SumT.block,SumT.blockP,SumT.loop,zB]
 refine lp_run2 (fun i (a:DT9×List Int)=>(a.1,(n:Int)-(i:Int),a.2)) n stp Inv (by omega) (a:=(d,[])) hI0 ?_ ?_
 ·intro i a q hi hI
  refine⟨?_,hst i a hI⟩
  simp only[]
  rw[decide_eq_true (by omega),cond_true,(hL a.1 hI.1).2,gd (by have:=hI.2.2;simp;unfold room;omega),w64_id (by omega) (by omega),show(n:Int)-i-1=n-((i+1:Nat):Int) by omega]
 ·intro q _
  simp only[]
  rw[decide_eq_false (by omega),cond_false]
end
theorem vsh_of: ∀{l:List Int} {sum:Int},(∀w∈l,0≤w∧w≤12)→l.foldl (· + ·) sum≤12→vsh l sum=true
 | [],sum,_,h=>decide_eq_true h
 | w::l,sum,h1,h2=>by
  have:=h1 w (by simp)
  rw[vsh,decide_eq_false (by omega),decide_eq_false (by omega),cond_false,cond_false]
  exact vsh_of (fun x hx=>h1 x (by simp[hx])) h2
section
variable {α:Type} {k:Nat} {s:DT4} {c:DT5} {ws:List DT0} {fs:List DT1}
theorem f31_eq (hk:10000≤k) {d:DT9} (h:Dok d): ∃(d':DT9) (s:DT4),Dok d'∧vshape s=true∧ ∀K:DT9→DT4→Option α,f31w k d 5 K=K d' s:=by
 obtain⟨d1,n,a1,a2,a3⟩:=f14_eq (α:=α) (k:=k) h 6 (by omega)
 have hL: ∀d:DT9, ∃y:DT9×Int,Dok d→Dok y.1∧0≤y.2∧y.2<6∧ ∀K:DT9→Int→Option α,f14w k d 6 K=K y.1 y.2:=fun d=>by
  by_cases hd:Dok d
  ·obtain⟨d',v,h1,h3,h2⟩:=f14_eq (α:=α) (k:=k) hd 6 (by omega)
   exact⟨(d',v),fun _=>⟨h1,h3.1,h3.2 (by omega),h2⟩⟩
  ·exact⟨(d,0),fun h=>absurd h hd⟩
 obtain⟨L,hL⟩:=Classical.axiomOfChoice hL
 obtain⟨N,rfl⟩: ∃N:Nat,n=N:=⟨n.toNat,by have:=a2.1;omega⟩
 have hN:N≤5:=by have:=a2.2 (by omega);omega
 let stp:=fun(_:Nat) (a:DT9×List Int)=>((L a.1).1,a.2.set (L a.1).2.toNat (a.2.getD (L a.1).2.toNat 0+1))
 let Inv:=fun(i:Nat) (a:DT9×List Int)=>Dok a.1∧i≤5∧ ∃u v w x y z:Int,a.2=[u,v,w,x,y,z]∧0≤u∧0≤v∧0≤w∧0≤x∧0≤y∧0≤z∧u+v+w+x+y+z=i
 have hst: ∀i a,i<5→Inv i a→Inv (i+1) (stp i a):=by
  rintro i ⟨d,l⟩ hi ⟨h1,_,u,v,w,x,y,z,rfl,b1,b2,b3,b4,b5,b6,b7⟩
  obtain⟨g1,g2,g3,_⟩:=hL d h1
  refine⟨g1,by omega,?_⟩
  show∃u' v' w' x' y' z':Int,List.set [u,v,w,x,y,z] (L d).2.toNat (List.getD [u,v,w,x,y,z] (L d).2.toNat 0+1)=[u',v',w',x',y',z']∧_
  have hc:(L d).2.toNat=0∨(L d).2.toNat=1∨(L d).2.toNat=2∨(L d).2.toNat=3∨(L d).2.toNat=4∨(L d).2.toNat=5:=by omega
  rcases hc with e|e|e|e|e|e<;>rw[e]
  ·exact⟨u+1,v,w,x,y,z,rfl,by omega⟩
  ·exact⟨u,v+1,w,x,y,z,rfl,by omega⟩
  ·exact⟨u,v,w+1,x,y,z,rfl,by omega⟩
  ·exact⟨u,v,w,x+1,y,z,rfl,by omega⟩
  ·exact⟨u,v,w,x,y+1,z,rfl,by omega⟩
  ·exact⟨u,v,w,x,y,z+1,rfl,by omega⟩
 have hI0:Inv 0 (d1,[0,0,0,0,0,0]):=⟨a1,by omega,0,0,0,0,0,0,rfl,by omega,by omega,by omega,by omega,by omega,by omega,by omega⟩
 have hIN:=run_inv (f:=stp) Inv N 0 _ hI0 fun j a _ hj hI=>hst j a (by omega) hI
 rw[Nat.zero_add]at hIN
 generalize hR:run stp 0 N (d1,[0,0,0,0,0,0])=R at hIN
 obtain⟨r1,_,u,v,w,x,y,z,r2,b1,b2,b3,b4,b5,b6,b7⟩:=hIN
 refine⟨R.1,(u,v,w,x,y,z),r1,vsh_of (fun q hq=>?_) ?_,fun K=>?_⟩
 ·simp only[sl6,List.mem_cons,List.not_mem_nil,or_false]at hq
  omega
 ·show 0+u+v+w+x+y+z≤12
  omega
 simp only[f31w,s31w,SumT.leaf,SumT.pre,SumT.seq,SumT.cond,SumT.block,SumT.blockP,SumT.loop,zB]
 rw[show w64 (5+1)=6 from rfl,a3]
 refine lp_run2 (fun i (a:DT9×List Int)=>(a.1,((0:Int),(0:Int),(0:Int),(0:Int),(0:Int),(0:Int)),a.2,(N:Int)-(i:Int))) N stp Inv (by omega) (a:=(d1,[0,0,0,0,0,0])) hI0 ?_ ?_
 ·rintro i ⟨d,l⟩ q hi hI
  refine⟨?_,hst i _ (by omega) hI⟩
  obtain⟨h1,_,u,v,w,x,y,z,rfl,c1,c2,c3,c4,c5,c6,c7⟩:=hI
  obtain⟨g1,g2,g3,g4⟩:=hL d h1
  have hb:0≤List.getD [u,v,w,x,y,z] (L d).2.toNat 0∧List.getD [u,v,w,x,y,z] (L d).2.toNat 0≤5:=by
   have hc:(L d).2.toNat=0∨(L d).2.toNat=1∨(L d).2.toNat=2∨(L d).2.toNat=3∨(L d).2.toNat=4∨(L d).2.toNat=5:=by omega
   rcases hc with e|e|e|e|e|e<;>rw[e]<;>simp<;>omega
  simp only[]
  rw[decide_eq_true (by omega),cond_true,g4,gd (by omega),gd (by simp;omega),gd (by omega),gd (by simp;omega),Nat.add_zero,w64_id (by omega) (by omega),w64_id (by omega) (by omega),show(N:Int)-i-1=N-((i+1:Nat):Int) by omega]
 ·intro q _
  rw[hR]
  simp only[r2]
  rw[decide_eq_false (by omega),cond_false]
  rfl
theorem f32_eq (hk:10000≤k) {d:DT9} (h:Dok d): ∃(d':DT9) (c:DT5),Dok d'∧vcode c=true∧ ∀K:DT9→DT5→Option α,f32w k d K=K d' c:=by
 simp only[f32w,s32w,SumT.leaf,SumT.pre,SumT.seq,SumT.cond,SumT.block,SumT.blockP,SumT.loop,zB]
 simp only[f56w,s56w,SumT.leaf,SumT.pre,SumT.seq,SumT.cond,SumT.block,SumT.blockP,SumT.loop,zB]
 obtain⟨d1,b,h1,e1⟩:=f15_eq (α:=α) (k:=k) h 4 (by omega)
 simp only[e1]
 cases b
 case true=>exact⟨d1,(1,8,1,1),h1,rfl,fun K=>rfl⟩
 obtain⟨d2,i,h2,g2,e2⟩:=f14_eq (α:=α) (k:=k) h1 3 (by omega)
 have gi:=g2.2 (by omega)
 have g0:=g2.1
 have hm:1≤[4,8,32].getD i.toNat (0:Int)∧[4,8,32].getD i.toNat (0:Int)≤32:=by
  have hc:i.toNat=0∨i.toNat=1∨i.toNat=2:=by omega
  rcases hc with e|e|e<;>rw[e]<;>decide
 obtain⟨d3,x,h3,g3,e3⟩:=f14_eq (α:=α) (k:=k) h2 ([4,8,32].getD i.toNat (0:Int)) (by omega)
 obtain⟨d4,y,h4,g4,e4⟩:=f14_eq (α:=α) (k:=k) h3 8 (by omega)
 obtain⟨d5,b,h5,e5⟩:=f15_eq (α:=α) (k:=k) h4 3 (by omega)
 have x1:=g3.1
 have x2:=g3.2 hm.1
 have y1:=g4.1
 have y2:=g4.2 (by omega)
 have hg:0≤i∧i<(([4,8,32]:List Nat).length:Int):=⟨g0,gi⟩
 have w1:w64 (1+x)=1+x:=w64_id (by omega) (by omega)
 have w2:w64 (1+y)=1+y:=w64_id (by omega) (by omega)
 have w3:w64 (Int.tdiv (1+y) 2)=(1+y)/2:=by rw[Int.tdiv_eq_ediv_of_nonneg (by omega),w64_id (by omega) (by omega)]
 have hv: ∀f:Int,0≤f→f≤(1+y)/2→vcode (2,1+x,1+y,f)=true:=fun f f1 f2=>by
  simp only[vcode]
  rw[Int.tdiv_eq_ediv_of_nonneg (by omega),decide_eq_true (by omega),decide_eq_true (by omega),decide_eq_true (by omega),decide_eq_true (by omega),decide_eq_true (by omega),decide_eq_true (by omega)]
  rfl
 simp only[cond_false,e2,if_pos hg,e3,e4,e5,w1,w2,w3]
 cases b
 ·exact⟨d5,(2,1+x,1+y,(1+y)/2),h5,hv _ (by omega) (by omega),fun K=>rfl⟩
 ·have w4:w64 ((1+y)/2+1)=(1+y)/2+1:=w64_id (by omega) (by omega)
  obtain⟨d6,z,h6,g6,e6⟩:=f14_eq (α:=α) (k:=k) h5 ((1+y)/2+1) (by omega)
  have z2:=g6.2 (by omega)
  simp only[cond_true,w4,e6]
  exact⟨d6,(2,1+x,1+y,z),h6,hv _ g6.1 (by omega),fun K=>rfl⟩
end
theorem eqI_comm (a b:Int) (c:Bool):eqI a b c=eqI b a c:=by
 unfold eqI
 rw[show(a==b)=(b==a)from Bool.eq_iff_iff.2 ⟨fun h=>by simpa using (beq_iff_eq.1 h).symm,fun h=>by simpa using (beq_iff_eq.1 h).symm⟩]
theorem eqB_comm (a b c:Bool):eqB a b c=eqB b a c:=by
 cases a<;>cases b<;>rfl
theorem eqf_comm (a b:DT1):eqf a b=eqf b a:=by
 unfold eqf
 simp only[eqI_comm a.1,eqI_comm a.2.1,eqI_comm a.2.2.1,eqI_comm a.2.2.2.1,eqI_comm a.2.2.2.2.1,eqI_comm a.2.2.2.2.2.1,eqI_comm a.2.2.2.2.2.2.1,eqI_comm a.2.2.2.2.2.2.2.1,eqI_comm a.2.2.2.2.2.2.2.2.1,eqI_comm a.2.2.2.2.2.2.2.2.2.1,eqB_comm a.2.2.2.2.2.2.2.2.2.2]
theorem vfs_snoc {s:DT4} {n:Int} {f:DT1} (h1:f.2.2.2.2.2.2.2.2.2.2=true) (h2:vfault s n f=true): ∀{fs pre:List DT1},vfs s n pre fs=true→((pre++fs).any fun x=>eqf f x)=false→vfs s n pre (fs++[f])=true
 | [],pre,_,h=>by
  rw[List.append_nil]at h
  rw[List.nil_append,vfs,h1,h2,h]
  rfl
 | g::r,pre,h,ha=>by
  rw[vfs]at h
  rw[List.cons_append,vfs]
  cases e1:g.2.2.2.2.2.2.2.2.2.2<;>rw[e1]at h
  case false=>cases h
  cases e2:vfault s n g<;>rw[e2]at h
  case false=>cases h
  cases e3:pre.any (fun x=>eqf g x)<;>rw[e3]at h
  case true=>cases h
  exact vfs_snoc h1 h2 h (by rw[List.append_assoc];exact ha)
section
variable {α:Type} {k:Nat} {s:DT4} {c:DT5} {ws:List DT0} {fs:List DT1}
theorem VM.new (h1:vshape s=true) (h2:vcode c=true):VM s c [] []:=⟨h1,h2,Nat.zero_le _,(fun w h=>nomatch h),List.Pairwise.nil,rfl⟩
theorem f23_eq (hk:10000≤k) (h1:vshape s=true) (h2:vcode c=true) (K:DT2→Int→Option α):f23 k s c K=K (mk s c [] []) 0:=by
 have h:=VM.new h1 h2
 simp only[f23,s23,SumT.leaf,SumT.pre,SumT.seq,SumT.cond,SumT.block,SumT.blockP,SumT.loop,zB]
 have:=f47_eq (α:=α) hk s c [] [] h.mb
 rw[h.mem]at this
 refine(this _).trans ?_
 rfl
theorem f33_eq (hk:10000≤k) (h:VM s c ws fs) (t:Int) (h0:0≤t) (h1:t<szOf s) {x:List Int} (hb:Byt x) (hl:((x.length:Nat):Int)=c.2.1): ∃ws',VM s c ws' fs∧ ∀K:DT2→Int→Option α,f33 k (mk s c ws fs) t x K=K (mk s c ws' fs) 0:=by
 obtain⟨o,o1,o2,o3,o4⟩:=enc_both (α:=α) hk h.cd hb hl
 have hch:=chips_le h.cd
 refine⟨putW ws (t,o,false),h.put h0 h1 o4 o3,fun K=>?_⟩
 simp only[f33,s33,SumT.leaf,SumT.pre,SumT.seq,SumT.cond,SumT.block,SumT.blockP,SumT.loop,zB]
 have pc:((mk s c ws fs).2.2.2.2.2.2.1,(mk s c ws fs).2.2.2.2.2.2.2.1,(mk s c ws fs).2.2.2.2.2.2.2.2.1,(mk s c ws fs).2.2.2.2.2.2.2.2.2.1)=c:=rfl
 rw[f57_eq hk h t h0 h1,z0,cond_false,pc,o2,z0,cond_false,f52_eq hk s c ws fs _ h.so h.mb (by show o.length<1000;omega)]
theorem f35_eq (hk:10000≤k) (h:VM s c ws fs) (t:Int) (h0:0≤t) (h1:t<szOf s): ∃ws',VM s c ws' fs∧ ∀K:DT2→Int→Option α,f35 k (mk s c ws fs) t K=K (mk s c ws' fs) 0:=by
 obtain⟨l1,l2,l3⟩:=h.lk t
 have hch:=chips_le h.cd
 refine⟨putW ws (t,(lkW t (chips c).toNat ws).2.1,true),h.put h0 h1 l2 l3,fun K=>?_⟩
 simp only[f35,s35,SumT.leaf,SumT.pre,SumT.seq,SumT.cond,SumT.block,SumT.blockP,SumT.loop,zB]
 rw[f57_eq hk h t h0 h1,z0,cond_false,l1,f52_eq hk s c ws fs _ h.so h.mb (by show List.length (lkW t (chips c).toNat ws).2.1<1000;omega)]
theorem f50_eq (hk:10000≤k) (h:vshape s=true) (f:DT1): ∃l:List Int,(∀x∈l,0≤x∧x<szOf s)∧l.length≤4096∧ ∀K:List Int→Option α,f50 k s f K=K l:=by
 have hsz:=szOf_le s
 obtain⟨N,hN⟩: ∃N:Nat,szOf s=N:=⟨(szOf s).toNat,by omega⟩
 let stp:=fun(i:Nat) (l:List Int)=>bif cov f (atP4 s i)then l++[(i:Int)]else l
 let Inv:=fun(i:Nat) (l:List Int)=>List.length l≤i∧ ∀x∈l,0≤x∧x<(i:Int)
 have hst: ∀i l,Inv i l→Inv (i+1) (stp i l):=by
  rintro i l ⟨h1,h2⟩
  show List.length (bif cov f (atP4 s i)then l++[(i:Int)]else l)≤i+1∧ ∀x∈(bif cov f (atP4 s i)then l++[(i:Int)]else l),_
  cases cov f (atP4 s i)
  ·exact⟨by rw[cond_false];omega,fun x hx=>by have:=h2 x hx;omega⟩
  ·refine⟨by rw[cond_true,List.length_append];simp;omega,fun x hx=>?_⟩
   rcases List.mem_append.1 hx with hx|hx
   ·have:=h2 x hx
    omega
   ·rw[List.mem_singleton.1 hx]
    omega
 have hI0:Inv 0 []:=⟨Nat.le_refl _,fun x hx=>nomatch hx⟩
 have hIN:=run_inv (f:=stp) Inv N 0 _ hI0 fun j a _ _ hI=>hst j a hI
 rw[Nat.zero_add]at hIN
 refine⟨run stp 0 N [],by rw[hN];exact hIN.2,Nat.le_trans hIN.1 (by omega),fun K=>?_⟩
 simp only[f50,s50,SumT.leaf,SumT.pre,SumT.seq,SumT.cond,SumT.block,SumT.blockP,SumT.loop,zB]
 refine lp_run2 (fun i (l:List Int)=>(s,f,l,(i:Int))) N stp Inv (by omega) (a:=[]) hI0 ?_ ?_
 ·intro i l q hi hI
  refine⟨?_,hst i l hI⟩
  simp only[]
  rw[f13_eq hk,hN,dlt (by omega),cond_true,f83_eq hk s _ h (by omega) (by omega),f84_eq hk,w64_id (by omega) (by omega)]
  show _=q (s,f,(bif cov f (atP4 s i)then l++[(i:Int)]else l),((i+1:Nat):Int))
  cases cov f (atP4 s i)
  ·rfl
  ·rw[cond_true,cond_true,gd (by have:=hI.1;simp;unfold room;omega)]
   rfl
 ·intro q _
  simp only[]
  rw[f13_eq hk,hN,dge (by omega),cond_false]
theorem f24_eq (hk:10000≤k) (h:VM s c ws fs) (f:DT1): ∃(ws':List DT0) (fs':List DT1) (e:Int),VM s c ws' fs'∧ ∀K:DT2→Int→Option α,f24 k (mk s c ws fs) f K=K (mk s c ws' fs') e:=by
 have hfl:=h.fl
 simp only[f24,s24,SumT.leaf,SumT.pre,SumT.seq,SumT.cond,SumT.block,SumT.blockP,SumT.loop,zB]
 simp only[f47_eq hk s c ws fs h.mb,h.mem,Bool.not_true,cond_false,f16_eq]
 have pc:((mk s c ws fs).2.2.2.2.2.2.1,(mk s c ws fs).2.2.2.2.2.2.2.1,(mk s c ws fs).2.2.2.2.2.2.2.2.1,(mk s c ws fs).2.2.2.2.2.2.2.2.2.1)=c:=rfl
 have ps:((mk s c ws fs).1,(mk s c ws fs).2.1,(mk s c ws fs).2.2.1,(mk s c ws fs).2.2.2.1,(mk s c ws fs).2.2.2.2.1,(mk s c ws fs).2.2.2.2.2.1)=s:=rfl
 simp only[pc,ps,f49_eq hk]
 cases hvf:vfault s (chips c) f
 case false=>
  refine⟨ws,fs,2,h,fun K=>?_⟩
  rw[Bool.not_false,cond_true]
  exact f48_eq hk s c ws fs h.mb _
 simp only[Bool.not_true,cond_false]
 have hch:=vfault_chip hvf
 simp only[chipOf]at hch
 cases hh:f.2.2.2.2.2.2.2.2.2.2
 case false=>
  obtain⟨l,l1,l2,l3⟩:=f50_eq (α:=α) hk h.sh f
  simp only[Bool.not_false,cond_true,l3]
  let fl:=fun(t:Int) (w:List DT0)=>putW w ((lkW t (chips c).toNat w).1,List.set (lkW t (chips c).toNat w).2.1 f.2.2.2.2.2.2.2.1.toNat (bitI .xor .u8 (List.getD (lkW t (chips c).toNat w).2.1 f.2.2.2.2.2.2.2.1.toNat 0) f.2.2.2.2.2.2.2.2.1),(lkW t (chips c).toNat w).2.2)
  let stp:=fun(i:Nat) (w:List DT0)=>fl (l.getD i 0) w
  have hst: ∀i w,i<l.length→VM s c w fs→VM s c (stp i w) fs:=fun i w hi hw=>by
   obtain⟨g1,g2,g3⟩:=hw.lk (l.getD i 0)
   have:=l1 _ (getD_mem 0 hi)
   exact hw.put (by show 0≤(lkW _ _ w).1;rw[g1];omega) (by show(lkW _ _ w).1<_;rw[g1];omega) (by show((List.length (List.set _ _ _):Nat):Int)=_;rw[List.length_set,g2]) (g3.set _ (xor_byt _ _))
  have hIN:VM s c (run stp 0 l.length ws) fs:=by
   have:=run_inv (f:=stp) (fun _ w=>VM s c w fs) l.length 0 ws h fun j w _ hj hw=>hst j w (by omega) hw
   exact this
  refine⟨run stp 0 l.length ws,fs,0,hIN,fun K=>?_⟩
  refine lp_run2 (fun i (w:List DT0)=>(mk s c w fs,f,zT2,l,(i:Int))) l.length stp (fun _ w=>VM s c w fs) (by omega) (a:=ws) h ?_ ?_
  ·intro i w q hi hw
   refine⟨?_,hst i w hi hw⟩
   obtain⟨g1,g2,g3⟩:=hw.lk (l.getD i 0)
   have hcl:=chips_le h.cd
   simp only[]
   rw[dlt (by omega),cond_true,gd (by omega),Int.toNat_natCast,f51_eq hk s c w fs _ hw.so hw.mb h.cd,gd (by omega),gd (by omega),f52_eq hk s c w fs _ hw.so hw.mb (by show List.length (List.set _ _ _)<1000;rw[List.length_set];omega),w64_id (by omega) (by omega)]
   rfl
  ·intro q hw
   simp only[]
   rw[dge (by omega),cond_false,f48_eq hk s c _ fs hw.mb]
 simp only[Bool.not_true,cond_false]
 cases hany:fs.any (fun x=>eqf x f)
 case true=>
  refine⟨ws,fs,8,h,fun K=>?_⟩
  refine lp_rule (fun q x=> ∃j:Nat,j+q=fs.length∧x=(mk s c ws fs,f,zT2,(j:Int))∧((fs.drop j).any fun x=>eqf x f)=true) ?_ (m:=fs.length) ⟨0,by omega,rfl,hany⟩ (by omega)
  rintro q x n ⟨j,hj,rfl,ha⟩ hn
  cases q with
  | zero=>
   rw[List.drop_eq_nil_of_le (by omega)]at ha
   cases ha
  | succ q=>
   rw[drop_getD zT1 (show j<fs.length by omega),List.any_cons]at ha
   simp only[]
   rw[dlt (by omega),cond_true,gd (by omega),Int.toNat_natCast]
   refine Eq.trans (b:=bif eqf (fs.getD j zT1) f then _ else _) rfl ?_
   cases he:eqf (fs.getD j zT1) f
   ·rw[he,Bool.false_or]at ha
    rw[cond_false,w64_id (by omega) (by omega)]
    exact hn q _ (by omega) ⟨j+1,by omega,rfl,ha⟩
   ·rw[cond_true]
    exact f48_eq hk s c ws fs h.mb _
 by_cases h64:fs.length=64
 ·refine⟨ws,fs,16,h,fun K=>?_⟩
  refine lp_run2 (fun i (_:Unit)=>(mk s c ws fs,f,zT2,(i:Int))) fs.length (fun _ a=>a) (fun _ _=>True) (by omega) (a:=()) trivial ?_ ?_
  ·intro i _ q hi _
   refine⟨?_,trivial⟩
   have he:eqf (fs.getD i zT1) f=false:=List.any_eq_false.1 hany _ (getD_mem zT1 hi)|>fun h=>by simpa using h
   simp only[]
   rw[dlt (by omega),cond_true,gd (by omega),Int.toNat_natCast]
   refine Eq.trans (b:=bif eqf (fs.getD i zT1) f then _ else _) rfl ?_
   rw[he,cond_false,w64_id (by omega) (by omega)]
   rfl
  ·intro q _
   simp only[]
   rw[dge (by omega),cond_false,h64,show(((64:Nat):Int)==64)=true from rfl,cond_true]
   exact f48_eq hk s c ws fs h.mb _
 ·have hv:VM s c ws (fs++[f]):=⟨h.sh,h.cd,by rw[List.length_append];simp;omega,h.ok,h.so,vfs_snoc hh hvf h.ft (by
   rw[List.nil_append,List.any_eq_false]
   intro x hx
   rw[eqf_comm]
   exact List.any_eq_false.1 hany x hx)⟩
  refine⟨ws,fs++[f],0,hv,fun K=>?_⟩
  refine lp_run2 (fun i (_:Unit)=>(mk s c ws fs,f,zT2,(i:Int))) fs.length (fun _ a=>a) (fun _ _=>True) (by omega) (a:=()) trivial ?_ ?_
  ·intro i _ q hi _
   refine⟨?_,trivial⟩
   have he:eqf (fs.getD i zT1) f=false:=List.any_eq_false.1 hany _ (getD_mem zT1 hi)|>fun h=>by simpa using h
   simp only[]
   rw[dlt (by omega),cond_true,gd (by omega),Int.toNat_natCast]
   refine Eq.trans (b:=bif eqf (fs.getD i zT1) f then _ else _) rfl ?_
   rw[he,cond_false,w64_id (by omega) (by omega)]
   rfl
  ·intro q _
   simp only[]
   rw[dge (by omega),cond_false,show(((fs.length:Nat):Int)==64)=false from beq_eq_false_iff_ne.2 (by omega),cond_false,f48_eq hk s c ws fs h.mb,gd (by simp;unfold room;omega)]
end
theorem wu64_nn (x:Int):0≤wu64 x:=by
 simp only[wu64,IntKind.wrap,IntKind.bits,IntKind.signed]
 simp
 omega
section
variable {α:Type} {k:Nat} {s:DT4} {c:DT5} {ws:List DT0} {fs:List DT1}
theorem szOf_pos (h:vshape s=true):1≤szOf s:=by
 unfold szOf
 rw[h,cond_true]
 have:(0:Int)<2^(bitsOf s).toNat:=Int.pow_pos (by decide)
 omega
theorem f59_eq {d:DT9} (h:Dok d) (hs:vshape s=true): ∃(d':DT9) (p:DT4),Dok d'∧ ∀K:DT9→DT4→Option α,f59w k d s K=K d' p:=by
 obtain⟨h1,_,_⟩:=vshape_spec hs
 simp only[sl6,List.mem_cons,List.not_mem_nil,or_false,forall_eq_or_imp,forall_eq]at h1
 have step: ∀{d:DT9},Dok d→ ∀w:Int,0≤w∧w≤12→ ∃(d':DT9) (v:Int),Dok d'∧ ∀K:DT9→Int→Option α,(if 0≤wu64 w then f14w k d (w64 (1*2^(min (wu64 w).toNat 64))) K else none)=K d' v:=fun {d} hd w hw=>by
  have e:wu64 w=w:=wu64_id (by omega) (by omega)
  have h3:2^w.toNat≤2^12:=Nat.pow_le_pow_right (by omega) (by omega)
  rw[e]
  obtain⟨d',v,g1,_,g2⟩:=f14_eq (α:=α) (k:=k) hd (w64 (1*2^(min w.toNat 64))) (by rw[pow64 hw.1 hw.2];generalize 2^w.toNat=q at h3 ⊢;omega)
  exact⟨d',v,g1,fun K=>by rw[gd hw.1,g2]⟩
 simp only[f59w,s59w,SumT.leaf,SumT.pre,SumT.seq,SumT.cond,SumT.block,SumT.blockP,SumT.loop,zB]
 obtain⟨d1,v1,a1,b1⟩:=step h _ h1.1
 obtain⟨d2,v2,a2,b2⟩:=step a1 _ h1.2.1
 obtain⟨d3,v3,a3,b3⟩:=step a2 _ h1.2.2.1
 obtain⟨d4,v4,a4,b4⟩:=step a3 _ h1.2.2.2.1
 obtain⟨d5,v5,a5,b5⟩:=step a4 _ h1.2.2.2.2.1
 obtain⟨d6,v6,a6,b6⟩:=step a5 _ h1.2.2.2.2.2
 refine⟨d6,(v1,v2,v3,v4,v5,v6),a6,fun K=>?_⟩
 rw[b1,b2,b3,b4,b5,b6]
theorem f36_eq {d:DT9} (h:Dok d) (hs:vshape s=true) (n:Int) (hn:n≤1000) (b:Bool): ∃(d':DT9) (f:DT1),Dok d'∧ ∀K:DT9→DT1→Option α,f36w k d s n b K=K d' f:=by
 have fin: ∀(d:DT9) (f:DT1),Dok d→ ∃(d':DT9) (g:DT1),Dok d'∧ ∀K:DT9→DT1→Option α,(bif f.1==2 then K d (f.1,f.2.1,f.2.2.1,f.2.2.2.1,f.2.2.2.2.1,f.2.2.2.2.2.1,0,f.2.2.2.2.2.2.2.1,f.2.2.2.2.2.2.2.2.1,f.2.2.2.2.2.2.2.2.2.1,f.2.2.2.2.2.2.2.2.2.2)else bif f.1==3 then K d (f.1,f.2.1,f.2.2.1,f.2.2.2.1,f.2.2.2.2.1,0,f.2.2.2.2.2.2.1,f.2.2.2.2.2.2.2.1,f.2.2.2.2.2.2.2.2.1,f.2.2.2.2.2.2.2.2.2.1,f.2.2.2.2.2.2.2.2.2.2)else bif f.1==4 then K d (f.1,f.2.1,f.2.2.1,f.2.2.2.1,f.2.2.2.2.1,0,0,f.2.2.2.2.2.2.2.1,f.2.2.2.2.2.2.2.2.1,f.2.2.2.2.2.2.2.2.2.1,f.2.2.2.2.2.2.2.2.2.2)else bif f.1==5 then K d (f.1,f.2.1,f.2.2.1,f.2.2.2.1,0,0,0,f.2.2.2.2.2.2.2.1,f.2.2.2.2.2.2.2.2.1,f.2.2.2.2.2.2.2.2.2.1,f.2.2.2.2.2.2.2.2.2.2)else bif f.1==6 then K d (f.1,f.2.1,f.2.2.1,0,0,0,0,f.2.2.2.2.2.2.2.1,f.2.2.2.2.2.2.2.2.1,f.2.2.2.2.2.2.2.2.2.1,f.2.2.2.2.2.2.2.2.2.2)else K d f)=K d' g:=fun d f hd=>by
  cases f.1==2
  case true=>exact⟨d,_,hd,fun K=>rfl⟩
  cases f.1==3
  case true=>exact⟨d,_,hd,fun K=>rfl⟩
  cases f.1==4
  case true=>exact⟨d,_,hd,fun K=>rfl⟩
  cases f.1==5
  case true=>exact⟨d,_,hd,fun K=>rfl⟩
  cases f.1==6
  case true=>exact⟨d,_,hd,fun K=>rfl⟩
  exact⟨d,_,hd,fun K=>rfl⟩
 simp only[f36w,s36w,SumT.leaf,SumT.pre,SumT.seq,SumT.cond,SumT.block,SumT.blockP,SumT.loop,zB]
 obtain⟨d1,v1,a1,_,b1⟩:=f14_eq (α:=α) (k:=k) h 6 (by omega)
 obtain⟨d2,p,a2,b2⟩:=f59_eq (α:=α) (k:=k) a1 hs
 obtain⟨d3,v3,a3,_,b3⟩:=f14_eq (α:=α) (k:=k) a2 n (by omega)
 obtain⟨d4,v4,a4,_,b4⟩:=f14_eq (α:=α) (k:=k) a3 255 (by omega)
 obtain⟨d5,v5,a5,b5⟩:=f15_eq (α:=α) (k:=k) a4 2 (by omega)
 simp only[b1,b2,b3,b4,b5]
 cases v5
 case true=>
  obtain⟨d6,v6,a6,_,b6⟩:=f14_eq (α:=α) (k:=k) a5 8 (by omega)
  simp only[cond_true,b6,if_pos (wu64_nn _)]
  cases b
  case false=>
   simp only[cond_false]
   exact fin d6 (w64 (1+v1),p.1,p.2.1,p.2.2.1,p.2.2.2.1,p.2.2.2.2.1,p.2.2.2.2.2,v3,w8 (1*2^(min (wu64 v6).toNat 8)),0,false) a6
  obtain⟨d7,v7,a7,_,b7⟩:=f14_eq (α:=α) (k:=k) a6 256 (by omega)
  simp only[cond_true,b7]
  exact fin d7 (w64 (1+v1),p.1,p.2.1,p.2.2.1,p.2.2.2.1,p.2.2.2.2.1,p.2.2.2.2.2,v3,w8 (1*2^(min (wu64 v6).toNat 8)),bitI .and .u8 (w8 v7) (w8 (1*2^(min (wu64 v6).toNat 8))),true) a7
 simp only[cond_false]
 cases b
 case false=>
  simp only[cond_false]
  exact fin d5 (w64 (1+v1),p.1,p.2.1,p.2.2.1,p.2.2.2.1,p.2.2.2.2.1,p.2.2.2.2.2,v3,w8 (w64 (1+v4)),0,false) a5
 obtain⟨d7,v7,a7,_,b7⟩:=f14_eq (α:=α) (k:=k) a5 256 (by omega)
 simp only[cond_true,b7]
 exact fin d7 (w64 (1+v1),p.1,p.2.1,p.2.2.1,p.2.2.2.1,p.2.2.2.2.1,p.2.2.2.2.2,v3,w8 (w64 (1+v4)),bitI .and .u8 (w8 v7) (w8 (w64 (1+v4))),true) a7
theorem rnd1 (hk:10000≤k) {d:DT9} (h:Dok d) (hv:VM s c ws fs): ∃(d':DT9) (ws':List DT0),Dok d'∧VM s c ws' fs∧ ∀G:DT9→DT2→Option α,
  (f14w k d (szOf s) fun x25 x26=>f34w k x25 c.2.1 fun x27 x28=>f33 k (mk s c ws fs) x26 x28 fun x29 x30=>f15w k x27 6 fun x31 x32=>bif x32 then(f14w k x31 (szOf s) fun x33 x34=>f35 k x29 x34 fun x35 x36=>G x33 x35)else G x31 x29)=G d' (mk s c ws' fs):=by
 have hsz:=szOf_le s
 have hp:=szOf_pos hv.sh
 have hda:=hv.data
 have hch:=chips_le hv.cd
 obtain⟨d1,t,a1,g1,b1⟩:=f14_eq (α:=α) (k:=k) h (szOf s) (by omega)
 obtain⟨N,hN⟩: ∃N:Nat,c.2.1=N:=⟨c.2.1.toNat,by omega⟩
 obtain⟨d2,l,a2,l1,l2,b2⟩:=f34_eq (α:=α) hk a1 N (by omega)
 obtain⟨w1,v1,b3⟩:=f33_eq (α:=α) hk hv t g1.1 (g1.2 hp) l1 (by rw[l2,hN])
 obtain⟨d3,b,a3,b4⟩:=f15_eq (α:=α) (k:=k) a2 6 (by omega)
 rw[←hN]at b2
 simp only[b1,b2,b3,b4]
 cases b
 ·exact⟨d3,w1,a3,v1,fun G=>rfl⟩
 ·obtain⟨d4,t2,a4,g4,b5⟩:=f14_eq (α:=α) (k:=k) a3 (szOf s) (by omega)
  obtain⟨w2,v2,b6⟩:=f35_eq (α:=α) hk v1 t2 g4.1 (g4.2 hp)
  simp only[cond_true,b5,b6]
  exact⟨d4,w2,a4,v2,fun G=>rfl⟩
end
section
variable {α:Type} {k:Nat} {s:DT4} {c:DT5} {ws:List DT0} {fs:List DT1}
theorem rnd2 (hk:10000≤k) {d:DT9} (h:Dok d) (hv:VM s c ws fs): ∃(d':DT9) (ws':List DT0) (fs':List DT1),Dok d'∧VM s c ws' fs'∧ ∀G:DT9→DT2→Option α,
  (f15w k d 3 fun x71 x72=>f36w k x71 s (chips c) x72 fun x73 x74=>f15w k x73 2 fun x75 x76=>bif x76 then(f14w k x75 8 fun x77 x78=>if 0≤wu64 x78 then(f24 k (mk s c ws fs) (x74.1,x74.2.1,x74.2.2.1,x74.2.2.2.1,x74.2.2.2.2.1,x74.2.2.2.2.2.1,x74.2.2.2.2.2.2.1,x74.2.2.2.2.2.2.2.1,w8 (1*2^(min (wu64 x78).toNat 8)),0,x74.2.2.2.2.2.2.2.2.2.2) fun x79 x80=>G x77 x79)else none)else(f24 k (mk s c ws fs) x74 fun x85 x86=>G x75 x85))=G d' (mk s c ws' fs'):=by
 have hch:=chips_le hv.cd
 obtain⟨d1,v1,a1,b1⟩:=f15_eq (α:=α) (k:=k) h 3 (by omega)
 obtain⟨d2,f,a2,b2⟩:=f36_eq (α:=α) (k:=k) a1 hv.sh (chips c) (by omega) v1
 obtain⟨d3,v3,a3,b3⟩:=f15_eq (α:=α) (k:=k) a2 2 (by omega)
 simp only[b1,b2,b3]
 cases v3
 ·obtain⟨w1,g1,e,h1,h2⟩:=f24_eq (α:=α) hk hv f
  simp only[cond_false,h2]
  exact⟨d3,w1,g1,a3,h1,fun G=>rfl⟩
 ·obtain⟨d4,v4,a4,_,b4⟩:=f14_eq (α:=α) (k:=k) a3 8 (by omega)
  simp only[cond_true,b4,if_pos (wu64_nn _)]
  obtain⟨w1,g1,e,h1,h2⟩:=f24_eq (α:=α) hk hv (f.1,f.2.1,f.2.2.1,f.2.2.2.1,f.2.2.2.2.1,f.2.2.2.2.2.1,f.2.2.2.2.2.2.1,f.2.2.2.2.2.2.2.1,w8 (1*2^(min (wu64 v4).toNat 8)),0,f.2.2.2.2.2.2.2.2.2.2)
  simp only[h2]
  exact⟨d4,w1,g1,a4,h1,fun G=>rfl⟩
theorem f12_eq (hk:10000≤k) {d:DT9} (h:Dok d): ∃(d':DT9) (s:DT4) (c:DT5) (ws:List DT0) (fs:List DT1),Dok d'∧VM s c ws fs∧ ∀K:DT9→DT2→Option α,f12w k d K=K d' (mk s c ws fs):=by
 obtain⟨d1,s,a1,hs,b1⟩:=f31_eq (α:=α) hk h
 obtain⟨d2,c,a2,hc,b2⟩:=f32_eq (α:=α) hk a1
 have hv0:=VM.new hs hc
 have hsz:=szOf_le s
 obtain⟨d3,n,a3,g3,b3⟩:=f14_eq (α:=α) (k:=k) a2 6 (by omega)
 obtain⟨N,rfl⟩: ∃N:Nat,n=N:=⟨n.toNat,by have:=g3.1;omega⟩
 have hN:N≤5:=by have:=g3.2 (by omega);omega
 have hL: ∀x:DT9×List DT0, ∃y:DT9×List DT0,Dok x.1→VM s c x.2 []→Dok y.1∧VM s c y.2 []∧ ∀G:DT9→DT2→Option α,(f14w k x.1 (szOf s) fun x25 x26=>f34w k x25 c.2.1 fun x27 x28=>f33 k (mk s c x.2 []) x26 x28 fun x29 x30=>f15w k x27 6 fun x31 x32=>bif x32 then(f14w k x31 (szOf s) fun x33 x34=>f35 k x29 x34 fun x35 x36=>G x33 x35)else G x31 x29)=G y.1 (mk s c y.2 []):=fun x=>by
  by_cases hx:Dok x.1∧VM s c x.2 []
  ·obtain⟨d',w',h1,h2,h3⟩:=rnd1 (α:=α) hk hx.1 hx.2
   exact⟨(d',w'),fun _ _=>⟨h1,h2,h3⟩⟩
  ·exact⟨x,fun h1 h2=>absurd ⟨h1,h2⟩ hx⟩
 obtain⟨L,hL⟩:=Classical.axiomOfChoice hL
 let I1:=fun(_:Nat) (a:DT9×List DT0)=>Dok a.1∧VM s c a.2 []
 have hI1:I1 N (run (fun _ a=>L a) 0 N (d3,[])):=by
  have:=run_inv (f:=fun _ a=>L a) I1 N 0 (d3,[]) ⟨a3,hv0⟩ fun j a _ _ hI=>⟨(hL a hI.1 hI.2).1,(hL a hI.1 hI.2).2.1⟩
  exact this
 generalize hR1:run (fun _ a=>L a) 0 N (d3,([]:List DT0))=R1 at hI1
 obtain⟨d4,n2,a4,g4,b4⟩:=f14_eq (α:=α) (k:=k) hI1.1 6 (by omega)
 obtain⟨M,rfl⟩: ∃M:Nat,n2=M:=⟨n2.toNat,by have:=g4.1;omega⟩
 have hM:M≤5:=by have:=g4.2 (by omega);omega
 have hF: ∀x:DT9×List DT0×List DT1, ∃y:DT9×List DT0×List DT1,Dok x.1→VM s c x.2.1 x.2.2→Dok y.1∧VM s c y.2.1 y.2.2∧ ∀G:DT9→DT2→Option α,(f15w k x.1 3 fun x71 x72=>f36w k x71 s (chips c) x72 fun x73 x74=>f15w k x73 2 fun x75 x76=>bif x76 then(f14w k x75 8 fun x77 x78=>if 0≤wu64 x78 then(f24 k (mk s c x.2.1 x.2.2) (x74.1,x74.2.1,x74.2.2.1,x74.2.2.2.1,x74.2.2.2.2.1,x74.2.2.2.2.2.1,x74.2.2.2.2.2.2.1,x74.2.2.2.2.2.2.2.1,w8 (1*2^(min (wu64 x78).toNat 8)),0,x74.2.2.2.2.2.2.2.2.2.2) fun x79 x80=>G x77 x79)else none)else(f24 k (mk s c x.2.1 x.2.2) x74 fun x85 x86=>G x75 x85))=G y.1 (mk s c y.2.1 y.2.2):=fun x=>by
  by_cases hx:Dok x.1∧VM s c x.2.1 x.2.2
  ·obtain⟨d',w',f',h1,h2,h3⟩:=rnd2 (α:=α) hk hx.1 hx.2
   exact⟨(d',w',f'),fun _ _=>⟨h1,h2,h3⟩⟩
  ·exact⟨x,fun h1 h2=>absurd ⟨h1,h2⟩ hx⟩
 obtain⟨F,hF⟩:=Classical.axiomOfChoice hF
 let I2:=fun(_:Nat) (a:DT9×List DT0×List DT1)=>Dok a.1∧VM s c a.2.1 a.2.2
 have hI2:I2 M (run (fun _ a=>F a) 0 M (d4,R1.2,[])):=by
  have:=run_inv (f:=fun _ a=>F a) I2 M 0 (d4,R1.2,[]) ⟨a4,hI1.2⟩ fun j a _ _ hI=>⟨(hF a hI.1 hI.2).1,(hF a hI.1 hI.2).2.1⟩
  exact this
 generalize hR2:run (fun _ a=>F a) 0 M (d4,R1.2,([]:List DT1))=R2 at hI2
 refine⟨R2.1,s,c,R2.2.1,R2.2.2,hI2.1,hI2.2,fun K=>?_⟩
 have ps:szOf ((mk s c [] []).1,(mk s c [] []).2.1,(mk s c [] []).2.2.1,(mk s c [] []).2.2.2.1,(mk s c [] []).2.2.2.2.1,(mk s c [] []).2.2.2.2.2.1)=szOf s:=rfl
 simp only[f12w,s12w,SumT.leaf,SumT.pre,SumT.seq,SumT.cond,SumT.block,SumT.blockP,SumT.loop,zB]
 rw[b1,b2,f23_eq hk hs hc]
 simp only[f13_eq hk,ps,f16_eq]
 rw[b3]
 refine lp_run2 (fun i (a:DT9×List DT0)=>(a.1,zT2,mk s c a.2 [],szOf s,(N:Int)-(i:Int))) N (fun _ a=>L a) I1 (by omega) (a:=(d3,[])) ⟨a3,hv0⟩ ?_ ?_
 ·rintro i a q hi hI
  have:=hL a hI.1 hI.2
  refine⟨?_,this.1,this.2.1⟩
  simp only[]
  rw[decide_eq_true (show(N:Int)-i>0 by omega),cond_true]
  refine(this.2.2 fun d m=>q (d,zT2,m,szOf s,w64 ((N:Int)-i-1))).trans ?_
  rw[w64_id (by omega) (by omega),show(N:Int)-i-1=N-((i+1:Nat):Int) by omega]
 ·intro q _
  rw[hR1]
  simp only[]
  rw[decide_eq_false (show¬(N:Int)-N>0 by omega),cond_false,b4]
  refine lp_run2 (fun i (a:DT9×List DT0×List DT1)=>(a.1,zT2,mk s c a.2.1 a.2.2,(M:Int)-(i:Int))) M (fun _ a=>F a) I2 (by omega) (a:=(d4,R1.2,[])) ⟨a4,hI1.2⟩ ?_ ?_
  ·rintro i a q hi hI
   have:=hF a hI.1 hI.2
   refine⟨?_,this.1,this.2.1⟩
   simp only[]
   rw[decide_eq_true (show(M:Int)-i>0 by omega),cond_true]
   refine(this.2.2 fun d m=>q (d,zT2,m,w64 ((M:Int)-i-1))).trans ?_
   rw[w64_id (by omega) (by omega),show(M:Int)-i-1=M-((i+1:Nat):Int) by omega]
  ·intro q _
   rw[hR2]
   simp only[]
   rw[decide_eq_false (show¬(M:Int)-M>0 by omega),cond_false]
theorem dok0 {t:List Int} (ht:tyOk (.sl tI) t) (hl:(t.length:Int)≤400):Dok (t,0):=⟨Int.le_refl _,by show(0:Int)≤(t.length:Int);omega,by show t.length≤400;omega,fun x hx=>by
 have:=ht.2 x hx
 simp only[tyOk,Lit.wf,Bool.and_eq_true,decide_eq_true_eq]at this
 have h1:(IntKind.i64).min= -9223372036854775808:=by decide
 have h2:(IntKind.i64).max=9223372036854775807:=by decide
 rw[h1,h2]at this
 omega⟩
theorem awake_k (hk:10000≤k) (K:Bool→Option α):f7 k K=K true:=by
 obtain⟨j,rfl⟩: ∃j,k=j+10000:=⟨k-10000,by omega⟩
 exact awake_eq j K
end
theorem made_eq {α:Type} {k:Nat} (hk:10000≤k) (t:List Int) (ht:tyOk (.sl tI) t) (K:Bool→Option α):f4 k t K=K true:=by
 simp only[f4,s4,SumT.leaf,SumT.pre,SumT.seq,SumT.cond,SumT.block,SumT.blockP,SumT.loop,zB]
 simp only[f10,s10,SumT.leaf,SumT.pre,SumT.seq,SumT.cond,SumT.block,SumT.blockP,SumT.loop,zB]
 simp only[f11,s11,SumT.leaf,SumT.pre,SumT.seq,SumT.cond,SumT.block,SumT.blockP,SumT.loop,zB]
 simp only[awake_k hk,cond_true]
 by_cases hl:(t.length:Int)≤400
 case neg=>rw[decide_eq_false hl,Bool.not_false,cond_true]
 rw[decide_eq_true hl,Bool.not_true,cond_false]
 obtain⟨d1,s,c,ws,fs,a1,hv,b1⟩:=f12_eq (α:=α) hk (dok0 ht hl)
 have hsz:=szOf_le s
 have hch:=chips_le hv.cd
 rw[b1]
 have ps:szOf ((mk s c ws fs).1,(mk s c ws fs).2.1,(mk s c ws fs).2.2.1,(mk s c ws fs).2.2.2.1,(mk s c ws fs).2.2.2.2.1,(mk s c ws fs).2.2.2.2.2.1)=szOf s:=rfl
 have pc:((mk s c ws fs).2.2.2.2.2.2.1,(mk s c ws fs).2.2.2.2.2.2.2.1,(mk s c ws fs).2.2.2.2.2.2.2.2.1,(mk s c ws fs).2.2.2.2.2.2.2.2.2.1)=c:=rfl
 simp only[f13_eq hk,ps,pc,f16_eq]
 rw[w64_id (x:=szOf s+2) (by omega) (by omega),w64_id (x:=3*szOf s) (by omega) (by omega),w64_id (x:=3*szOf s+2) (by omega) (by omega)]
 obtain⟨d2,v2,a2,g2,b2⟩:=f14_eq (α:=α) (k:=k) a1 (szOf s+2) (by omega)
 obtain⟨d3,v3,a3,g3,b3⟩:=f14_eq (α:=α) (k:=k) a2 (3*szOf s+2) (by omega)
 obtain⟨d4,v4,a4,b4⟩:=f15_eq (α:=α) (k:=k) a3 3 (by omega)
 rw[b2,b3,b4]
 have fin: ∀E:List Int,E.length≤100→(if 0+2≤[w64 (v2-1),w64 (v3-1)].length then f9 k (mk s c ws fs) ([w64 (v2-1),w64 (v3-1)].getD 0 (0:Int),[w64 (v2-1),w64 (v3-1)].getD 1 (0:Int)) E fun x=>K x else none)=K true:=fun E hE=>by
  rw[gd (by simp)]
  exact f9_eq hk (hv.oks hk) (fun w hw=>(hv.ok w hw).2.2.2.2) _ hE _
 cases v4
 ·exact fin [] (Nat.zero_le _)
 ·obtain⟨d5,v5,a5,g5,b5⟩:=f14_eq (α:=α) (k:=k) a4 (w64 (chips c+1)) (by rw[w64_id (by omega) (by omega)];omega)
  rw[cond_true,b5,gd (by simp;unfold room;omega)]
  exact fin [v5] (by simp)
end Go.Proofs.YtkeiedikiiccpaaGreatDoor.Am
