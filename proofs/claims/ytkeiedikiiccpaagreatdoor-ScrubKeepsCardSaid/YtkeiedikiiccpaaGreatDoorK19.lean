/- A part of the proof of ScrubKeeps: lemmas. No conditions beyond those of each lemma. -/
import Derived.Test.YtkeiedikiiccpaaGreatDoorK18
set_option linter.all false
namespace Go.Proofs.YtkeiedikiiccpaaGreatDoor.Am
open Go
theorem wu64_nn (x:Int):0≤wu64 x:=by
 simp only[wu64,IntKind.wrap,IntKind.bits,IntKind.signed]
 simp
 omega
section
variable {α:Type} {k:Nat} {s:DT4} {c:DT5} {ws:List DT0} {fs:List DT1}
theorem szOf_pos (h:vshape s=true):1≤szOf s:=by
 unfold szOf
 rw[h,cond_true]
 have:(0:Int)<2^(bitsOf s).toNat:=Int.pow_pos (by decide)
 omega
theorem f59_eq {d:DT9} (h:Dok d) (hs:vshape s=true): ∃(d':DT9) (p:DT4),Dok d'∧ ∀K:DT9→DT4→Option α,f59w k d s K=K d' p:=by
 obtain⟨h1,_,_⟩:=vshape_spec hs
 simp only[sl6,List.mem_cons,List.not_mem_nil,or_false,forall_eq_or_imp,forall_eq]at h1
 have step: ∀{d:DT9},Dok d→ ∀w:Int,0≤w∧w≤12→ ∃(d':DT9) (v:Int),Dok d'∧ ∀K:DT9→Int→Option α,(if 0≤wu64 w then f14w k d (w64 (1*2^(min (wu64 w).toNat 64))) K else none)=K d' v:=fun {d} hd w hw=>by
  have e:wu64 w=w:=wu64_id (by omega) (by omega)
  have h3:2^w.toNat≤2^12:=Nat.pow_le_pow_right (by omega) (by omega)
  rw[e]
  obtain⟨d',v,g1,_,g2⟩:=f14_eq (α:=α) (k:=k) hd (w64 (1*2^(min w.toNat 64))) (by rw[pow64 hw.1 hw.2];generalize 2^w.toNat=q at h3 ⊢;omega)
  exact⟨d',v,g1,fun K=>by rw[gd hw.1,g2]⟩
 simp only[f59w,s59w,SumT.leaf,SumT.pre,SumT.seq,SumT.cond,SumT.block,SumT.blockP,SumT.loop,zB]
 obtain⟨d1,v1,a1,b1⟩:=step h _ h1.1
 obtain⟨d2,v2,a2,b2⟩:=step a1 _ h1.2.1
 obtain⟨d3,v3,a3,b3⟩:=step a2 _ h1.2.2.1
 obtain⟨d4,v4,a4,b4⟩:=step a3 _ h1.2.2.2.1
 obtain⟨d5,v5,a5,b5⟩:=step a4 _ h1.2.2.2.2.1
 obtain⟨d6,v6,a6,b6⟩:=step a5 _ h1.2.2.2.2.2
 refine⟨d6,(v1,v2,v3,v4,v5,v6),a6,fun K=>?_⟩
 rw[b1,b2,b3,b4,b5,b6]
theorem f36_eq {d:DT9} (h:Dok d) (hs:vshape s=true) (n:Int) (hn:n≤1000) (b:Bool): ∃(d':DT9) (f:DT1),Dok d'∧ ∀K:DT9→DT1→Option α,f36w k d s n b K=K d' f:=by
 have fin: ∀(d:DT9) (f:DT1),Dok d→ ∃(d':DT9) (g:DT1),Dok d'∧ ∀K:DT9→DT1→Option α,(bif f.1==2 then K d (f.1,f.2.1,f.2.2.1,f.2.2.2.1,f.2.2.2.2.1,f.2.2.2.2.2.1,0,f.2.2.2.2.2.2.2.1,f.2.2.2.2.2.2.2.2.1,f.2.2.2.2.2.2.2.2.2.1,f.2.2.2.2.2.2.2.2.2.2)else bif f.1==3 then K d (f.1,f.2.1,f.2.2.1,f.2.2.2.1,f.2.2.2.2.1,0,f.2.2.2.2.2.2.1,f.2.2.2.2.2.2.2.1,f.2.2.2.2.2.2.2.2.1,f.2.2.2.2.2.2.2.2.2.1,f.2.2.2.2.2.2.2.2.2.2)else bif f.1==4 then K d (f.1,f.2.1,f.2.2.1,f.2.2.2.1,f.2.2.2.2.1,0,0,f.2.2.2.2.2.2.2.1,f.2.2.2.2.2.2.2.2.1,f.2.2.2.2.2.2.2.2.2.1,f.2.2.2.2.2.2.2.2.2.2)else bif f.1==5 then K d (f.1,f.2.1,f.2.2.1,f.2.2.2.1,0,0,0,f.2.2.2.2.2.2.2.1,f.2.2.2.2.2.2.2.2.1,f.2.2.2.2.2.2.2.2.2.1,f.2.2.2.2.2.2.2.2.2.2)else bif f.1==6 then K d (f.1,f.2.1,f.2.2.1,0,0,0,0,f.2.2.2.2.2.2.2.1,f.2.2.2.2.2.2.2.2.1,f.2.2.2.2.2.2.2.2.2.1,f.2.2.2.2.2.2.2.2.2.2)else K d f)=K d' g:=fun d f hd=>by
  cases f.1==2
  case true=>exact⟨d,_,hd,fun K=>rfl⟩
  cases f.1==3
  case true=>exact⟨d,_,hd,fun K=>rfl⟩
  cases f.1==4
  case true=>exact⟨d,_,hd,fun K=>rfl⟩
  cases f.1==5
  case true=>exact⟨d,_,hd,fun K=>rfl⟩
  cases f.1==6
  case true=>exact⟨d,_,hd,fun K=>rfl⟩
  exact⟨d,_,hd,fun K=>rfl⟩
 simp only[f36w,s36w,SumT.leaf,SumT.pre,SumT.seq,SumT.cond,SumT.block,SumT.blockP,SumT.loop,zB]
 obtain⟨d1,v1,a1,_,b1⟩:=f14_eq (α:=α) (k:=k) h 6 (by omega)
 obtain⟨d2,p,a2,b2⟩:=f59_eq (α:=α) (k:=k) a1 hs
 obtain⟨d3,v3,a3,_,b3⟩:=f14_eq (α:=α) (k:=k) a2 n (by omega)
 obtain⟨d4,v4,a4,_,b4⟩:=f14_eq (α:=α) (k:=k) a3 255 (by omega)
 obtain⟨d5,v5,a5,b5⟩:=f15_eq (α:=α) (k:=k) a4 2 (by omega)
 simp only[b1,b2,b3,b4,b5]
 cases v5
 case true=>
  obtain⟨d6,v6,a6,_,b6⟩:=f14_eq (α:=α) (k:=k) a5 8 (by omega)
  simp only[cond_true,b6,if_pos (wu64_nn _)]
  cases b
  case false=>
   simp only[cond_false]
   exact fin d6 (w64 (1+v1),p.1,p.2.1,p.2.2.1,p.2.2.2.1,p.2.2.2.2.1,p.2.2.2.2.2,v3,w8 (1*2^(min (wu64 v6).toNat 8)),0,false) a6
  obtain⟨d7,v7,a7,_,b7⟩:=f14_eq (α:=α) (k:=k) a6 256 (by omega)
  simp only[cond_true,b7]
  exact fin d7 (w64 (1+v1),p.1,p.2.1,p.2.2.1,p.2.2.2.1,p.2.2.2.2.1,p.2.2.2.2.2,v3,w8 (1*2^(min (wu64 v6).toNat 8)),bitI .and .u8 (w8 v7) (w8 (1*2^(min (wu64 v6).toNat 8))),true) a7
 simp only[cond_false]
 cases b
 case false=>
  simp only[cond_false]
  exact fin d5 (w64 (1+v1),p.1,p.2.1,p.2.2.1,p.2.2.2.1,p.2.2.2.2.1,p.2.2.2.2.2,v3,w8 (w64 (1+v4)),0,false) a5
 obtain⟨d7,v7,a7,_,b7⟩:=f14_eq (α:=α) (k:=k) a5 256 (by omega)
 simp only[cond_true,b7]
 exact fin d7 (w64 (1+v1),p.1,p.2.1,p.2.2.1,p.2.2.2.1,p.2.2.2.2.1,p.2.2.2.2.2,v3,w8 (w64 (1+v4)),bitI .and .u8 (w8 v7) (w8 (w64 (1+v4))),true) a7
theorem rnd1 (hk:10000≤k) {d:DT9} (h:Dok d) (hv:VM s c ws fs): ∃(d':DT9) (ws':List DT0),Dok d'∧VM s c ws' fs∧ ∀G:DT9→DT2→Option α,
  (f14w k d (szOf s) fun x25 x26=>f34w k x25 c.2.1 fun x27 x28=>f33 k (mk s c ws fs) x26 x28 fun x29 x30=>f15w k x27 6 fun x31 x32=>bif x32 then(f14w k x31 (szOf s) fun x33 x34=>f35 k x29 x34 fun x35 x36=>G x33 x35)else G x31 x29)=G d' (mk s c ws' fs):=by
 have hsz:=szOf_le s
 have hp:=szOf_pos hv.sh
 have hda:=hv.data
 have hch:=chips_le hv.cd
 obtain⟨d1,t,a1,g1,b1⟩:=f14_eq (α:=α) (k:=k) h (szOf s) (by omega)
 obtain⟨N,hN⟩: ∃N:Nat,c.2.1=N:=⟨c.2.1.toNat,by omega⟩
 obtain⟨d2,l,a2,l1,l2,b2⟩:=f34_eq (α:=α) hk a1 N (by omega)
 obtain⟨w1,v1,b3⟩:=f33_eq (α:=α) hk hv t g1.1 (g1.2 hp) l1 (by rw[l2,hN])
 obtain⟨d3,b,a3,b4⟩:=f15_eq (α:=α) (k:=k) a2 6 (by omega)
 rw[←hN]at b2
 simp only[b1,b2,b3,b4]
 cases b
 ·exact⟨d3,w1,a3,v1,fun G=>rfl⟩
 ·obtain⟨d4,t2,a4,g4,b5⟩:=f14_eq (α:=α) (k:=k) a3 (szOf s) (by omega)
  obtain⟨w2,v2,b6⟩:=f35_eq (α:=α) hk v1 t2 g4.1 (g4.2 hp)
  simp only[cond_true,b5,b6]
  exact⟨d4,w2,a4,v2,fun G=>rfl⟩
end
section
variable {α:Type} {k:Nat} {s:DT4} {c:DT5} {ws:List DT0} {fs:List DT1}
theorem rnd2 (hk:10000≤k) {d:DT9} (h:Dok d) (hv:VM s c ws fs): ∃(d':DT9) (ws':List DT0) (fs':List DT1),Dok d'∧VM s c ws' fs'∧ ∀G:DT9→DT2→Option α,
  (f15w k d 3 fun x71 x72=>f36w k x71 s (chips c) x72 fun x73 x74=>f15w k x73 2 fun x75 x76=>bif x76 then(f14w k x75 8 fun x77 x78=>if 0≤wu64 x78 then(f24 k (mk s c ws fs) (x74.1,x74.2.1,x74.2.2.1,x74.2.2.2.1,x74.2.2.2.2.1,x74.2.2.2.2.2.1,x74.2.2.2.2.2.2.1,x74.2.2.2.2.2.2.2.1,w8 (1*2^(min (wu64 x78).toNat 8)),0,x74.2.2.2.2.2.2.2.2.2.2) fun x79 x80=>G x77 x79)else none)else(f24 k (mk s c ws fs) x74 fun x85 x86=>G x75 x85))=G d' (mk s c ws' fs'):=by
 have hch:=chips_le hv.cd
 obtain⟨d1,v1,a1,b1⟩:=f15_eq (α:=α) (k:=k) h 3 (by omega)
 obtain⟨d2,f,a2,b2⟩:=f36_eq (α:=α) (k:=k) a1 hv.sh (chips c) (by omega) v1
 obtain⟨d3,v3,a3,b3⟩:=f15_eq (α:=α) (k:=k) a2 2 (by omega)
 simp only[b1,b2,b3]
 cases v3
 ·obtain⟨w1,g1,e,h1,h2⟩:=f24_eq (α:=α) hk hv f
  simp only[cond_false,h2]
  exact⟨d3,w1,g1,a3,h1,fun G=>rfl⟩
 ·obtain⟨d4,v4,a4,_,b4⟩:=f14_eq (α:=α) (k:=k) a3 8 (by omega)
  simp only[cond_true,b4,if_pos (wu64_nn _)]
  obtain⟨w1,g1,e,h1,h2⟩:=f24_eq (α:=α) hk hv (f.1,f.2.1,f.2.2.1,f.2.2.2.1,f.2.2.2.2.1,f.2.2.2.2.2.1,f.2.2.2.2.2.2.1,f.2.2.2.2.2.2.2.1,w8 (1*2^(min (wu64 v4).toNat 8)),0,f.2.2.2.2.2.2.2.2.2.2)
  simp only[h2]
  exact⟨d4,w1,g1,a4,h1,fun G=>rfl⟩
theorem f12_eq (hk:10000≤k) {d:DT9} (h:Dok d): ∃(d':DT9) (s:DT4) (c:DT5) (ws:List DT0) (fs:List DT1),Dok d'∧VM s c ws fs∧ ∀K:DT9→DT2→Option α,f12w k d K=K d' (mk s c ws fs):=by
 obtain⟨d1,s,a1,hs,b1⟩:=f31_eq (α:=α) hk h
 obtain⟨d2,c,a2,hc,b2⟩:=f32_eq (α:=α) hk a1
 have hv0:=VM.new hs hc
 have hsz:=szOf_le s
 obtain⟨d3,n,a3,g3,b3⟩:=f14_eq (α:=α) (k:=k) a2 6 (by omega)
 obtain⟨N,rfl⟩: ∃N:Nat,n=N:=⟨n.toNat,by have:=g3.1;omega⟩
 have hN:N≤5:=by have:=g3.2 (by omega);omega
 have hL: ∀x:DT9×List DT0, ∃y:DT9×List DT0,Dok x.1→VM s c x.2 []→Dok y.1∧VM s c y.2 []∧ ∀G:DT9→DT2→Option α,(f14w k x.1 (szOf s) fun x25 x26=>f34w k x25 c.2.1 fun x27 x28=>f33 k (mk s c x.2 []) x26 x28 fun x29 x30=>f15w k x27 6 fun x31 x32=>bif x32 then(f14w k x31 (szOf s) fun x33 x34=>f35 k x29 x34 fun x35 x36=>G x33 x35)else G x31 x29)=G y.1 (mk s c y.2 []):=fun x=>by
  by_cases hx:Dok x.1∧VM s c x.2 []
  ·obtain⟨d',w',h1,h2,h3⟩:=rnd1 (α:=α) hk hx.1 hx.2
   exact⟨(d',w'),fun _ _=>⟨h1,h2,h3⟩⟩
  ·exact⟨x,fun h1 h2=>absurd ⟨h1,h2⟩ hx⟩
 obtain⟨L,hL⟩:=Classical.axiomOfChoice hL
 let I1:=fun(_:Nat) (a:DT9×List DT0)=>Dok a.1∧VM s c a.2 []
 have hI1:I1 N (run (fun _ a=>L a) 0 N (d3,[])):=by
  have:=run_inv (f:=fun _ a=>L a) I1 N 0 (d3,[]) ⟨a3,hv0⟩ fun j a _ _ hI=>⟨(hL a hI.1 hI.2).1,(hL a hI.1 hI.2).2.1⟩
  exact this
 generalize hR1:run (fun _ a=>L a) 0 N (d3,([]:List DT0))=R1 at hI1
 obtain⟨d4,n2,a4,g4,b4⟩:=f14_eq (α:=α) (k:=k) hI1.1 6 (by omega)
 obtain⟨M,rfl⟩: ∃M:Nat,n2=M:=⟨n2.toNat,by have:=g4.1;omega⟩
 have hM:M≤5:=by have:=g4.2 (by omega);omega
 have hF: ∀x:DT9×List DT0×List DT1, ∃y:DT9×List DT0×List DT1,Dok x.1→VM s c x.2.1 x.2.2→Dok y.1∧VM s c y.2.1 y.2.2∧ ∀G:DT9→DT2→Option α,(f15w k x.1 3 fun x71 x72=>f36w k x71 s (chips c) x72 fun x73 x74=>f15w k x73 2 fun x75 x76=>bif x76 then(f14w k x75 8 fun x77 x78=>if 0≤wu64 x78 then(f24 k (mk s c x.2.1 x.2.2) (x74.1,x74.2.1,x74.2.2.1,x74.2.2.2.1,x74.2.2.2.2.1,x74.2.2.2.2.2.1,x74.2.2.2.2.2.2.1,x74.2.2.2.2.2.2.2.1,w8 (1*2^(min (wu64 x78).toNat 8)),0,x74.2.2.2.2.2.2.2.2.2.2) fun x79 x80=>G x77 x79)else none)else(f24 k (mk s c x.2.1 x.2.2) x74 fun x85 x86=>G x75 x85))=G y.1 (mk s c y.2.1 y.2.2):=fun x=>by
  by_cases hx:Dok x.1∧VM s c x.2.1 x.2.2
  ·obtain⟨d',w',f',h1,h2,h3⟩:=rnd2 (α:=α) hk hx.1 hx.2
   exact⟨(d',w',f'),fun _ _=>⟨h1,h2,h3⟩⟩
  ·exact⟨x,fun h1 h2=>absurd ⟨h1,h2⟩ hx⟩
 obtain⟨F,hF⟩:=Classical.axiomOfChoice hF
 let I2:=fun(_:Nat) (a:DT9×List DT0×List DT1)=>Dok a.1∧VM s c a.2.1 a.2.2
 have hI2:I2 M (run (fun _ a=>F a) 0 M (d4,R1.2,[])):=by
  have:=run_inv (f:=fun _ a=>F a) I2 M 0 (d4,R1.2,[]) ⟨a4,hI1.2⟩ fun j a _ _ hI=>⟨(hF a hI.1 hI.2).1,(hF a hI.1 hI.2).2.1⟩
  exact this
 generalize hR2:run (fun _ a=>F a) 0 M (d4,R1.2,([]:List DT1))=R2 at hI2
 refine⟨R2.1,s,c,R2.2.1,R2.2.2,hI2.1,hI2.2,fun K=>?_⟩
 have ps:szOf ((mk s c [] []).1,(mk s c [] []).2.1,(mk s c [] []).2.2.1,(mk s c [] []).2.2.2.1,(mk s c [] []).2.2.2.2.1,(mk s c [] []).2.2.2.2.2.1)=szOf s:=rfl
 simp only[f12w,s12w,SumT.leaf,SumT.pre,SumT.seq,SumT.cond,SumT.block,SumT.blockP,SumT.loop,zB]
 rw[b1,b2,f23_eq hk hs hc]
 simp only[f13_eq hk,ps,f16_eq]
 rw[b3]
 refine lp_run2 (fun i (a:DT9×List DT0)=>(a.1,zT2,mk s c a.2 [],szOf s,(N:Int)-(i:Int))) N (fun _ a=>L a) I1 (by omega) (a:=(d3,[])) ⟨a3,hv0⟩ ?_ ?_
 ·rintro i a q hi hI
  have:=hL a hI.1 hI.2
  refine⟨?_,this.1,this.2.1⟩
  simp only[]
  rw[decide_eq_true (show(N:Int)-i>0 by omega),cond_true]
  refine(this.2.2 fun d m=>q (d,zT2,m,szOf s,w64 ((N:Int)-i-1))).trans ?_
  rw[w64_id (by omega) (by omega),show(N:Int)-i-1=N-((i+1:Nat):Int) by omega]
 ·intro q _
  rw[hR1]
  simp only[]
  rw[decide_eq_false (show¬(N:Int)-N>0 by omega),cond_false,b4]
  refine lp_run2 (fun i (a:DT9×List DT0×List DT1)=>(a.1,zT2,mk s c a.2.1 a.2.2,(M:Int)-(i:Int))) M (fun _ a=>F a) I2 (by omega) (a:=(d4,R1.2,[])) ⟨a4,hI1.2⟩ ?_ ?_
  ·rintro i a q hi hI
   have:=hF a hI.1 hI.2
   refine⟨?_,this.1,this.2.1⟩
   simp only[]
   rw[decide_eq_true (show(M:Int)-i>0 by omega),cond_true]
   refine(this.2.2 fun d m=>q (d,zT2,m,w64 ((M:Int)-i-1))).trans ?_
   rw[w64_id (by omega) (by omega),show(M:Int)-i-1=M-((i+1:Nat):Int) by omega]
  ·intro q _
   rw[hR2]
   simp only[]
   rw[decide_eq_false (show¬(M:Int)-M>0 by omega),cond_false]
theorem dok0 {t:List Int} (ht:tyOk (.sl tI) t) (hl:(t.length:Int)≤400):Dok (t,0):=⟨Int.le_refl _,by show(0:Int)≤(t.length:Int);omega,by show t.length≤400;omega,fun x hx=>by
 have:=ht.2 x hx
 simp only[tyOk,Lit.wf,Bool.and_eq_true,decide_eq_true_eq]at this
 have h1:(IntKind.i64).min= -9223372036854775808:=by decide
 have h2:(IntKind.i64).max=9223372036854775807:=by decide
 rw[h1,h2]at this
 omega⟩
theorem awake_k (hk:10000≤k) (K:Bool→Option α):f7 k K=K true:=by
 obtain⟨j,rfl⟩: ∃j,k=j+10000:=⟨k-10000,by omega⟩
 exact awake_eq j K
end
section
variable {α:Type} {k:Nat} {s:DT4} {c:DT5} {ws:List DT0} {fs:List DT1}
theorem f45_ok (hk:10000≤k) (h:VM s c ws fs) (t:Int) (h0:0≤t) (h1:t<szOf s) (K:Int→Option α):f45 k (mk s c ws fs) t K=K 0:=by
 simp only[f45,s45,SumT.leaf,SumT.pre,SumT.seq,SumT.cond,SumT.block,SumT.blockP,SumT.loop,zB]
 have ps:szOf ((mk s c ws fs).1,(mk s c ws fs).2.1,(mk s c ws fs).2.2.1,(mk s c ws fs).2.2.2.1,(mk s c ws fs).2.2.2.2.1,(mk s c ws fs).2.2.2.2.2.1)=szOf s:=rfl
 simp only[f40_eq hk s c ws fs h.mb,h.mem,Bool.not_true,cond_false,f41_eq hk,ps]
 rw[decide_eq_false (by omega),decide_eq_false (by omega)]
 rfl
theorem f21_ok (hk:10000≤k) (h:VM s c ws fs) (t:Int) (h0:0≤t) (h1:t<szOf s) (K:DT8→Int→Option α):f21 k (mk s c ws fs) t [] K=K (lkR c (seenAt s c fs t ws)) 0:=by
 simp only[f21,s21,SumT.leaf,SumT.pre,SumT.seq,SumT.cond,SumT.block,SumT.blockP,SumT.loop,zB]
 have pc:((mk s c ws fs).2.2.2.2.2.2.1,(mk s c ws fs).2.2.2.2.2.2.2.1,(mk s c ws fs).2.2.2.2.2.2.2.2.1,(mk s c ws fs).2.2.2.2.2.2.2.2.2.1)=c:=rfl
 rw[f45_ok hk h t h0 h1,z0,cond_false,pc,f42_eq hk c [] (Nat.zero_le 100),eok_nil h.cd,z0,cond_false]
 exact(read_eq hk h t h0 h1).2.2.1 _
theorem keeps_eq (hk:10000≤k) (t:List Int) (ht:tyOk (.sl tI) t) (n:Int) (K:Bool→Option α):f6 k t n K=K true:=by
 simp only[f6,s6,SumT.leaf,SumT.pre,SumT.seq,SumT.cond,SumT.block,SumT.blockP,SumT.loop,zB]
 simp only[f10,s10,SumT.leaf,SumT.pre,SumT.seq,SumT.cond,SumT.block,SumT.blockP,SumT.loop,zB]
 simp only[f11,s11,SumT.leaf,SumT.pre,SumT.seq,SumT.cond,SumT.block,SumT.blockP,SumT.loop,zB]
 simp only[awake_k hk,Bool.not_true,cond_false]
 by_cases hl:(t.length:Int)≤400
 case neg=>rw[decide_eq_false hl,Bool.not_false,cond_true]
 rw[decide_eq_true hl,Bool.not_true,cond_false]
 obtain⟨d1,s,c,ws,fs,a1,h,b1⟩:=f12_eq (α:=α) hk (dok0 ht hl)
 have hsz:=szOf_le s
 have hp:=szOf_pos h.sh
 have ps:szOf ((mk s c ws fs).1,(mk s c ws fs).2.1,(mk s c ws fs).2.2.1,(mk s c ws fs).2.2.2.1,(mk s c ws fs).2.2.2.2.1,(mk s c ws fs).2.2.2.2.2.1)=szOf s:=rfl
 rw[b1]
 simp only[f13_eq hk,ps,f17_eq n (szOf s) (by omega)]
 have hi:=modI_le n hp
 generalize modI n (szOf s)=i at hi
 obtain⟨hv,r1,_,_⟩:=read_eq (α:=α) hk h i hi.1 hi.2
 obtain⟨_,r2,_,_⟩:=read_eq (α:=α) hk hv i hi.1 hi.2
 obtain⟨k1,k2,k3⟩:=keeps h i hi.1 hi.2
 rw[f21_ok hk h i hi.1 hi.2,demand_eq hk h i hi.1 hi.2,f21_ok hk hv i hi.1 hi.2]
 simp only[z0,cond_false,f20_eq hk _ r1,Bool.not_true]
 generalize lkN s c fs i ws=ws' at hv r2 k1 k2 k3
 generalize ha:lkR c (seenAt s c fs i ws)=a at r1 k1 k2 k3
 by_cases h2:a.1=2
 ·rw[h2,k1 h2]
  rfl
 rw[beq_eq_false_iff_ne.2 h2,cond_false]
 by_cases h1:a.1=1
 ·obtain⟨k4,k5⟩:=k2 h1
  have hw:=r1.wd
  rw[h1,k5,f22_eq _ (by omega) (by unfold room;omega)]
  rcases k4 with k4|k4<;>rw[k4]<;>rfl
 rw[beq_eq_false_iff_ne.2 h1,cond_false]
 have e:=k3 h2 h1
 subst e
 rw[ha,f20_eq hk _ r1,cond_true,f19_eq hk (hv.oks hk)]
end
end Go.Proofs.YtkeiedikiiccpaaGreatDoor.Am
