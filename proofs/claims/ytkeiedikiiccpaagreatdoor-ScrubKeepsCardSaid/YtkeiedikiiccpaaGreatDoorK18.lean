/- A part of the proof of ScrubKeeps: lemmas. No conditions beyond those of each lemma. -/
import Derived.Test.YtkeiedikiiccpaaGreatDoorK17
import Derived.Test.YtkeiedikiiccpaaGreatDoorK15
import Derived.Test.YtkeiedikiiccpaaGreatDoorK16
set_option linter.all false
namespace Go.Proofs.YtkeiedikiiccpaaGreatDoor.Am
open Go
def ub (l:List Int):List F8:=l.map toG
theorem bs_ub {l:List Int} (h:Byt l):bs (ub l)=l:=by
 unfold bs ub
 rw[List.map_map]
 conv=>rhs;rw[←List.map_id l]
 exact List.map_congr_left fun x hx=>ofG_toG (h x hx).1 (h x hx).2
theorem ub_len (l:List Int):(ub l).length=l.length:=List.length_map _
theorem ub_bs (l:List F8):ub (bs l)=l:=bs_inj (bs_ub (Byt.bs l))
def dcd (c:DT5) (w:List F8):DT8:=if c.1=2 then refDec (chips c).toNat (min c.2.2.2.toNat (c.2.2.1.toNat/2)) (syn w c.2.2.1.toNat) w []else(hdec w).1
def ecd (c:DT5) (x:List F8):List F8:=if c.1=2 then enc x c.2.2.1.toNat else x++[hsyn x]
def lkR (c:DT5) (v:DT0):DT8:=bif v.2.2 then(3,[],[])else if(dcd c (ub v.2.1)).1=2 then(2,[],[])else((dcd c (ub v.2.1)).1,(dcd c (ub v.2.1)).2.1.take c.2.1.toNat,(dcd c (ub v.2.1)).2.2)
def lkP (c:DT5) (l v:DT0):Option (List Int×Bool):=bif v.2.2 then none else if(dcd c (ub v.2.1)).1=2 then some (l.2.1,true)else if(dcd c (ub v.2.1)).1=1 then some (bs (ecd c (ub ((dcd c (ub v.2.1)).2.1.take c.2.1.toNat))),false)else none
def seenAt (s:DT4) (c:DT5) (fs:List DT1) (t:Int) (ws:List DT0):DT0:=seenW fs (atP4 s t) (lkW t (chips c).toNat ws)
def optP (ws:List DT0) (t:Int):Option (List Int×Bool)→List DT0
 | none=>ws
 | some p=>putW ws (t,p)
def lkN (s:DT4) (c:DT5) (fs:List DT1) (t:Int) (ws:List DT0):List DT0:=optP ws t (lkP c (lkW t (chips c).toNat ws) (seenAt s c fs t ws))
theorem eok_nil {c:DT5} (hc:vcode c=true):eok c []=0:=by
 show(bif decide ((0:Int)>bif c.1==1 then 0 else c.2.2.1)then(3:Int)else 0)=0
 by_cases h2:c.1=2
 ·obtain⟨d,ch,f,rfl,a1,a2,a3,a4,a5⟩:=vcode_sym hc h2
  show(bif decide ((0:Int)>(ch:Int))then(3:Int)else 0)=0
  rw[decide_eq_false (show¬(0:Int)>(ch:Int) by omega)]
  rfl
 ·have:=vcode_bit hc h2
  subst this
  rfl
section
variable {α:Type} {k:Nat} {s:DT4} {c:DT5} {ws:List DT0} {fs:List DT1}
theorem dec_nil (hk:10000≤k) (hc:vcode c=true) {w:List Int} (hb:Byt w) (hl:((w.length:Nat):Int)=chips c):
  (∀K:DT8→Int→Option α,f77 k c w [] K=K (dcd c (ub w)) 0)∧(∀K:DT8→Int→Option α,f105 k c w [] K=K (dcd c (ub w)) 0)∧RdOk (chips c) (dcd c (ub w)):=by
 have he:=eok_nil hc
 obtain⟨w,rfl⟩:=exists_bs hb
 rw[ub_bs]
 simp only[f77,s77,SumT.leaf,SumT.pre,SumT.seq,SumT.cond,SumT.block,SumT.blockP,SumT.loop,zB]
 simp only[f105,s105,SumT.leaf,SumT.pre,SumT.seq,SumT.cond,SumT.block,SumT.blockP,SumT.loop,zB]
 simp only[f65_eq,f78_eq,hc,Bool.not_true,cond_false,f66_eq,f42_eq hk _ [] (Nat.zero_le 100),f86_eq hk _ hc [] (Nat.zero_le 100),he]
 have hch:w64 (c.2.1+c.2.2.1)=chips c:=rfl
 rw[hch,hl]
 simp only[bne_self_eq_false,cond_false]
 rw[bs_len]at hl
 by_cases h2:c.1=2
 ·obtain⟨d,ch,f,rfl,a1,a2,a3,a4,a5⟩:=vcode_sym hc h2
  have hcs:chips (2,(d:Int),(ch:Int),(f:Int))=((d+ch:Nat):Int):=w64_id (by simp only[];omega) (by simp only[];omega)
  have e:dcd (2,(d:Int),(ch:Int),(f:Int)) w=refDec (d+ch) (min f ((ch-0)/2)) (syn w ch) w []:=by
   unfold dcd
   rw[if_pos rfl,hcs]
   simp only[Int.toNat_natCast,Nat.sub_zero]
  rw[hcs]at hl ⊢
  have hw:w.length=d+ch:=by omega
  have hE:ErOk [] (d+ch) ch:=⟨List.Pairwise.nil,(fun p hp=>nomatch hp),Nat.zero_le _⟩
  rw[e]
  have hs:=dec_same d ch f a2 a4 w hw [] hE
  rw[List.length_nil]at hs
  refine⟨fun K=>?_,fun K=>?_,refDec_ok (by omega) hw⟩
  ·rw[←hs]
   exact f104_eq hk d ch f a1 a2 a3 a4 a5 hc w hw [] hE K
  ·exact f128_eq hk d ch f a1 a2 a3 a4 a5 hc w hw [] hE K
 ·have:=vcode_bit hc h2
  subst this
  have hw:w.length=9:=by
   have:chips (1,8,1,1)=9:=rfl
   omega
  simp only[z1,z2,z3,cond_true,cond_false]
  exact⟨fun K=>f103_eq hk w hw _,fun K=>f129_eq hk w hw _,hdec_ok hw⟩
theorem enc_nil (hk:10000≤k) (hc:vcode c=true) {x:List Int} (hb:Byt x) (hl:((x.length:Nat):Int)=c.2.1):
  (∀K:List Int→Int→Option α,f98 k c x K=K (bs (ecd c (ub x))) 0)∧(∀K:List Int→Int→Option α,f58 k c x K=K (bs (ecd c (ub x))) 0)∧(((ecd c (ub x)).length:Nat):Int)=chips c:=by
 obtain⟨x,rfl⟩:=exists_bs hb
 rw[ub_bs]
 simp only[f98,s98,SumT.leaf,SumT.pre,SumT.seq,SumT.cond,SumT.block,SumT.blockP,SumT.loop,zB]
 simp only[f58,s58,SumT.leaf,SumT.pre,SumT.seq,SumT.cond,SumT.block,SumT.blockP,SumT.loop,zB]
 simp only[f65_eq,f78_eq,hc,Bool.not_true,cond_false]
 rw[hl]
 simp only[bne_self_eq_false,cond_false]
 rw[bs_len]at hl
 by_cases h2:c.1=2
 ·obtain⟨d,ch,f,rfl,a1,a2,a3,a4,a5⟩:=vcode_sym hc h2
  have hcs:chips (2,(d:Int),(ch:Int),(f:Int))=((d+ch:Nat):Int):=w64_id (by simp only[];omega) (by simp only[];omega)
  have hl:((x.length:Nat):Int)=(d:Int):=hl
  have hw:x.length=d:=by omega
  have e:ecd (2,(d:Int),(ch:Int),(f:Int)) x=enc x ch:=by
   unfold ecd
   rw[if_pos rfl,Int.toNat_natCast]
  rw[e]
  refine⟨fun K=>f113_eq hk d ch f a1 a2 a3 a4 a5 x hw _,fun K=>f89_eq hk d ch f a1 a2 a3 a4 a5 x hw _,?_⟩
  rw[hcs,show(enc x ch).length=d+ch by unfold enc;rw[List.length_append,List.length_map,List.length_range,hw]]
 ·have:=vcode_bit hc h2
  subst this
  have hw:x.length=8:=by
   have hl:((x.length:Nat):Int)=8:=hl
   omega
  have hlen:(bs x).length=8:=by rw[bs_len,hw]
  simp only[z1,z2,z3,cond_true,cond_false]
  have e:ecd (1,8,1,1) x=x++[hsyn x]:=if_neg (by decide)
  have eb:bs (x++[hsyn x])=bs x++[ofG (hsyn x)]:=(bs_append x [hsyn x]).symm
  rw[e,eb]
  refine⟨fun K=>?_,fun K=>?_,?_⟩
  ·rw[f114_eq hk x hw,z0,cond_false]
   unfold cloneF
   rw[gd (by rw[hlen];unfold room;omega)]
   simp only[]
   rw[gd (by rw[hlen];unfold room;simp)]
  ·rw[f90_eq hk x hw,gd (by rw[hlen];unfold room;omega),gd (by rw[hlen];unfold room;simp)]
  ·rw[List.length_append,hw]
   rfl
theorem VM.seen (h:VM s c ws fs) (t:Int):(seenAt s c fs t ws).1=t∧((List.length (seenAt s c fs t ws).2.1:Nat):Int)=chips c∧Byt (seenAt s c fs t ws).2.1∧(seenAt s c fs t ws).2.2=(lkW t (chips c).toNat ws).2.2:=by
 obtain⟨l1,l2,l3⟩:=h.lk t
 obtain⟨q1,q2,q3,q4⟩:=seenW_ok fs (atP4 s t) (lkW t (chips c).toNat ws) l3
 exact⟨q1.trans l1,by unfold seenAt;rw[q2,l2],q3,q4⟩
theorem read_eq (hk:10000≤k) (h:VM s c ws fs) (t:Int) (h0:0≤t) (h1:t<szOf s):
  VM s c (lkN s c fs t ws) fs∧LkOk (lkR c (seenAt s c fs t ws))∧(∀K:DT8→Option α,f46 k (mk s c ws fs) t [] K=K (lkR c (seenAt s c fs t ws)))∧(∀K:DT2→DT8→Option α,f43w k (mk s c ws fs) t [] K=K (mk s c (lkN s c fs t ws) fs) (lkR c (seenAt s c fs t ws))):=by
 have hch:=chips_le h.cd
 have hda:=h.data
 obtain⟨l1,l2,l3⟩:=h.lk t
 have hst:=h.so
 have hmb:=h.mb
 obtain⟨q1,q2,q3,q4⟩:=h.seen t
 have hR:LkOk (lkR c (seenAt s c fs t ws))∧(∀K:DT8→Option α,f46 k (mk s c ws fs) t [] K=K (lkR c (seenAt s c fs t ws))):=by
  simp only[f46,s46,SumT.leaf,SumT.pre,SumT.seq,SumT.cond,SumT.block,SumT.blockP,SumT.loop,zB]
  simp only[f76_eq hk h t h0 h1]
  simp only[show seenW fs (atP4 s t) (lkW t (chips c).toNat ws)=seenAt s c fs t ws from rfl]
  unfold lkR
  generalize seenAt s c fs t ws=v at q1 q2 q3 q4
  cases hp:v.2.2
  case true=>exact⟨⟨Nat.zero_le _,Nat.zero_le _⟩,fun K=>rfl⟩
  obtain⟨d1,d2,d3⟩:=dec_nil (α:=α) hk h.cd q3 q2
  have pc:((mk s c ws fs).2.2.2.2.2.2.1,(mk s c ws fs).2.2.2.2.2.2.2.1,(mk s c ws fs).2.2.2.2.2.2.2.2.1,(mk s c ws fs).2.2.2.2.2.2.2.2.2.1)=c:=rfl
  simp only[pc,d1,cond_false]
  generalize dcd c (ub v.2.1)=r at d3
  by_cases hr2:r.1=2
  ·rw[hr2]
   exact⟨⟨Nat.zero_le _,Nat.zero_le _⟩,fun K=>by rw[if_pos rfl];rfl⟩
  ·obtain⟨b1,b2⟩:=d3.wd hr2
   have ht:List.length (r.2.1.take c.2.1.toNat)=c.2.1.toNat:=by rw[List.length_take];omega
   have pd:(mk s c ws fs).2.2.2.2.2.2.2.1=c.2.1:=rfl
   have e2:(r.1==2)=false:=beq_eq_false_iff_ne.2 hr2
   have g1:(0:Int)≤0∧(0:Int)≤c.2.1∧c.2.1≤((List.length r.2.1:Nat):Int):=⟨by omega,by omega,by omega⟩
   have g2:c.2.1≤c.2.1∧c.2.1≤((List.length r.2.1:Nat):Int):=⟨by omega,by omega⟩
   have g3:List.length (r.2.1.take c.2.1.toNat)*1≤room:=by rw[ht];unfold room;omega
   simp only[pd,e2,cond_false,if_pos g1,if_pos g2,if_pos g3,if_neg hr2]
   exact⟨⟨by show List.length (r.2.1.take c.2.1.toNat)≤100;omega,d3.ps⟩,fun K=>by trivial⟩
 suffices hN:VM s c (lkN s c fs t ws) fs∧(∀K:DT2→DT8→Option α,f43w k (mk s c ws fs) t [] K=K (mk s c (lkN s c fs t ws) fs) (lkR c (seenAt s c fs t ws)))from⟨hN.1,hR.1,hR.2,hN.2⟩
 simp only[f43w,s43w,SumT.leaf,SumT.pre,SumT.seq,SumT.cond,SumT.block,SumT.blockP,SumT.loop,zB]
 simp only[hR.2]
 unfold lkN lkP lkR
 generalize hv:seenAt s c fs t ws=v at q1 q2 q3 q4
 cases hp:v.2.2
 case true=>exact⟨h,fun K=>rfl⟩
 simp only[cond_false]
 obtain⟨d1,d2,d3⟩:=dec_nil (α:=α) hk h.cd q3 q2
 generalize dcd c (ub v.2.1)=r at d3
 by_cases hr2:r.1=2
 ·simp only[if_pos hr2]
  refine⟨h.put h0 h1 l2 l3,fun K=>?_⟩
  show f75w k (mk s c ws fs) t _=_
  simp only[f75w,s75w,SumT.leaf,SumT.pre,SumT.seq,SumT.cond,SumT.block,SumT.blockP,SumT.loop,zB]
  rw[f100_eq hk s c ws fs t hst hmb h.cd,l1,f99w_eq hk s c ws fs _ hst hmb.hw (by show List.length (lkW t (chips c).toNat ws).2.1<1000;omega)]
  rfl
 ·obtain⟨b1,b2⟩:=d3.wd hr2
  have ht:List.length (r.2.1.take c.2.1.toNat)=c.2.1.toNat:=by rw[List.length_take];omega
  have hbt:Byt (r.2.1.take c.2.1.toNat):=fun y hy=>b1 y (List.mem_of_mem_take hy)
  simp only[if_neg hr2]
  rcases d3.oc with h3|h3|h3
  ·rw[h3]
   exact⟨h,fun K=>rfl⟩
  ·rw[h3]
   have pc:((mk s c ws fs).2.2.2.2.2.2.1,(mk s c ws fs).2.2.2.2.2.2.2.1,(mk s c ws fs).2.2.2.2.2.2.2.2.1,(mk s c ws fs).2.2.2.2.2.2.2.2.2.1)=c:=rfl
   obtain⟨o1,o2,o4⟩:=enc_nil (α:=α) hk h.cd hbt (by rw[ht];omega)
   refine⟨h.put h0 h1 (by show((List.length (bs _):Nat):Int)=_;rw[bs_len];exact o4) (Byt.bs _),fun K=>?_⟩
   show f74ww k (mk s c ws fs) t (r.2.1.take c.2.1.toNat) _=_
   simp only[f74ww,s74ww,SumT.leaf,SumT.pre,SumT.seq,SumT.cond,SumT.block,SumT.blockP,SumT.loop,zB]
   rw[pc,o1,f99w_eq hk s c ws fs _ hst hmb.hw (by show List.length (bs _)<1000;rw[bs_len];omega)]
   rfl
  ·exact absurd h3 hr2
theorem demand_eq (hk:10000≤k) (h:VM s c ws fs) (t:Int) (h0:0≤t) (h1:t<szOf s) (K:DT2→DT8→Int→Option α):
  f18 k (mk s c ws fs) t [] K=K (mk s c (lkN s c fs t ws) fs) (lkR c (seenAt s c fs t ws)) 0:=by
 simp only[f18,s18,SumT.leaf,SumT.pre,SumT.seq,SumT.cond,SumT.block,SumT.blockP,SumT.loop,zB]
 have ps:szOf ((mk s c ws fs).1,(mk s c ws fs).2.1,(mk s c ws fs).2.2.1,(mk s c ws fs).2.2.2.1,(mk s c ws fs).2.2.2.2.1,(mk s c ws fs).2.2.2.2.2.1)=szOf s:=rfl
 have pc:((mk s c ws fs).2.2.2.2.2.2.1,(mk s c ws fs).2.2.2.2.2.2.2.1,(mk s c ws fs).2.2.2.2.2.2.2.2.1,(mk s c ws fs).2.2.2.2.2.2.2.2.2.1)=c:=rfl
 simp only[f39_eq hk s c ws fs h.mb,f40_eq hk s c ws fs h.mb,h.mem,Bool.not_true,cond_false,f41_eq hk,ps,pc,f42_eq hk c [] (Nat.zero_le 100),eok_nil h.cd,z0]
 rw[decide_eq_false (by omega),decide_eq_false (by omega)]
 simp only[cond_false]
 exact(read_eq hk h t h0 h1).2.2.2 _
end
theorem indep {n:Nat} {P:List Nat} {Y:Nat→F8} (hn:n≤64) (hd:P.Nodup) (hl: ∀p∈P,p<n) (h: ∀j,j<P.length→lsum P (fun p=>gmul (gpow (PX n p) j) (Y p))=0): ∀p∈P,Y p=0:=fun p hp=>by
 let y:F8→F8:=fun x=>match(P.find? fun q=>PX n q==x)with
  | some q=>Y q
  | none=>0
 have hy: ∀q∈P,y (PX n q)=Y q:=fun q hq=>by
  show(match(P.find? fun r=>PX n r==PX n q)with|some q=>Y q|none=>0)=_
  cases hf:P.find? fun r=>PX n r==PX n q with
  | none=>
   have:=List.find?_eq_none.1 hf q hq
   simp at this
  | some r=>
   have e1:=List.find?_some hf
   have e2:=List.mem_of_find?_eq_some hf
   rw[beq_iff_eq]at e1
   show Y r=Y q
   rw[PX_inj hn (hl r e2) (hl q hq) e1]
 have hmap: ∀(l:List Nat) (f:F8→F8),lsum (l.map (PX n)) f=lsum l fun q=>f (PX n q):=fun l f=>by
  induction l with
  | nil=>rfl
  | cons a l ih=>exact congrArg (f (PX n a)^^^ ·) ih
 have:=vand (P.map (PX n)) y (PX_nodup hn hd hl) (fun k hk=>by
  rw[List.length_map]at hk
  rw[hmap, ←h k hk]
  exact lsum_congr fun q hq=>by rw[hy q hq,gmul_comm]) (PX n p) (List.mem_map_of_mem hp)
 rwa[hy p hp]at this
theorem lsum_filter {β:Type} {f:β→F8} {q:β→Bool}: ∀{l:List β},(∀x∈l,q x=false→f x=0)→lsum (l.filter q) f=lsum l f
 | [],_=>rfl
 | x::l,h=>by
  have ih:=lsum_filter (l:=l) fun y hy=>h y (by simp[hy])
  rw[List.filter_cons]
  cases hq:q x
  ·rw[if_neg (by simp)]
   show _=f x^^^lsum l f
   rw[h x (by simp) hq,zx,ih]
  ·rw[if_pos rfl]
   exact congrArg (f x^^^ ·) ih
theorem gl_swap {β:Type} (l:List β) (F:Nat→β→F8): ∀v,gsum v (fun k=>lsum l (F k))=lsum l fun p=>gsum v fun k=>F k p
 | 0=>(lsum_zero fun _ _=>rfl).symm
 | v+1=>by
  simp only[gsum]
  rw[gl_swap l F v,lsum_add]
def SS (n:Nat) (e:Nat→F8) (j:Nat):F8:=lsum (List.range n) fun p=>gmul (gpow (PX n p) j) (e p)
theorem SS_add (n:Nat) (e f:Nat→F8) (j:Nat):SS n (fun p=>e p^^^f p) j=SS n e j^^^SS n f j:=by
 unfold SS
 rw[←lsum_add]
 exact lsum_congr fun p _=>gmul_add _ _ _
theorem lsum_snoc {β:Type} (f:β→F8) (x:β): ∀l:List β,lsum (l++[x]) f=lsum l f^^^f x
 | []=>by
  show f x^^^0=0^^^f x
  rw[x0,zx]
 | y::l=>by
  show f y^^^lsum (l++[x]) f=(f y^^^lsum l f)^^^f x
  rw[lsum_snoc f x l,BitVec.xor_assoc]
theorem syn1_sum (w:List F8) (j:Nat):syn1 w j=SS w.length (fun p=>w.getD p 0) j:=by
 have key: ∀m,run (fun i v=>gmul v (gpow 2 j)^^^w.getD i 0) 0 m 0=lsum (List.range m) fun p=>gmul (gpow (gpow 2 j) (m-1-p)) (w.getD p 0):=fun m=>by
  induction m with
  | zero=>rfl
  | succ m ih=>
   rw[run_succ,ih,List.range_succ,lsum_snoc,Nat.zero_add,show m+1-1-m=0 by omega,show gpow (gpow 2 j) 0=1 from rfl,one_gmul,gmul_comm, ←lsum_mul]
   congr 1
   refine lsum_congr fun p hp=>?_
   have hp:=List.mem_range.1 hp
   rw[←gmul_assoc,show m+1-1-p=(m-1-p)+1 by omega]
   congr 1
   rw[gmul_comm]
   rfl
 unfold syn1 SS
 rw[key]
 refine lsum_congr fun p _=>?_
 show gmul (gpow (gpow 2 j) _) _=gmul (gpow (gpow 2 _) j) _
 rw[←gpow_mul, ←gpow_mul,Nat.mul_comm]
theorem syn_sum {w:List F8} {n c j:Nat} (hw:w.length=n) (hj:j<c):at0 (syn w c) j=SS n (fun p=>w.getD p 0) j:=by
 show(syn w c).getD j 0=_
 unfold syn
 rw[map_range_getD _ _ _ _ hj,syn1_sum,hw]
def dif (n:Nat) (u w:List F8):List Nat:=(List.range n).filter fun i=>u.getD i 0 !=w.getD i 0
def Cw (n c:Nat) (u:List F8):Prop:= ∀j,j<c→SS n (fun p=>u.getD p 0) j=0
def sup (n:Nat) (e:Nat→F8):List Nat:=(List.range n).filter fun p=>e p !=0
theorem sup_lt {n p:Nat} {e:Nat→F8} (h:p∈sup n e):p<n:=List.mem_range.1 (List.mem_filter.1 h).1
theorem sup_nodup (n:Nat) (e:Nat→F8):(sup n e).Nodup:=List.Pairwise.filter _ List.nodup_range
theorem SS_sup (n:Nat) (e:Nat→F8) (j:Nat):SS n e j=lsum (sup n e) fun p=>gmul (gpow (PX n p) j) (e p):=by
 refine(lsum_filter fun p _ h=>?_).symm
 have h:e p=0:=by simpa using h
 rw[h,gmul_zero]
theorem SS_zero {n c:Nat} {e:Nat→F8} (hn:n≤64) (h: ∀j,j<c→SS n e j=0) (hs:(sup n e).length≤c): ∀p,p<n→e p=0:=fun p hp=>by
 have h1:=indep (Y:=e) hn (sup_nodup n e) (fun p hp=>sup_lt hp) fun j hj=>by
  rw[←SS_sup]
  exact h j (by omega)
 by_cases h0:e p=0
 ·exact h0
 ·exact h1 p (List.mem_filter.2 ⟨List.mem_range.2 hp,by simpa using h0⟩)
theorem nodup_len {β:Type} [DecidableEq β]: ∀{l m:List β},l.Nodup→(∀x∈l,x∈m)→l.length≤m.length
 | [],_,_,_=>Nat.zero_le _
 | x::l,m,hn,h=>by
  have hn:=List.nodup_cons.1 hn
  have h1:=h x (by simp)
  have h2:=nodup_len (l:=l) (m:=m.erase x) hn.2 fun y hy=>(List.mem_erase_of_ne fun e:y=x=>hn.1 (by rw[←e];exact hy)).2 (h y (by simp[hy]))
  rw[List.length_erase_of_mem h1]at h2
  have:=List.length_pos_of_mem h1
  rw[List.length_cons]
  omega
theorem sup_add (n:Nat) (e f:Nat→F8):(sup n fun p=>e p^^^f p).length≤(sup n e).length+(sup n f).length:=by
 rw[←List.length_append]
 refine nodup_len (sup_nodup _ _) fun p hp=>?_
 have h1:=List.mem_filter.1 hp
 have h2:e p^^^f p≠0:=by simpa using h1.2
 rw[List.mem_append]
 by_cases h:e p=0
 ·refine .inr (List.mem_filter.2 ⟨h1.1,?_⟩)
  rw[h,zx]at h2
  simpa using h2
 ·exact .inl (List.mem_filter.2 ⟨h1.1,by simpa using h⟩)
section
variable {n c most:Nat}
theorem interp: ∀xs:List F8, ∃l:Nat→F8, ∀x∈xs,gsum xs.length (fun k=>gmul (l k) (gpow x k))=gpow x xs.length
 | []=>⟨fun _=>0,fun x hx=>nomatch hx⟩
 | a::xs=>by
  obtain⟨l,hl⟩:=interp xs
  let m:Nat→F8:=fun k=>if k<xs.length then l k else 1
  refine⟨fun k=>(if k=0 then 0 else m (k-1))^^^gmul a (m k),fun x hx=>?_⟩
  have e1:gsum (xs.length+1) (fun k=>gmul (m k) (gpow x k))=gsum xs.length (fun k=>gmul (l k) (gpow x k))^^^gpow x xs.length:=by
   rw[gsum,show m xs.length=1 from if_neg (by omega),one_gmul]
   congr 1
   exact gsum_congr fun k hk=>by rw[show m k=l k from if_pos hk]
  have e2:gsum (xs.length+1) (fun k=>gmul ((if k=0 then 0 else m (k-1))^^^gmul a (m k)) (gpow x k))=gsum (xs.length+1) (fun k=>gmul (if k=0 then 0 else m (k-1)) (gpow x k))^^^gmul a (gsum (xs.length+1) fun k=>gmul (m k) (gpow x k)):=by
   rw[←gsum_mul, ←gsum_add]
   exact gsum_congr fun k _=>by rw[add_gmul,gmul_assoc]
  have e3:gsum (xs.length+1) (fun k=>gmul (if k=0 then 0 else m (k-1)) (gpow x k))=gmul x (gsum xs.length fun k=>gmul (l k) (gpow x k)):=by
   rw[gsum_front, ←gsum_mul]
   rw[show gmul (if 0=0 then 0 else m (0-1)) (gpow x 0)=0 by rw[if_pos rfl,zero_gmul],zx]
   refine gsum_congr fun k hk=>?_
   rw[if_neg (by omega),Nat.add_sub_cancel,show m k=l k from if_pos hk, ←gmul_assoc,gmul_comm x,gmul_assoc]
   congr 1
   exact gmul_comm _ _
  show gsum (xs.length+1) _=gpow x (xs.length+1)
  rw[e2,e3,e1,show gpow x (xs.length+1)=gmul x (gpow x xs.length)from gmul_comm _ _]
  rcases List.mem_cons.1 hx with rfl|hx
  ·rw[gmul_add, ←BitVec.xor_assoc,xx,zx]
  ·rw[hl x hx,xx,gmul_zero,x0]
theorem HS_of {e:Nat→F8} {s:Nat→F8} (hs: ∀j,j<c→s j=SS n e j) {v:Nat} (l:Nat→F8) (i:Nat) (hi:i+v<c):
  gsum v (fun k=>gmul (l k) (s (i+k)))^^^s (i+v)=lsum (sup n e) fun p=>gmul (gpow (PX n p) i) (gmul (e p) (gsum v (fun k=>gmul (l k) (gpow (PX n p) k))^^^gpow (PX n p) v)):=by
 have e1:gsum v (fun k=>gmul (l k) (s (i+k)))=gsum v fun k=>lsum (sup n e) fun p=>gmul (gpow (PX n p) i) (gmul (e p) (gmul (l k) (gpow (PX n p) k))):=gsum_congr fun k hk=>by
  rw[hs _ (by omega),SS_sup, ←lsum_mul]
  refine lsum_congr fun p _=>?_
  rw[gpow_add]
  generalize gpow (PX n p) i=a
  generalize gpow (PX n p) k=b
  rw[gmul_assoc, ←gmul_assoc (l k),gmul_comm (l k),gmul_assoc a]
  congr 1
  rw[gmul_comm b, ←gmul_assoc,gmul_comm (l k),gmul_assoc]
 rw[e1,gl_swap,hs _ hi,SS_sup, ←lsum_add]
 refine lsum_congr fun p _=>?_
 rw[gsum_mul,gsum_mul,gpow_add,gmul_assoc, ←gmul_add]
 congr 1
 rw[gmul_comm (gpow _ v), ←gmul_add]
theorem HS_roots {e:Nat→F8} {s:Nat→F8} (hn:n≤64) (hs: ∀j,j<c→s j=SS n e j) {v:Nat} {l:Nat→F8} (hv:(sup n e).length+v≤c) (h:HS s c v l): ∀p∈sup n e,p∈rts n v l:=fun p hp=>by
 have h1:=indep (Y:=fun p=>gmul (e p) (gsum v (fun k=>gmul (l k) (gpow (PX n p) k))^^^gpow (PX n p) v)) hn (sup_nodup n e) (fun p hp=>sup_lt hp) (fun i hi=>by
  rw[←HS_of hs l i (by omega),h i (by omega),xx]) p hp
 have h2:e p≠0:=by simpa using (List.mem_filter.1 hp).2
 have h3:=(gmul_eq_zero h1).resolve_left h2
 exact List.mem_filter.2 ⟨List.mem_range.2 (sup_lt hp),by rw[beq_iff_eq];exact xor_eq_zero.1 h3⟩
theorem refFind_some {β:Type} {f:Nat→Option β}: ∀{m i:Nat} {r:β},refFind f i m=some r→ ∃v,i≤v∧v<i+m∧f v=some r
 | 0,_,_,h=>nomatch h
 | m+1,i,r,h=>by
  rw[refFind]at h
  cases hf:f i with
  | some q=>
   rw[hf]at h
   cases h
   exact⟨i,Nat.le_refl _,by omega,hf⟩
  | none=>
   rw[hf]at h
   obtain⟨v,h1,h2,h3⟩:=refFind_some h
   exact⟨v,by omega,by omega,h3⟩
theorem refFind_ne {β:Type} {f:Nat→Option β} {v:Nat} {r:β} (hf:f v=some r): ∀{m i:Nat},i≤v→v<i+m→ ∃q,refFind f i m=some q
 | 0,_,_,_=>by omega
 | m+1,i,h1,h2=>by
  rw[refFind]
  cases hg:f i with
  | some q=>exact⟨q,rfl⟩
  | none=>
   by_cases e:i=v
   ·rw[e,hf]at hg
    cases hg
   ·exact refFind_ne hf (by omega) (by omega)
theorem try_spec {s:List F8} {v:Nat} {P:List Nat} {y:List F8} (hn:n≤64) (hv:v≤s.length) (h:refTry n s s [] v=some (P,y)):P.Nodup∧(∀p∈P,p<n)∧P.length=v∧Ysol n s P (atP P y):=by
 unfold refTry at h
 cases hl:refLoc n s v with
 | none=>rw[hl]at h;cases h
 | some o=>
  rw[hl]at h
  have ho:o.Nodup∧(∀p∈o,p<n)∧o.length=v:=by
   unfold refLoc at hl
   split at hl
   ·cases hl
   ·split at hl
    ·rename_i hlen
     cases hl
     exact⟨rts_nodup _ _ _,fun p hp=>rts_lt hp,hlen⟩
    ·cases hl
  simp only[List.nil_append]at h
  split at h
  ·cases h
  ·have hg:=gauss_Y (n:=n) (s:=s) ho.1 (by omega)
   cases hgg:gauss (srows n s o) o.length with
   | none=>rw[hgg]at h;cases h
   | some z=>
    rw[hgg]at h hg
    cases h
    exact⟨ho.1,ho.2.1,ho.2.2,(hg.2 _).2 fun p _=>rfl⟩
theorem appl_SS {w:List F8} {P:List Nat} {y:List F8} (hw:w.length=n) (hP:P.Nodup) (hl: ∀p∈P,p<n) (hy:Ysol n (syn w c) P (atP P y)):Cw n c (appl w P y)∧(dif n (appl w P y) w).length≤P.length:=by
 have hg:=fun p=>appl_getD (w:=w) y hP (fun p hp=>by rw[hw];exact hl p hp) p
 constructor
 ·intro j hj
  have h1:=hy j (by rw[syn_len];exact hj)
  rw[syn_sum hw hj]at h1
  have h2:SS n (fun p=>(appl w P y).getD p 0) j=SS n (fun p=>w.getD p 0^^^if p∈P then atP P y p else 0) j:=by
   unfold SS
   exact lsum_congr fun p _=>by
    show gmul _ ((appl w P y).getD p 0)=_
    rw[hg p]
  rw[h2,SS_add, ←h1]
  have h3:SS n (fun p=>if p∈P then atP P y p else 0) j=lsum P fun p=>gmul (gpow (PX n p) j) (atP P y p):=by
   have h4:SS n (fun p=>if p∈P then atP P y p else 0) j=lsum ((List.range n).filter fun p=>decide (p∈P)) fun p=>gmul (gpow (PX n p) j) (if p∈P then atP P y p else 0):=
    (lsum_filter fun p _ h=>by
     show gmul _ (if p∈P then _ else 0)=0
     rw[if_neg (by simpa using h),gmul_zero]).symm
   have h5:((List.range n).filter fun p=>decide (p∈P)).Perm P:=by
    refine(List.perm_ext_iff_of_nodup (List.Pairwise.filter _ List.nodup_range) hP).2 fun a=>?_
    rw[List.mem_filter,List.mem_range,decide_eq_true_eq]
    exact⟨fun h=>h.2,fun h=>⟨hl a h,h⟩⟩
   rw[h4,lsum_perm h5]
   exact lsum_congr fun p hp=>by rw[if_pos hp]
  rw[h3,xx]
 ·have h6: ∀p∈dif n (appl w P y) w,p∈P:=fun p hp=>by
   have:=(List.mem_filter.1 hp).2
   rw[hg p]at this
   by_cases h:p∈P
   ·exact h
   ·rw[if_neg h,x0]at this
    simp at this
  exact nodup_len (List.Pairwise.filter _ List.nodup_range) h6
theorem refDec_cw {w:List F8} (hn:n≤64) (hw:w.length=n) (hm:most≤c) (h:(refDec n most (syn w c) w []).1≠2):
  ∃u,u.length=n∧Cw n c u∧(dif n u w).length≤most∧refDec n most (syn w c) w []=(if u=w then 0 else 1,bs u,zs (dif n u w)):=by
 unfold refDec at h ⊢
 cases hf:refFind (refTry n (syn w c) (U n (syn w c) []) []) 0 (most+1)with
 | none=>rw[hf]at h;exact absurd rfl h
 | some q=>
  obtain⟨P,y⟩:=q
  obtain⟨v,_,h2,h3⟩:=refFind_some hf
  have h4:=try_spec (s:=syn w c) hn (by rw[syn_len];omega) h3
  obtain⟨h5,h6⟩:=appl_SS hw h4.1 h4.2.1 h4.2.2.2
  exact⟨appl w P y,by rw[appl_len,hw],h5,by omega,rfl⟩
theorem refDec_near {w u:List F8} (hn:n≤64) (hw:w.length=n) (hu:u.length=n) (hc:Cw n c u) (hd:(dif n u w).length≤most) (hm:2*most≤c):
  refDec n most (syn w c) w []=(if u=w then 0 else 1,bs u,zs (dif n u w)):=by
 let e:Nat→F8:=fun p=>w.getD p 0^^^u.getD p 0
 have hsup:sup n e=dif n u w:=by
  unfold sup dif
  refine List.filter_congr fun p _=>?_
  show(w.getD p 0^^^u.getD p 0 !=0)=_
  by_cases h:u.getD p 0=w.getD p 0
  ·rw[h,xx]
   simp
  ·rw[bne_iff_ne.2 h,bne_iff_ne]
   exact fun h2=>h (xor_eq_zero.1 h2).symm
 have hs: ∀j,j<c→at0 (syn w c) j=SS n e j:=fun j hj=>by
  rw[syn_sum hw hj,SS_add,hc j hj,x0]
 have hv:(sup n e).length≤most:=by rw[hsup];exact hd
 have hsl:=syn_len w c
 have huniq: ∀{P y},(P,y)∈refFind (refTry n (syn w c) (U n (syn w c) []) []) 0 (most+1)→appl w P y=u:=fun {P y} hf=>by
  obtain⟨v,_,h2,h3⟩:=refFind_some hf
  obtain⟨h4,h5,h6,h7⟩:=try_spec (s:=syn w c) hn (by omega) h3
  obtain⟨h8,h9⟩:=appl_SS hw h4 h5 h7
  refine ext_getD 0 (by rw[appl_len,hw,hu]) fun p hp=>?_
  rw[appl_len,hw]at hp
  refine xor_eq_zero.1 (SS_zero (n:=n) (c:=c) (e:=fun p=>(appl w P y).getD p 0^^^u.getD p 0) hn (fun j hj=>by rw[SS_add,h8 j hj,hc j hj,xx]) ?_ p hp)
  have h10:(sup n fun p=>(appl w P y).getD p 0^^^w.getD p 0).length≤P.length:=by
   refine Nat.le_trans (Nat.le_of_eq ?_) h9
   unfold sup dif
   congr 1
   refine List.filter_congr fun p _=>?_
   show((appl w P y).getD p 0^^^w.getD p 0 !=0)=_
   by_cases h:(appl w P y).getD p 0=w.getD p 0
   ·rw[h,xx]
    simp
   ·rw[bne_iff_ne.2 h,bne_iff_ne]
    exact fun h2=>h (xor_eq_zero.1 h2)
  have h11:=sup_add n (fun p=>(appl w P y).getD p 0^^^w.getD p 0) e
  have h12:(fun p=>((appl w P y).getD p 0^^^w.getD p 0)^^^e p)=fun p=>(appl w P y).getD p 0^^^u.getD p 0:=funext fun p=>by
   show(_^^^w.getD p 0)^^^(w.getD p 0^^^u.getD p 0)=_
   rw[BitVec.xor_assoc, ←BitVec.xor_assoc (w.getD p 0),xx,zx]
  rw[h12]at h11
  omega
 obtain⟨lam,hlam⟩:=interp ((sup n e).map (PX n))
 rw[List.length_map]at hlam
 have hHS:HS (at0 (syn w c)) c (sup n e).length lam:=fun i hi=>by
  rw[←xor_eq_zero,HS_of hs lam i hi]
  refine lsum_zero fun p hp=>?_
  rw[hlam (PX n p) (List.mem_map_of_mem hp),xx,gmul_zero,gmul_zero]
 have hLeast:Least (at0 (syn w c)) c (sup n e).length:=fun C' L' h0 hg=>by
  rcases Nat.lt_or_ge L' (sup n e).length with hlt|hge
  ·have h1:=(hs_gn (l:=fun k=>C' (L'-k)) h0 fun k _=>rfl).2 hg
   have h2:=HS_roots hn hs (by omega) h1
   have h3:=nodup_len (sup_nodup n e) h2
   exact Nat.le_trans h3 (rts_le hn _)
  ·exact hge
 have hroots:=HS_roots hn hs (by omega) hHS
 have hlen:(rts n (sup n e).length lam).length=(sup n e).length:=
  Nat.le_antisymm (rts_le hn _) (nodup_len (sup_nodup n e) hroots)
 have hloc:=loc_at (n:=n) (u:=syn w c) (by rw[hsl];exact hLeast) (by rw[hsl];exact hHS) (by rw[hsl];omega)
 rw[if_pos hlen]at hloc
 have hY:Ysol n (syn w c) (rts n (sup n e).length lam) e:=fun j hj=>by
  rw[hsl]at hj
  rw[hs j hj]
  unfold SS
  refine(lsum_filter fun p hp h=>?_)
  by_cases h0:e p=0
  ·rw[h0,gmul_zero]
  ·have:=hroots p (List.mem_filter.2 ⟨hp,by simpa using h0⟩)
   rw[show _=true from(List.mem_filter.1 this).2]at h
   cases h
 have htry: ∃q,refTry n (syn w c) (syn w c) [] (sup n e).length=some q:=by
  rw[refTry_some hloc fun p _=>List.not_mem_nil]
  have hg:=gauss_Y (n:=n) (s:=syn w c) (rts_nodup n (sup n e).length lam) (by rw[hlen,hsl];omega)
  rw[List.nil_append]
  cases hgg:gauss (srows n (syn w c) (rts n (sup n e).length lam)) (rts n (sup n e).length lam).length with
  | some y=>exact⟨_,rfl⟩
  | none=>
   rw[hgg]at hg
   obtain⟨Y',h1,p,hp,hne⟩:=hg e hY
   have h2:=indep (Y:=fun p=>Y' p^^^e p) hn (rts_nodup n _ lam) (fun p hp=>rts_lt hp) (fun j hj=>by
    rw[lsum_congr (g:=fun p=>gmul (gpow (PX n p) j) (Y' p)^^^gmul (gpow (PX n p) j) (e p)) fun p _=>gmul_add _ _ _,lsum_add,h1 j (by omega),hY j (by omega),xx]) p hp
   exact absurd (xor_eq_zero.1 h2) hne
 obtain⟨q,hq⟩:=htry
 obtain⟨⟨P,y⟩,hf⟩:=refFind_ne (f:=refTry n (syn w c) (U n (syn w c) []) []) hq (m:=most+1) (i:=0) (Nat.zero_le _) (by omega)
 have:=huniq hf
 unfold refDec
 rw[hf]
 simp only[this]
 rfl
end
theorem pev_ext (x:F8) {l:List F8} {N:Nat} (h:l.length≤N):pev l x=gsum N fun k=>gmul (l.getD k 0) (gpow x k):=by
 rw[pev_gsum]
 exact(gsum_ext h fun i h1 _=>by rw[getD_ge _ _ _ h1,zero_gmul]).symm
theorem pev_congr (x:F8) {l m:List F8} (h: ∀k,l.getD k 0=m.getD k 0):pev l x=pev m x:=by
 rw[pev_ext x (Nat.le_max_left l.length m.length),pev_ext x (Nat.le_max_right l.length m.length)]
 exact gsum_congr fun k _=>by rw[h k]
theorem ptrim_getD: ∀(n:Nat) (l:List F8),l.length=n→ ∀k,(ptrim l).getD k 0=l.getD k 0
 | n,l,hn,k=>by
  rcases snoc_cases l with rfl|⟨m,x,rfl⟩
  ·rfl
  ·by_cases hx:x=0
   ·subst hx
    cases n with
    | zero=>simp at hn
    | succ n=>
     rw[ptrim_zero,ptrim_getD n m (by simpa using hn) k,getD_append]
     split
     ·rfl
     ·rename_i h
      rw[getD_ge _ _ _ (by omega)]
      cases k-m.length<;>rfl
   ·rw[ptrim_ne m hx]
theorem pev_trim (l:List F8) (x:F8):pev (ptrim l) x=pev l x:=pev_congr x (ptrim_getD _ l rfl)
theorem pev_append (x:F8) (m:List F8): ∀l:List F8,pev (l++m) x=pev l x^^^gmul (gpow x l.length) (pev m x)
 | []=>by
  show pev m x=0^^^gmul 1 (pev m x)
  rw[one_gmul,zx]
 | c::l=>by
  show gmul (pev (l++m) x) x^^^c=(gmul (pev l x) x^^^c)^^^gmul (gmul (gpow x l.length) x) (pev m x)
  rw[pev_append x m l,add_gmul,BitVec.xor_assoc,BitVec.xor_comm _ c, ←BitVec.xor_assoc]
  congr 1
  rw[gmul_assoc,gmul_assoc,gmul_comm x]
theorem pev_padd (x t:F8) {p q:List F8} {a:Nat} (h:a+q.length≤p.length):pev (paddAt p q t a) x=pev p x^^^gmul t (gmul (gpow x a) (pev q x)):=by
 rw[pev_ext x (l:=paddAt p q t a) (N:=p.length) (by rw[paddAt_len];exact Nat.le_refl _),pev_ext x (l:=p) (Nat.le_refl _),pev_ext x (l:=q) (N:=p.length-a) (by omega)]
 have hsh:=gsum_shift (fun i=>gmul t (gmul (gpow x a) (gmul (q.getD i 0) (gpow x i)))) a (p.length-a)
 rw[show a+(p.length-a)=p.length by omega]at hsh
 rw[←gsum_mul, ←gsum_mul, ←hsh, ←gsum_add]
 refine gsum_congr fun j hj=>?_
 rw[paddAt_getD _ _ _ _ _ h,add_gmul]
 congr 1
 by_cases h1:a≤j
 ·rw[if_pos h1]
  by_cases h2:j<a+q.length
  ·rw[if_pos ⟨h1,h2⟩,gmul_assoc]
   congr 1
   rw[show gpow x j=gmul (gpow x a) (gpow x (j-a)) by rw[←gpow_add];congr 1;omega, ←gmul_assoc, ←gmul_assoc,gmul_comm (q.getD _ _)]
  ·rw[if_neg (fun h=>h2 h.2),getD_ge _ _ _ (by omega),zero_gmul,zero_gmul,gmul_zero,gmul_zero]
 ·rw[if_neg (fun h=>h1 h.1),if_neg h1,zero_gmul]
theorem pev_prem (x:F8) (p q:List F8) (h0:0<q.length) (h:pev q x=0):pev (prem p q) x=pev p x:=by
 unfold prem
 rw[pev_trim]
 split
 ·rename_i hl
  exact(run_inv (f:=fun i R=>pstep q R (p.length-q.length-i)) (fun _ R=>List.length R=p.length∧pev R x=pev p x) (p.length-q.length+1) 0 p ⟨rfl,rfl⟩ fun j R _ hj ⟨h1,h2⟩=>
   ⟨by rw[pstep_len,h1],by
    show pev (paddAt _ _ _ _) x=_
    rw[pev_padd x _ (by omega),h,gmul_zero,gmul_zero,x0,h2]⟩).2
 ·rfl
theorem gen_root (c j:Nat) (hc:c≤8) (hj:j<c):pev (gen c) (gpow 2 j)=0:=by
 have: ∀c:Fin 9, ∀j:Fin 8,j.val<c.val→pev (gen c.val) (gpow 2 j.val)=0:=by decide+kernel
 exact this ⟨c,by omega⟩ ⟨j,by omega⟩ hj
theorem syn1_pev (w:List F8) (j:Nat):syn1 w j=pev w.reverse (gpow 2 j):=by
 unfold syn1 pev
 rw[List.foldr_reverse]
 exact run_fold (f:=fun v b=>gmul v (gpow 2 j)^^^b) (d:=0) w 0
theorem cw_iff {n c:Nat} {w:List F8} (hw:w.length=n):Cw n c w↔ ∀j,j<c→pev w.reverse (gpow 2 j)=0:=by
 unfold Cw
 constructor
 ·intro h j hj
  rw[←syn1_pev,syn1_sum,hw]
  exact h j hj
 ·intro h j hj
  have:=h j hj
  rwa[←syn1_pev,syn1_sum,hw]at this
theorem enc_len (x:List F8) (c:Nat):(enc x c).length=x.length+c:=by
 unfold enc
 rw[List.length_append,List.length_map,List.length_range]
theorem enc_cw {x:List F8} {c:Nat} (hc:c≤8):Cw (x.length+c) c (enc x c):=by
 rw[cw_iff (enc_len x c)]
 intro j hj
 obtain⟨g1,g2,g3⟩:=gen_ok c hc
 unfold enc
 generalize hr:prem (ptrim (x++List.replicate c 0).reverse) (gen c)=r
 have hrl:r.length<c+1:=by
  rw[←hr, ←g1]
  exact prem_len _ _ (by omega) (by rw[g1,Nat.add_sub_cancel,g3];decide)
 rw[List.reverse_append,pev_append]
 have e1:pev ((List.range c).map fun j=>r.getD (c-1-j) 0).reverse (gpow 2 j)=pev r (gpow 2 j):=pev_congr _ fun k=>by
  by_cases hk:k<c
  ·rw[getD_reverse _ _ _ (by simpa using hk),List.length_map,List.length_range,map_range_getD _ _ _ _ (by omega)]
   congr 1
   omega
  ·rw[getD_ge _ _ _ (by simpa using hk),getD_ge _ _ _ (by omega)]
 have e2:pev (List.replicate c (0:F8)) (gpow 2 j)=0:=by
  rw[pev_gsum]
  exact gsum_zero fun k _=>by rw[getD_rep,zero_gmul]
 rw[e1, ←hr,pev_prem _ _ _ (by omega) (gen_root c j hc hj),pev_trim,List.reverse_append,pev_append,List.reverse_replicate,e2,zx]
 simp only[List.length_reverse,List.length_map,List.length_range,List.length_replicate]
 exact xx _
theorem enc_take {u:List F8} {d c:Nat} (hc:c≤8) (hn:d+c≤64) (hu:u.length=d+c) (h:Cw (d+c) c u):enc (u.take d) c=u:=by
 have hl:(u.take d).length=d:=by rw[List.length_take];omega
 have h1:=enc_cw (x:=u.take d) hc
 rw[hl]at h1
 refine ext_getD 0 (by rw[enc_len,hl,hu]) fun p hp=>?_
 rw[enc_len,hl]at hp
 refine xor_eq_zero.1 (SS_zero (n:=d+c) (c:=c) (e:=fun p=>(enc (u.take d) c).getD p 0^^^u.getD p 0) hn (fun j hj=>by rw[SS_add,h1 j hj,h j hj,xx]) ?_ p hp)
 have h2: ∀p∈sup (d+c) (fun p=>(enc (u.take d) c).getD p 0^^^u.getD p 0),p∈List.range' d c:=fun p hp=>by
  have h3:=sup_lt hp
  have h4:=(List.mem_filter.1 hp).2
  rw[List.mem_range'_1]
  refine⟨?_,h3⟩
  rcases Nat.lt_or_ge p d with h5|h5
  ·exfalso
   have:(enc (u.take d) c).getD p 0=u.getD p 0:=by
    unfold enc
    rw[getD_append,if_pos (by omega),getD_take,if_pos h5]
   have h4:((enc (u.take d) c).getD p 0^^^u.getD p 0 !=0)=true:=h4
   rw[this,xx]at h4
   simp at h4
  ·exact h5
 have:=nodup_len (sup_nodup _ _) h2
 rwa[List.length_range']at this
theorem hst_xor (w:List F8) (i:Nat) (s t:F8):hst w i (s^^^t)=hst w i s^^^t:=by
 unfold hst
 split
 ·rw[BitVec.xor_assoc,BitVec.xor_comm t, ←BitVec.xor_assoc]
 ·rfl
theorem hrun_xor (w:List F8) (t:F8) (n i:Nat) (s:F8):run (hst w) i n (s^^^t)=run (hst w) i n s^^^t:=
 (run_map (f:=hst w) (g:=hst w) (φ:=fun s=>s^^^t) n i s fun j a=>(hst_xor w j a t).symm).symm
theorem bit_flip (x:F8) (j b:Nat) (hj:j<8) (hb:b<8):((x^^^1#8<<<b)>>>j).getLsbD 0=((x>>>j).getLsbD 0^^decide (j=b)):=by
 have h: ∀(j b:Fin 8) (x:F8),((x^^^1#8<<<b.val)>>>j.val).getLsbD 0=((x>>>j.val).getLsbD 0^^decide (j.val=b.val)):=by decide+kernel
 exact h ⟨j,hj⟩ ⟨b,hb⟩ x
def flipB (w:List F8) (b:Nat):List F8:=w.set (b/8) (w.getD (b/8) 0^^^1#8<<<(b%8))
theorem flipB_getD (w:List F8) (b q:Nat) (hb:b<8*w.length):(flipB w b).getD q 0=if b/8=q then w.getD q 0^^^1#8<<<(b%8)else w.getD q 0:=by
 unfold flipB
 rw[getD_set]
 by_cases h8:b/8=q
 ·rw[if_pos ⟨h8,by omega⟩,if_pos h8,h8]
 ·rw[if_neg h8,if_neg]
  exact fun h=>h8 h.1
theorem hst_flip (w:List F8) (b i:Nat) (s:F8) (hb:b<8*w.length):hst (flipB w b) i s=if i=b then hst w i s^^^cols.getD b 0 else hst w i s:=by
 unfold hst
 rw[flipB_getD w b _ hb]
 by_cases h8:b/8=i/8
 ·rw[if_pos h8,bit_flip _ _ _ (by omega) (by omega)]
  by_cases e:i=b
  ·subst e
   rw[decide_eq_true rfl]
   cases (w.getD (i/8) 0>>>(i%8)).getLsbD 0
   ·simp
   ·simp[BitVec.xor_assoc]
  ·rw[decide_eq_false (by omega),if_neg e]
   simp
 ·have hne: ¬i=b:=fun e=>h8 (by rw[e])
  rw[if_neg h8,if_neg hne]
theorem hsyn_flip (w:List F8) (b:Nat) (hb:b<8*w.length):hsyn (flipB w b)=hsyn w^^^cols.getD b 0:=by
 unfold hsyn
 rw[show(flipB w b).length=w.length from List.length_set]
 have hn:8*w.length=b+(1+(8*w.length-b-1)):=by omega
 rw[hn,run_add,run_add,run_add,run_add,Nat.zero_add]
 have e1:run (hst (flipB w b)) 0 b 0=run (hst w) 0 b 0:=run_congr _ _ _ fun j a _ hj=>by rw[hst_flip w b j a hb,if_neg (by omega)]
 have e2: ∀s,run (hst (flipB w b)) b 1 s=run (hst w) b 1 s^^^cols.getD b 0:=fun s=>by
  show hst (flipB w b) b s=hst w b s^^^_
  rw[hst_flip w b b s hb,if_pos rfl]
 have e3: ∀s,run (hst (flipB w b)) (b+1) (8*w.length-b-1) s=run (hst w) (b+1) (8*w.length-b-1) s:=fun s=>run_congr _ _ _ fun j a _ hj=>by rw[hst_flip w b j a hb,if_neg (by omega)]
 rw[e1,e2,e3,hrun_xor]
theorem hfind_spec {s:F8}: ∀{n i b:Nat},hfind s i n=some b→cols.getD b 0=s
 | 0,_,_,h=>nomatch h
 | n+1,i,b,h=>by
  rw[hfind]at h
  split at h
  ·cases h
   assumption
  ·exact hfind_spec h
theorem hsyn_snoc (l:List F8) (x:F8) (hl:l.length=8):hsyn (l++[x])=hsyn l^^^x:=by
 unfold hsyn
 rw[List.length_append,hl,show 8*(8+([x]:List F8).length)=64+8 from rfl,run_add,Nat.zero_add]
 have e1:run (hst (l++[x])) 0 64 0=run (hst l) 0 (8*8) 0:=run_congr _ _ _ fun j a _ hj=>by
  unfold hst
  have:(l++[x]).getD (j/8) 0=l.getD (j/8) 0:=by rw[getD_append,if_pos (by omega)]
  rw[this]
 rw[e1]
 generalize run (hst l) 0 (8*8) 0=s
 have e2:run (hst (l++[x])) 64 8 s=run (fun j s=>if(x>>>j).getLsbD 0=true then s^^^1#8<<<j else s) 0 8 s:=by
  rw[←run_shift (hst (l++[x])) 64 8 0 s]
  refine run_congr _ _ _ fun j a _ hj=>?_
  have hc: ∀j:Fin 8,cols.getD (64+j.val) 0=1#8<<<j.val:=by decide+kernel
  unfold hst
  have:(l++[x]).getD ((64+j)/8) 0=x:=by
   rw[getD_append,if_neg (by omega),hl,show(64+j)/8-8=0 by omega]
   rfl
  rw[this,show(64+j)%8=j by omega,hc ⟨j,by omega⟩]
 rw[e2]
 have e3: ∀x:F8,run (fun j s=>if(x>>>j).getLsbD 0=true then s^^^1#8<<<j else s) 0 8 (0:F8)=x:=by decide+kernel
 have e4:=run_map (f:=fun j s=>if(x>>>j).getLsbD 0=true then s^^^1#8<<<j else s) (g:=fun j s=>if(x>>>j).getLsbD 0=true then s^^^1#8<<<j else s) (φ:=fun t:F8=>t^^^s) 8 0 0 fun j a=>by
  show(if _ then _ else _)^^^s=if _ then(a^^^s)^^^_ else a^^^s
  split
  ·rw[BitVec.xor_assoc,BitVec.xor_comm _ s, ←BitVec.xor_assoc]
  ·rfl
 rw[e3,show(0:F8)^^^s=s from zx s]at e4
 rw[←e4,BitVec.xor_comm]
theorem hdec_cw {w:List F8} (hw:w.length=9) (h1:(hdec w).1.1=1): ∃u b,b<72∧u=flipB w b∧u.length=9∧hsyn u=0∧u.take 8++[hsyn (u.take 8)]=u∧(hdec w).1=(1,bs u,[((b/8:Nat):Int)]):=by
 unfold hdec at h1 ⊢
 split at h1
 ·cases h1
 ·rename_i h0
  rw[if_neg h0]
  cases hf:hfind (hsyn w) 0 72 with
  | none=>rw[hf]at h1;cases h1
  | some b=>
   have hb:=hfind_lt hf
   have hs:hsyn (flipB w b)=0:=by
    rw[hsyn_flip w b (by omega),hfind_spec hf,xx]
   have hl:(flipB w b).length=9:=by
    unfold flipB
    rw[List.length_set,hw]
   refine⟨flipB w b,b,by omega,rfl,hl,hs,?_,rfl⟩
   have hl8:((flipB w b).take 8).length=8:=by rw[List.length_take];omega
   obtain⟨x,hx⟩: ∃x,flipB w b=(flipB w b).take 8++[x]:=by
    refine⟨(flipB w b).getD 8 0,?_⟩
    conv=>lhs;rw[←List.take_append_drop 8 (flipB w b)]
    congr 1
    rw[List.drop_eq_getElem_cons (by omega),List.drop_eq_nil_of_le (by omega),List.getD_eq_getElem?_getD,List.getElem?_eq_getElem (by omega)]
    rfl
   generalize (flipB w b).take 8=m at hx hl8
   rw[hx,hsyn_snoc m x hl8]at hs
   rw[hx,xor_eq_zero.1 hs]
theorem toG_or (a b:Int):toG (bitI .or .u8 a b)=toG a|||toG b:=by
 show toG (w8 ((BitVec.ofInt 8 a|||BitVec.ofInt 8 b).toNat:Int))=_
 have:=(BitVec.ofInt 8 a|||BitVec.ofInt 8 b).isLt
 rw[w8_id (by omega) (by omega)]
 exact toG_ofG _
theorem toG_andNot (a b:Int):toG (bitI .andNot .u8 a b)=toG a&&& ~~~toG b:=by
 show toG (w8 ((BitVec.ofInt 8 a&&& ~~~BitVec.ofInt 8 b).toNat:Int))=_
 have:=(BitVec.ofInt 8 a&&& ~~~BitVec.ofInt 8 b).isLt
 rw[w8_id (by omega) (by omega)]
 exact toG_ofG _
theorem ub_getD (l:List Int) (i:Nat):(ub l).getD i 0=toG (l.getD i 0):=by
 unfold ub
 rw[List.getD_eq_getElem?_getD,List.getD_eq_getElem?_getD,List.getElem?_map]
 cases l[i]?<;>rfl
theorem seen_bits (fs:List DT1) (p:DT4) (t:Int) (w u:List Int) (a b:Bool) (hl:w.length=u.length) (q j:Nat) (hq:q<u.length) (hj:j<8):
  (toG (List.getD (seenW fs p (t,u,b)).2.1 q 0)).getLsbD j=(toG (u.getD q 0)).getLsbD j∨(toG (List.getD (seenW fs p (t,u,b)).2.1 q 0)).getLsbD j=(toG (List.getD (seenW fs p (t,w,a)).2.1 q 0)).getLsbD j:=by
 have h:=run_inv (f:=fun i (x:DT0×DT0)=>((bif cov (fs.getD i zT1) p then flt (fs.getD i zT1) x.1 else x.1),(bif cov (fs.getD i zT1) p then flt (fs.getD i zT1) x.2 else x.2))) (fun _ x=>List.length x.1.2.1=u.length∧List.length x.2.2.1=u.length∧
  ((toG (List.getD x.1.2.1 q 0)).getLsbD j=(toG (u.getD q 0)).getLsbD j∨(toG (List.getD x.1.2.1 q 0)).getLsbD j=(toG (List.getD x.2.2.1 q 0)).getLsbD j)) fs.length 0 ((t,u,b),(t,w,a)) ⟨rfl,hl, .inl rfl⟩ fun i x _ _ h=>by
  cases cov (fs.getD i zT1) p
  ·exact h
  ·obtain⟨⟨t1,x,b1⟩,t2,y,b2⟩:=x
   obtain⟨h1,h2,h3⟩:=h
   have h1:x.length=u.length:=h1
   have h2:y.length=u.length:=h2
   refine⟨by show(List.set x _ _).length=_;rw[List.length_set,h1],by show(List.set y _ _).length=_;rw[List.length_set,h2],?_⟩
   show(toG ((List.set x _ _).getD q 0)).getLsbD j=_∨(toG ((List.set x _ _).getD q 0)).getLsbD j=(toG ((List.set y _ _).getD q 0)).getLsbD j
   rw[getD_set,getD_set]
   by_cases hc:(chipOf (fs.getD i zT1)).toNat=q
   ·rw[if_pos ⟨hc,by omega⟩,if_pos ⟨hc,by omega⟩]
    simp only[toG_or,toG_andNot,BitVec.getLsbD_or,BitVec.getLsbD_and,BitVec.getLsbD_not,hc]
    rcases h3 with h3|h3
    ·have h3:(toG (x.getD q 0)).getLsbD j=(toG (u.getD q 0)).getLsbD j:=h3
     rw[h3]
     generalize (toG (fs.getD i zT1).2.2.2.2.2.2.2.2.1).getLsbD j=m
     generalize (toG (fs.getD i zT1).2.2.2.2.2.2.2.2.2.1).getLsbD j=v
     rw[decide_eq_true hj]
     cases v<;>cases m<;>simp
    ·have h3:(toG (x.getD q 0)).getLsbD j=(toG (y.getD q 0)).getLsbD j:=h3
     rw[h3]
     exact .inr rfl
   ·rw[if_neg fun h=>hc h.1,if_neg fun h=>hc h.1]
    exact h3
 rw[run_pair (f:=fun i (w:DT0)=>bif cov (fs.getD i zT1) p then flt (fs.getD i zT1) w else w) (g:=fun i (w:DT0)=>bif cov (fs.getD i zT1) p then flt (fs.getD i zT1) w else w)]at h
 exact h.2.2
theorem ub_bs_take (u:List F8) (m:Nat):ub ((bs u).take m)=u.take m:=by rw[bs_take,ub_bs]
theorem bit_x (x:F8) (j b:Nat) (hj:j<8) (hb:b<8):(x^^^1#8<<<b).getLsbD j=(x.getLsbD j^^decide (j=b)):=by
 have h: ∀(j b:Fin 8) (x:F8),(x^^^1#8<<<b.val).getLsbD j.val=(x.getLsbD j.val^^decide (j.val=b.val)):=by decide+kernel
 exact h ⟨j,hj⟩ ⟨b,hb⟩ x
section
variable {s:DT4} {c:DT5} {ws:List DT0} {fs:List DT1}
theorem keeps (h:VM s c ws fs) (t:Int) (h0:0≤t) (h1:t<szOf s):
  ((lkR c (seenAt s c fs t ws)).1=2→(lkR c (seenAt s c fs t (lkN s c fs t ws))).1=3)∧
  ((lkR c (seenAt s c fs t ws)).1=1→((lkR c (seenAt s c fs t (lkN s c fs t ws))).1=0∨(lkR c (seenAt s c fs t (lkN s c fs t ws))).1=1)∧(lkR c (seenAt s c fs t (lkN s c fs t ws))).2.1=(lkR c (seenAt s c fs t ws)).2.1)∧
  ((lkR c (seenAt s c fs t ws)).1≠2→(lkR c (seenAt s c fs t ws)).1≠1→lkN s c fs t ws=ws):=by
 have hch:=chips_le h.cd
 have hso:=h.so
 obtain⟨l1,l2,l3⟩:=h.lk t
 obtain⟨q1,q2,q3,q4⟩:=h.seen t
 have hput: ∀o:List Int×Bool,((o.1.length:Nat):Int)=chips c→lkW t (chips c).toNat (putW ws (t,o))=(t,o):=fun o ho=>by
  have:=lkW_same hso (t,o)
  rwa[show List.length ((t,o):DT0).2.1=(chips c).toNat by show o.1.length=_;omega]at this
 unfold lkN lkP
 generalize hv:seenAt s c fs t ws=v at q1 q2 q3 q4
 have hR:lkR c v=bif v.2.2 then(3,[],[])else if(dcd c (ub v.2.1)).1=2 then(2,[],[])else((dcd c (ub v.2.1)).1,(dcd c (ub v.2.1)).2.1.take c.2.1.toNat,(dcd c (ub v.2.1)).2.2):=rfl
 cases hp:v.2.2
 case true=>
  rw[hp,cond_true]at hR
  rw[hR]
  exact⟨(fun h=>nomatch h),(fun h=>nomatch h),fun _ _=>rfl⟩
 rw[hp,cond_false]at hR
 simp only[cond_false]
 by_cases hd2:(dcd c (ub v.2.1)).1=2
 ·rw[if_pos hd2]at hR
  rw[hR,if_pos hd2]
  refine⟨fun _=>?_,(fun h=>nomatch h),fun h=>absurd rfl h⟩
  have hpt:=hput ((lkW t (chips c).toNat ws).2.1,true) l2
  unfold seenAt
  show(lkR c (seenW fs _ (lkW t _ (putW ws _)))).1=3
  rw[hpt]
  unfold lkR
  rw[(seenW_ok fs _ _ (show Byt ((t,(lkW t (chips c).toNat ws).2.1,true):DT0).2.1 from l3)).2.2.2]
  rfl
 rw[if_neg hd2]at hR
 rw[if_neg hd2]
 by_cases hd1:(dcd c (ub v.2.1)).1=1
 case neg=>
  rw[if_neg hd1,hR]
  exact⟨fun h=>absurd h hd2,fun h=>absurd h hd1,fun _ _=>rfl⟩
 rw[if_pos hd1,hR]
 refine⟨fun h=>absurd h hd2,fun _=>?_,fun _ h=>absurd hd1 h⟩
 have main: ∀u:List F8,((u.length:Nat):Int)=chips c→ecd c (ub ((dcd c (ub v.2.1)).2.1.take c.2.1.toNat))=u→(dcd c (ub v.2.1)).2.1=bs u→
   (∀z:List F8,z.length=u.length→(∀q j,q<u.length→j<8→(z.getD q 0).getLsbD j=(u.getD q 0).getLsbD j∨(z.getD q 0).getLsbD j=((ub v.2.1).getD q 0).getLsbD j)→((dcd c z).1=0∨(dcd c z).1=1)∧(dcd c z).2.1=bs u)→
   ((lkR c (seenAt s c fs t (optP ws t (some (bs (ecd c (ub ((dcd c (ub v.2.1)).2.1.take c.2.1.toNat))),false))))).1=0∨(lkR c (seenAt s c fs t (optP ws t (some (bs (ecd c (ub ((dcd c (ub v.2.1)).2.1.take c.2.1.toNat))),false))))).1=1)∧
    (lkR c (seenAt s c fs t (optP ws t (some (bs (ecd c (ub ((dcd c (ub v.2.1)).2.1.take c.2.1.toNat))),false))))).2.1=(dcd c (ub v.2.1)).2.1.take c.2.1.toNat:=fun u hu1 hu2 hu3 hz=>by
  rw[hu2]
  have hpt:=hput (bs u,false) (by show(((bs u).length:Nat):Int)=_;rw[bs_len];exact hu1)
  unfold seenAt
  simp only[optP]
  rw[hpt,hu3]
  obtain⟨r1,r2,r3,r4⟩:=seenW_ok fs (atP4 s t) (t,bs u,false) (Byt.bs u)
  have hlen:List.length (seenW fs (atP4 s t) (t,bs u,false)).2.1=u.length:=by
   rw[r2]
   exact bs_len u
  have hz':=hz (ub (seenW fs (atP4 s t) (t,bs u,false)).2.1) (by rw[ub_len];exact hlen) fun q j hq hj=>by
   have hsb:=seen_bits fs (atP4 s t) t (lkW t (chips c).toNat ws).2.1 (bs u) (lkW t (chips c).toNat ws).2.2 false (by rw[bs_len];omega) q j (by rw[bs_len];exact hq) hj
   rw[ub_getD,ub_getD]
   rw[bs_getD,toG_ofG]at hsb
   have hw:seenW fs (atP4 s t) (t,(lkW t (chips c).toNat ws).2.1,(lkW t (chips c).toNat ws).2.2)=v:=by
    rw[←hv]
    unfold seenAt
    congr 1
    generalize lkW t (chips c).toNat ws=l at l1
    obtain⟨t',x⟩:=l
    have l1:t'=t:=l1
    rw[l1]
   rwa[hw]at hsb
  have hne:(dcd c (ub (seenW fs (atP4 s t) (t,bs u,false)).2.1)).1≠2:=by
   rcases hz'.1 with h|h<;>rw[h]<;>decide
  unfold lkR
  rw[r4]
  simp only[cond_false,if_neg hne]
  exact⟨hz'.1,by rw[hz'.2]⟩
 by_cases h2:c.1=2
 ·obtain⟨d,ch,f,rfl,a1,a2,a3,a4,a5⟩:=vcode_sym h.cd h2
  have hcs:chips (2,(d:Int),(ch:Int),(f:Int))=((d+ch:Nat):Int):=w64_id (by simp only[];omega) (by simp only[];omega)
  have e: ∀w,dcd (2,(d:Int),(ch:Int),(f:Int)) w=refDec (d+ch) (min f (ch/2)) (syn w ch) w []:=fun w=>by
   unfold dcd
   rw[if_pos rfl,hcs]
   simp only[Int.toNat_natCast]
  rw[hcs]at q2
  have hvl:(ub v.2.1).length=d+ch:=by rw[ub_len];omega
  rw[e]at hd2
  obtain⟨u,u1,u2,u3,u4⟩:=refDec_cw (c:=ch) (by omega) hvl (by omega) hd2
  refine main u (by rw[hcs,u1]) ?_ (by rw[e,u4]) fun z hz hb=>?_
  ·rw[e,u4]
   show ecd _ (ub ((bs u).take d))=u
   rw[ub_bs_take]
   unfold ecd
   rw[if_pos rfl]
   exact enc_take (d:=d) (c:=ch) a4 (by omega) u1 u2
  ·rw[u1]at hz hb
   have hdif:(dif (d+ch) u z).length≤(dif (d+ch) u (ub v.2.1)).length:=by
    unfold dif
    rw[←List.countP_eq_length_filter, ←List.countP_eq_length_filter]
    refine List.countP_mono_left fun q hq hne=>?_
    rw[List.mem_range]at hq
    rw[bne_iff_ne]at hne ⊢
    intro he
    refine hne (BitVec.eq_of_getLsbD_eq fun j hj=>?_)
    rcases hb q j hq hj with hb|hb
    ·exact hb.symm
    ·rw[hb,he]
   rw[e,refDec_near (by omega) hz u1 u2 (Nat.le_trans hdif u3) (by omega)]
   refine⟨?_,rfl⟩
   show(if u=z then(0:Int)else 1)=0∨(if u=z then(0:Int)else 1)=1
   split
   ·exact .inl rfl
   ·exact .inr rfl
 ·have:=vcode_bit h.cd h2
  subst this
  have e: ∀w,dcd (1,8,1,1) w=(hdec w).1:=fun w=>if_neg (by decide)
  have hvl:(ub v.2.1).length=9:=by
   have:chips (1,8,1,1)=9:=rfl
   rw[ub_len]
   omega
  rw[e]at hd1
  obtain⟨u,b,b1,b2,b3,b4,b5,b6⟩:=hdec_cw hvl hd1
  refine main u (by rw[b3];rfl) ?_ (by rw[e,b6]) fun z hz hb=>?_
  ·rw[e,b6]
   show ecd _ (ub ((bs u).take 8))=u
   rw[ub_bs_take]
   unfold ecd
   rw[if_neg (by decide)]
   exact b5
  ·
   have hbit: ∀q j,j<8→ ¬(q=b/8∧j=b%8)→(u.getD q 0).getLsbD j=((ub v.2.1).getD q 0).getLsbD j:=fun q j hj hne=>by
    rw[b2]
    rw[flipB_getD _ _ _ (by omega)]
    by_cases hq:b/8=q
    ·rw[if_pos hq,bit_x _ _ _ hj (by omega),decide_eq_false (by omega),Bool.xor_false]
    ·rw[if_neg hq]
   have hor:z=u∨z=ub v.2.1:=by
    rcases hb (b/8) (b%8) (by omega) (by omega)with hc|hc
    ·refine .inl (ext_getD 0 hz fun q hq=>BitVec.eq_of_getLsbD_eq fun j hj=>?_)
     by_cases h3:q=b/8∧j=b%8
     ·rw[h3.1,h3.2]
      exact hc
     ·rcases hb q j (by omega) hj with h4|h4
      ·exact h4
      ·rw[h4,hbit q j hj h3]
    ·refine .inr (ext_getD 0 (by omega) fun q hq=>BitVec.eq_of_getLsbD_eq fun j hj=>?_)
     by_cases h3:q=b/8∧j=b%8
     ·rw[h3.1,h3.2]
      exact hc
     ·rcases hb q j (by omega) hj with h4|h4
      ·rw[h4,hbit q j hj h3]
      ·exact h4
   rw[e]
   rcases hor with rfl|rfl
   ·unfold hdec
    rw[if_pos b4]
    exact⟨.inl rfl,rfl⟩
   ·rw[b6]
    exact⟨.inr rfl,rfl⟩
end
set_option maxRecDepth 100000 in
theorem awake_eq {α:Type} (j:Nat) (K:Bool→Option α):f7 (j+10000) K=K true:=by kernel_rfl
structure Dok (d:DT9):Prop where
 lo:0≤d.2
 hi:d.2≤(d.1.length:Int)
 ln:d.1.length≤400
 vs: ∀x∈d.1, -9223372036854775808≤x∧x<9223372036854775808
section
variable {α:Type} {k:Nat}
def modI (n m:Int):Int:=if m<1 then 0 else n%m
theorem modI_le (n:Int) {m:Int} (h:1≤m):0≤modI n m∧modI n m<m:=by
 unfold modI
 rw[if_neg (by omega)]
 exact⟨Int.emod_nonneg _ (by omega),Int.emod_lt_of_pos _ (by omega)⟩
theorem f17_eq (n m:Int) (hm:m≤4611686018427387904) (K:Int→Option α):f17 k n m K=K (modI n m):=by
 simp only[f17,s17,SumT.leaf,SumT.pre,SumT.seq,SumT.cond,SumT.block,SumT.blockP,SumT.loop,zB]
 unfold modI
 by_cases h:m<1
 ·rw[decide_eq_true h,cond_true,if_pos h]
 ·rw[decide_eq_false h,cond_false,if_neg h,if_neg (by omega)]
  have h1:=Int.emod_nonneg n (show m≠0 by omega)
  have h2:=Int.emod_lt_of_pos n (show 0<m by omega)
  have h3:Int.tmod n m=n%m∨(Int.tmod n m<0∧Int.tmod n m+m=n%m)∨Int.tmod n m=n%m:=by
   by_cases hn:0≤n
   ·exact .inl (Int.tmod_eq_emod_of_nonneg hn)
   ·have e:=Int.tmod_eq_emod (a:=n) (b:=m)
    rw[e]
    split
    ·exact .inl (by omega)
    ·right
     left
     rename_i hd
     have:n%m≠0:=fun h=>hd (.inr (Int.dvd_of_emod_eq_zero h))
     have:((m.natAbs:Nat):Int)=m:=by omega
     omega
  rcases h3 with h3|⟨h3,h4⟩|h3
  ·rw[decide_eq_false (by omega),cond_false,h3]
  ·rw[decide_eq_true h3,cond_true,w64_id (by omega) (by omega),h4]
  ·rw[decide_eq_false (by omega),cond_false,h3]
def Gv (n v:Int):Prop:=0≤v∧(1≤n→v<n)
theorem f14_eq {d:DT9} (h:Dok d) (n:Int) (hn:n≤4611686018427387904): ∃(d':DT9) (v:Int),Dok d'∧Gv n v∧ ∀K:DT9→Int→Option α,f14w k d n K=K d' v:=by
 have h1:=h.lo
 have h2:=h.hi
 have h3:=h.ln
 simp only[f14w,s14w,SumT.leaf,SumT.pre,SumT.seq,SumT.cond,SumT.block,SumT.blockP,SumT.loop,zB]
 by_cases hd:d.2≥(d.1.length:Int)
 ·refine⟨d,0,h,⟨by omega,fun _=>by omega⟩,fun K=>?_⟩
  rw[decide_eq_true hd,cond_true]
 ·have e1:w64 (d.2+1)=d.2+1:=w64_id (by omega) (by omega)
  have e2:w64 (d.2+1-1)=d.2:=by rw[w64_id (by omega) (by omega)];omega
  refine⟨(d.1,d.2+1),modI (d.1.getD d.2.toNat 0) n,⟨by show 0≤d.2+1;omega,by show d.2+1≤(d.1.length:Int);omega,h.ln,h.vs⟩,?_,fun K=>?_⟩
  ·by_cases hn1:1≤n
   ·have:=modI_le (d.1.getD d.2.toNat 0) hn1
    exact⟨this.1,fun _=>this.2⟩
   ·unfold modI
    rw[if_pos (by omega)]
    exact⟨Int.le_refl _,fun h=>absurd h hn1⟩
  ·rw[decide_eq_false hd,cond_false,e1,e2,gd (by omega),f17_eq _ _ hn]
theorem f15_eq {d:DT9} (h:Dok d) (n:Int) (hn:n≤4611686018427387904): ∃(d':DT9) (b:Bool),Dok d'∧ ∀K:DT9→Bool→Option α,f15w k d n K=K d' b:=by
 obtain⟨d',v,h1,_,h2⟩:=f14_eq (α:=α) (k:=k) h n hn
 refine⟨d',v==w64 (n-1),h1,fun K=>?_⟩
 simp only[f15w,s15w,SumT.leaf,SumT.pre,SumT.seq,SumT.cond,SumT.block,SumT.blockP,SumT.loop,zB]
 rw[h2]
theorem f34_eq (hk:10000≤k) {d:DT9} (h:Dok d) (n:Nat) (hn:n≤1000): ∃(d':DT9) (l:List Int),Dok d'∧Byt l∧l.length=n∧ ∀K:DT9→List Int→Option α,f34w k d (n:Int) K=K d' l:=by
 have hL: ∀d:DT9, ∃y:DT9×Int,Dok d→Dok y.1∧ ∀K:DT9→Int→Option α,f14w k d 256 K=K y.1 y.2:=fun d=>by
  by_cases hd:Dok d
  ·obtain⟨d',v,h1,_,h2⟩:=f14_eq (α:=α) (k:=k) hd 256 (by omega)
   exact⟨(d',v),fun _=>⟨h1,h2⟩⟩
  ·exact⟨(d,0),fun h=>absurd h hd⟩
 obtain⟨L,hL⟩:=Classical.axiomOfChoice hL
 have w8b: ∀z:Int,0≤w8 z∧w8 z<256:=fun z=>by
  simp only[w8,IntKind.wrap,IntKind.bits,IntKind.signed]
  simp
  omega
 let stp:=fun(_:Nat) (a:DT9×List Int)=>((L a.1).1,a.2++[w8 (L a.1).2])
 let Inv:=fun(i:Nat) (a:DT9×List Int)=>Dok a.1∧Byt a.2∧List.length a.2=i
 have hst: ∀i a,Inv i a→Inv (i+1) (stp i a):=fun i a ⟨h1,h2,h3⟩=>⟨(hL a.1 h1).1,fun x hx=>by
  rcases List.mem_append.1 hx with hx|hx
  ·exact h2 x hx
  ·rw[List.mem_singleton.1 hx]
   exact w8b _,by show List.length (a.2++[_])=i+1;rw[List.length_append,h3];rfl⟩
 have hI0:Inv 0 (d,[]):=⟨h,(fun x hx=>nomatch hx),rfl⟩
 have hIN:=run_inv (f:=stp) Inv n 0 _ hI0 fun j a _ _ hI=>hst j a hI
 rw[Nat.zero_add]at hIN
 refine⟨(run stp 0 n (d,[])).1,(run stp 0 n (d,[])).2,hIN.1,hIN.2.1,hIN.2.2,fun K=>?_⟩
 simp only[f34w,s34w,SumT.leaf,SumT.pre,SumT.seq,SumT.cond,SumT.block,SumT.blockP,SumT.loop,zB]
 refine lp_run2 (fun i (a:DT9×List Int)=>(a.1,(n:Int)-(i:Int),a.2)) n stp Inv (by omega) (a:=(d,[])) hI0 ?_ ?_
 ·intro i a q hi hI
  refine⟨?_,hst i a hI⟩
  simp only[]
  rw[decide_eq_true (by omega),cond_true,(hL a.1 hI.1).2,gd (by have:=hI.2.2;simp;unfold room;omega),w64_id (by omega) (by omega),show(n:Int)-i-1=n-((i+1:Nat):Int) by omega]
 ·intro q _
  simp only[]
  rw[decide_eq_false (by omega),cond_false]
end
theorem vsh_of: ∀{l:List Int} {sum:Int},(∀w∈l,0≤w∧w≤12)→l.foldl (· + ·) sum≤12→vsh l sum=true
 | [],sum,_,h=>decide_eq_true h
 | w::l,sum,h1,h2=>by
  have:=h1 w (by simp)
  rw[vsh,decide_eq_false (by omega),decide_eq_false (by omega),cond_false,cond_false]
  exact vsh_of (fun x hx=>h1 x (by simp[hx])) h2
section
variable {α:Type} {k:Nat} {s:DT4} {c:DT5} {ws:List DT0} {fs:List DT1}
theorem f31_eq (hk:10000≤k) {d:DT9} (h:Dok d): ∃(d':DT9) (s:DT4),Dok d'∧vshape s=true∧ ∀K:DT9→DT4→Option α,f31w k d 5 K=K d' s:=by
 obtain⟨d1,n,a1,a2,a3⟩:=f14_eq (α:=α) (k:=k) h 6 (by omega)
 have hL: ∀d:DT9, ∃y:DT9×Int,Dok d→Dok y.1∧0≤y.2∧y.2<6∧ ∀K:DT9→Int→Option α,f14w k d 6 K=K y.1 y.2:=fun d=>by
  by_cases hd:Dok d
  ·obtain⟨d',v,h1,h3,h2⟩:=f14_eq (α:=α) (k:=k) hd 6 (by omega)
   exact⟨(d',v),fun _=>⟨h1,h3.1,h3.2 (by omega),h2⟩⟩
  ·exact⟨(d,0),fun h=>absurd h hd⟩
 obtain⟨L,hL⟩:=Classical.axiomOfChoice hL
 obtain⟨N,rfl⟩: ∃N:Nat,n=N:=⟨n.toNat,by have:=a2.1;omega⟩
 have hN:N≤5:=by have:=a2.2 (by omega);omega
 let stp:=fun(_:Nat) (a:DT9×List Int)=>((L a.1).1,a.2.set (L a.1).2.toNat (a.2.getD (L a.1).2.toNat 0+1))
 let Inv:=fun(i:Nat) (a:DT9×List Int)=>Dok a.1∧i≤5∧ ∃u v w x y z:Int,a.2=[u,v,w,x,y,z]∧0≤u∧0≤v∧0≤w∧0≤x∧0≤y∧0≤z∧u+v+w+x+y+z=i
 have hst: ∀i a,i<5→Inv i a→Inv (i+1) (stp i a):=by
  rintro i ⟨d,l⟩ hi ⟨h1,_,u,v,w,x,y,z,rfl,b1,b2,b3,b4,b5,b6,b7⟩
  obtain⟨g1,g2,g3,_⟩:=hL d h1
  refine⟨g1,by omega,?_⟩
  show∃u' v' w' x' y' z':Int,List.set [u,v,w,x,y,z] (L d).2.toNat (List.getD [u,v,w,x,y,z] (L d).2.toNat 0+1)=[u',v',w',x',y',z']∧_
  have hc:(L d).2.toNat=0∨(L d).2.toNat=1∨(L d).2.toNat=2∨(L d).2.toNat=3∨(L d).2.toNat=4∨(L d).2.toNat=5:=by omega
  rcases hc with e|e|e|e|e|e<;>rw[e]
  ·exact⟨u+1,v,w,x,y,z,rfl,by omega⟩
  ·exact⟨u,v+1,w,x,y,z,rfl,by omega⟩
  ·exact⟨u,v,w+1,x,y,z,rfl,by omega⟩
  ·exact⟨u,v,w,x+1,y,z,rfl,by omega⟩
  ·exact⟨u,v,w,x,y+1,z,rfl,by omega⟩
  ·exact⟨u,v,w,x,y,z+1,rfl,by omega⟩
 have hI0:Inv 0 (d1,[0,0,0,0,0,0]):=⟨a1,by omega,0,0,0,0,0,0,rfl,by omega,by omega,by omega,by omega,by omega,by omega,by omega⟩
 have hIN:=run_inv (f:=stp) Inv N 0 _ hI0 fun j a _ hj hI=>hst j a (by omega) hI
 rw[Nat.zero_add]at hIN
 generalize hR:run stp 0 N (d1,[0,0,0,0,0,0])=R at hIN
 obtain⟨r1,_,u,v,w,x,y,z,r2,b1,b2,b3,b4,b5,b6,b7⟩:=hIN
 refine⟨R.1,(u,v,w,x,y,z),r1,vsh_of (fun q hq=>?_) ?_,fun K=>?_⟩
 ·simp only[sl6,List.mem_cons,List.not_mem_nil,or_false]at hq
  omega
 ·show 0+u+v+w+x+y+z≤12
  omega
 simp only[f31w,s31w,SumT.leaf,SumT.pre,SumT.seq,SumT.cond,SumT.block,SumT.blockP,SumT.loop,zB]
 rw[show w64 (5+1)=6 from rfl,a3]
 refine lp_run2 (fun i (a:DT9×List Int)=>(a.1,((0:Int),(0:Int),(0:Int),(0:Int),(0:Int),(0:Int)),a.2,(N:Int)-(i:Int))) N stp Inv (by omega) (a:=(d1,[0,0,0,0,0,0])) hI0 ?_ ?_
 ·rintro i ⟨d,l⟩ q hi hI
  refine⟨?_,hst i _ (by omega) hI⟩
  obtain⟨h1,_,u,v,w,x,y,z,rfl,c1,c2,c3,c4,c5,c6,c7⟩:=hI
  obtain⟨g1,g2,g3,g4⟩:=hL d h1
  have hb:0≤List.getD [u,v,w,x,y,z] (L d).2.toNat 0∧List.getD [u,v,w,x,y,z] (L d).2.toNat 0≤5:=by
   have hc:(L d).2.toNat=0∨(L d).2.toNat=1∨(L d).2.toNat=2∨(L d).2.toNat=3∨(L d).2.toNat=4∨(L d).2.toNat=5:=by omega
   rcases hc with e|e|e|e|e|e<;>rw[e]<;>simp<;>omega
  simp only[]
  rw[decide_eq_true (by omega),cond_true,g4,gd (by omega),gd (by simp;omega),gd (by omega),gd (by simp;omega),Nat.add_zero,w64_id (by omega) (by omega),w64_id (by omega) (by omega),show(N:Int)-i-1=N-((i+1:Nat):Int) by omega]
 ·intro q _
  rw[hR]
  simp only[r2]
  rw[decide_eq_false (by omega),cond_false]
  rfl
theorem f32_eq (hk:10000≤k) {d:DT9} (h:Dok d): ∃(d':DT9) (c:DT5),Dok d'∧vcode c=true∧ ∀K:DT9→DT5→Option α,f32w k d K=K d' c:=by
 simp only[f32w,s32w,SumT.leaf,SumT.pre,SumT.seq,SumT.cond,SumT.block,SumT.blockP,SumT.loop,zB]
 simp only[f56w,s56w,SumT.leaf,SumT.pre,SumT.seq,SumT.cond,SumT.block,SumT.blockP,SumT.loop,zB]
 obtain⟨d1,b,h1,e1⟩:=f15_eq (α:=α) (k:=k) h 4 (by omega)
 simp only[e1]
 cases b
 case true=>exact⟨d1,(1,8,1,1),h1,rfl,fun K=>rfl⟩
 obtain⟨d2,i,h2,g2,e2⟩:=f14_eq (α:=α) (k:=k) h1 3 (by omega)
 have gi:=g2.2 (by omega)
 have g0:=g2.1
 have hm:1≤[4,8,32].getD i.toNat (0:Int)∧[4,8,32].getD i.toNat (0:Int)≤32:=by
  have hc:i.toNat=0∨i.toNat=1∨i.toNat=2:=by omega
  rcases hc with e|e|e<;>rw[e]<;>decide
 obtain⟨d3,x,h3,g3,e3⟩:=f14_eq (α:=α) (k:=k) h2 ([4,8,32].getD i.toNat (0:Int)) (by omega)
 obtain⟨d4,y,h4,g4,e4⟩:=f14_eq (α:=α) (k:=k) h3 8 (by omega)
 obtain⟨d5,b,h5,e5⟩:=f15_eq (α:=α) (k:=k) h4 3 (by omega)
 have x1:=g3.1
 have x2:=g3.2 hm.1
 have y1:=g4.1
 have y2:=g4.2 (by omega)
 have hg:0≤i∧i<(([4,8,32]:List Nat).length:Int):=⟨g0,gi⟩
 have w1:w64 (1+x)=1+x:=w64_id (by omega) (by omega)
 have w2:w64 (1+y)=1+y:=w64_id (by omega) (by omega)
 have w3:w64 (Int.tdiv (1+y) 2)=(1+y)/2:=by rw[Int.tdiv_eq_ediv_of_nonneg (by omega),w64_id (by omega) (by omega)]
 have hv: ∀f:Int,0≤f→f≤(1+y)/2→vcode (2,1+x,1+y,f)=true:=fun f f1 f2=>by
  simp only[vcode]
  rw[Int.tdiv_eq_ediv_of_nonneg (by omega),decide_eq_true (by omega),decide_eq_true (by omega),decide_eq_true (by omega),decide_eq_true (by omega),decide_eq_true (by omega),decide_eq_true (by omega)]
  rfl
 simp only[cond_false,e2,if_pos hg,e3,e4,e5,w1,w2,w3]
 cases b
 ·exact⟨d5,(2,1+x,1+y,(1+y)/2),h5,hv _ (by omega) (by omega),fun K=>rfl⟩
 ·have w4:w64 ((1+y)/2+1)=(1+y)/2+1:=w64_id (by omega) (by omega)
  obtain⟨d6,z,h6,g6,e6⟩:=f14_eq (α:=α) (k:=k) h5 ((1+y)/2+1) (by omega)
  have z2:=g6.2 (by omega)
  simp only[cond_true,w4,e6]
  exact⟨d6,(2,1+x,1+y,z),h6,hv _ g6.1 (by omega),fun K=>rfl⟩
end
theorem eqI_comm (a b:Int) (c:Bool):eqI a b c=eqI b a c:=by
 unfold eqI
 rw[show(a==b)=(b==a)from Bool.eq_iff_iff.2 ⟨fun h=>by simpa using (beq_iff_eq.1 h).symm,fun h=>by simpa using (beq_iff_eq.1 h).symm⟩]
theorem eqB_comm (a b c:Bool):eqB a b c=eqB b a c:=by
 cases a<;>cases b<;>rfl
theorem eqf_comm (a b:DT1):eqf a b=eqf b a:=by
 unfold eqf
 simp only[eqI_comm a.1,eqI_comm a.2.1,eqI_comm a.2.2.1,eqI_comm a.2.2.2.1,eqI_comm a.2.2.2.2.1,eqI_comm a.2.2.2.2.2.1,eqI_comm a.2.2.2.2.2.2.1,eqI_comm a.2.2.2.2.2.2.2.1,eqI_comm a.2.2.2.2.2.2.2.2.1,eqI_comm a.2.2.2.2.2.2.2.2.2.1,eqB_comm a.2.2.2.2.2.2.2.2.2.2]
theorem vfs_snoc {s:DT4} {n:Int} {f:DT1} (h1:f.2.2.2.2.2.2.2.2.2.2=true) (h2:vfault s n f=true): ∀{fs pre:List DT1},vfs s n pre fs=true→((pre++fs).any fun x=>eqf f x)=false→vfs s n pre (fs++[f])=true
 | [],pre,_,h=>by
  rw[List.append_nil]at h
  rw[List.nil_append,vfs,h1,h2,h]
  rfl
 | g::r,pre,h,ha=>by
  rw[vfs]at h
  rw[List.cons_append,vfs]
  cases e1:g.2.2.2.2.2.2.2.2.2.2<;>rw[e1]at h
  case false=>cases h
  cases e2:vfault s n g<;>rw[e2]at h
  case false=>cases h
  cases e3:pre.any (fun x=>eqf g x)<;>rw[e3]at h
  case true=>cases h
  exact vfs_snoc h1 h2 h (by rw[List.append_assoc];exact ha)
section
variable {α:Type} {k:Nat} {s:DT4} {c:DT5} {ws:List DT0} {fs:List DT1}
theorem VM.new (h1:vshape s=true) (h2:vcode c=true):VM s c [] []:=⟨h1,h2,Nat.zero_le _,(fun w h=>nomatch h),List.Pairwise.nil,rfl⟩
theorem f23_eq (hk:10000≤k) (h1:vshape s=true) (h2:vcode c=true) (K:DT2→Int→Option α):f23 k s c K=K (mk s c [] []) 0:=by
 have h:=VM.new h1 h2
 simp only[f23,s23,SumT.leaf,SumT.pre,SumT.seq,SumT.cond,SumT.block,SumT.blockP,SumT.loop,zB]
 have:=f47_eq (α:=α) hk s c [] [] h.mb
 rw[h.mem]at this
 refine(this _).trans ?_
 rfl
theorem f33_eq (hk:10000≤k) (h:VM s c ws fs) (t:Int) (h0:0≤t) (h1:t<szOf s) {x:List Int} (hb:Byt x) (hl:((x.length:Nat):Int)=c.2.1): ∃ws',VM s c ws' fs∧ ∀K:DT2→Int→Option α,f33 k (mk s c ws fs) t x K=K (mk s c ws' fs) 0:=by
 obtain⟨o,o1,o2,o3,o4⟩:=enc_both (α:=α) hk h.cd hb hl
 have hch:=chips_le h.cd
 refine⟨putW ws (t,o,false),h.put h0 h1 o4 o3,fun K=>?_⟩
 simp only[f33,s33,SumT.leaf,SumT.pre,SumT.seq,SumT.cond,SumT.block,SumT.blockP,SumT.loop,zB]
 have pc:((mk s c ws fs).2.2.2.2.2.2.1,(mk s c ws fs).2.2.2.2.2.2.2.1,(mk s c ws fs).2.2.2.2.2.2.2.2.1,(mk s c ws fs).2.2.2.2.2.2.2.2.2.1)=c:=rfl
 rw[f57_eq hk h t h0 h1,z0,cond_false,pc,o2,z0,cond_false,f52_eq hk s c ws fs _ h.so h.mb (by show o.length<1000;omega)]
theorem f35_eq (hk:10000≤k) (h:VM s c ws fs) (t:Int) (h0:0≤t) (h1:t<szOf s): ∃ws',VM s c ws' fs∧ ∀K:DT2→Int→Option α,f35 k (mk s c ws fs) t K=K (mk s c ws' fs) 0:=by
 obtain⟨l1,l2,l3⟩:=h.lk t
 have hch:=chips_le h.cd
 refine⟨putW ws (t,(lkW t (chips c).toNat ws).2.1,true),h.put h0 h1 l2 l3,fun K=>?_⟩
 simp only[f35,s35,SumT.leaf,SumT.pre,SumT.seq,SumT.cond,SumT.block,SumT.blockP,SumT.loop,zB]
 rw[f57_eq hk h t h0 h1,z0,cond_false,l1,f52_eq hk s c ws fs _ h.so h.mb (by show List.length (lkW t (chips c).toNat ws).2.1<1000;omega)]
theorem f50_eq (hk:10000≤k) (h:vshape s=true) (f:DT1): ∃l:List Int,(∀x∈l,0≤x∧x<szOf s)∧l.length≤4096∧ ∀K:List Int→Option α,f50 k s f K=K l:=by
 have hsz:=szOf_le s
 obtain⟨N,hN⟩: ∃N:Nat,szOf s=N:=⟨(szOf s).toNat,by omega⟩
 let stp:=fun(i:Nat) (l:List Int)=>bif cov f (atP4 s i)then l++[(i:Int)]else l
 let Inv:=fun(i:Nat) (l:List Int)=>List.length l≤i∧ ∀x∈l,0≤x∧x<(i:Int)
 have hst: ∀i l,Inv i l→Inv (i+1) (stp i l):=by
  rintro i l ⟨h1,h2⟩
  show List.length (bif cov f (atP4 s i)then l++[(i:Int)]else l)≤i+1∧ ∀x∈(bif cov f (atP4 s i)then l++[(i:Int)]else l),_
  cases cov f (atP4 s i)
  ·exact⟨by rw[cond_false];omega,fun x hx=>by have:=h2 x hx;omega⟩
  ·refine⟨by rw[cond_true,List.length_append];simp;omega,fun x hx=>?_⟩
   rcases List.mem_append.1 hx with hx|hx
   ·have:=h2 x hx
    omega
   ·rw[List.mem_singleton.1 hx]
    omega
 have hI0:Inv 0 []:=⟨Nat.le_refl _,fun x hx=>nomatch hx⟩
 have hIN:=run_inv (f:=stp) Inv N 0 _ hI0 fun j a _ _ hI=>hst j a hI
 rw[Nat.zero_add]at hIN
 refine⟨run stp 0 N [],by rw[hN];exact hIN.2,Nat.le_trans hIN.1 (by omega),fun K=>?_⟩
 simp only[f50,s50,SumT.leaf,SumT.pre,SumT.seq,SumT.cond,SumT.block,SumT.blockP,SumT.loop,zB]
 refine lp_run2 (fun i (l:List Int)=>(s,f,l,(i:Int))) N stp Inv (by omega) (a:=[]) hI0 ?_ ?_
 ·intro i l q hi hI
  refine⟨?_,hst i l hI⟩
  simp only[]
  rw[f13_eq hk,hN,dlt (by omega),cond_true,f83_eq hk s _ h (by omega) (by omega),f84_eq hk,w64_id (by omega) (by omega)]
  show _=q (s,f,(bif cov f (atP4 s i)then l++[(i:Int)]else l),((i+1:Nat):Int))
  cases cov f (atP4 s i)
  ·rfl
  ·rw[cond_true,cond_true,gd (by have:=hI.1;simp;unfold room;omega)]
   rfl
 ·intro q _
  simp only[]
  rw[f13_eq hk,hN,dge (by omega),cond_false]
theorem f24_eq (hk:10000≤k) (h:VM s c ws fs) (f:DT1): ∃(ws':List DT0) (fs':List DT1) (e:Int),VM s c ws' fs'∧ ∀K:DT2→Int→Option α,f24 k (mk s c ws fs) f K=K (mk s c ws' fs') e:=by
 have hfl:=h.fl
 simp only[f24,s24,SumT.leaf,SumT.pre,SumT.seq,SumT.cond,SumT.block,SumT.blockP,SumT.loop,zB]
 simp only[f47_eq hk s c ws fs h.mb,h.mem,Bool.not_true,cond_false,f16_eq]
 have pc:((mk s c ws fs).2.2.2.2.2.2.1,(mk s c ws fs).2.2.2.2.2.2.2.1,(mk s c ws fs).2.2.2.2.2.2.2.2.1,(mk s c ws fs).2.2.2.2.2.2.2.2.2.1)=c:=rfl
 have ps:((mk s c ws fs).1,(mk s c ws fs).2.1,(mk s c ws fs).2.2.1,(mk s c ws fs).2.2.2.1,(mk s c ws fs).2.2.2.2.1,(mk s c ws fs).2.2.2.2.2.1)=s:=rfl
 simp only[pc,ps,f49_eq hk]
 cases hvf:vfault s (chips c) f
 case false=>
  refine⟨ws,fs,2,h,fun K=>?_⟩
  rw[Bool.not_false,cond_true]
  exact f48_eq hk s c ws fs h.mb _
 simp only[Bool.not_true,cond_false]
 have hch:=vfault_chip hvf
 simp only[chipOf]at hch
 cases hh:f.2.2.2.2.2.2.2.2.2.2
 case false=>
  obtain⟨l,l1,l2,l3⟩:=f50_eq (α:=α) hk h.sh f
  simp only[Bool.not_false,cond_true,l3]
  let fl:=fun(t:Int) (w:List DT0)=>putW w ((lkW t (chips c).toNat w).1,List.set (lkW t (chips c).toNat w).2.1 f.2.2.2.2.2.2.2.1.toNat (bitI .xor .u8 (List.getD (lkW t (chips c).toNat w).2.1 f.2.2.2.2.2.2.2.1.toNat 0) f.2.2.2.2.2.2.2.2.1),(lkW t (chips c).toNat w).2.2)
  let stp:=fun(i:Nat) (w:List DT0)=>fl (l.getD i 0) w
  have hst: ∀i w,i<l.length→VM s c w fs→VM s c (stp i w) fs:=fun i w hi hw=>by
   obtain⟨g1,g2,g3⟩:=hw.lk (l.getD i 0)
   have:=l1 _ (getD_mem 0 hi)
   exact hw.put (by show 0≤(lkW _ _ w).1;rw[g1];omega) (by show(lkW _ _ w).1<_;rw[g1];omega) (by show((List.length (List.set _ _ _):Nat):Int)=_;rw[List.length_set,g2]) (g3.set _ (xor_byt _ _))
  have hIN:VM s c (run stp 0 l.length ws) fs:=by
   have:=run_inv (f:=stp) (fun _ w=>VM s c w fs) l.length 0 ws h fun j w _ hj hw=>hst j w (by omega) hw
   exact this
  refine⟨run stp 0 l.length ws,fs,0,hIN,fun K=>?_⟩
  refine lp_run2 (fun i (w:List DT0)=>(mk s c w fs,f,zT2,l,(i:Int))) l.length stp (fun _ w=>VM s c w fs) (by omega) (a:=ws) h ?_ ?_
  ·intro i w q hi hw
   refine⟨?_,hst i w hi hw⟩
   obtain⟨g1,g2,g3⟩:=hw.lk (l.getD i 0)
   have hcl:=chips_le h.cd
   simp only[]
   rw[dlt (by omega),cond_true,gd (by omega),Int.toNat_natCast,f51_eq hk s c w fs _ hw.so hw.mb h.cd,gd (by omega),gd (by omega),f52_eq hk s c w fs _ hw.so hw.mb (by show List.length (List.set _ _ _)<1000;rw[List.length_set];omega),w64_id (by omega) (by omega)]
   rfl
  ·intro q hw
   simp only[]
   rw[dge (by omega),cond_false,f48_eq hk s c _ fs hw.mb]
 simp only[Bool.not_true,cond_false]
 cases hany:fs.any (fun x=>eqf x f)
 case true=>
  refine⟨ws,fs,8,h,fun K=>?_⟩
  refine lp_rule (fun q x=> ∃j:Nat,j+q=fs.length∧x=(mk s c ws fs,f,zT2,(j:Int))∧((fs.drop j).any fun x=>eqf x f)=true) ?_ (m:=fs.length) ⟨0,by omega,rfl,hany⟩ (by omega)
  rintro q x n ⟨j,hj,rfl,ha⟩ hn
  cases q with
  | zero=>
   rw[List.drop_eq_nil_of_le (by omega)]at ha
   cases ha
  | succ q=>
   rw[drop_getD zT1 (show j<fs.length by omega),List.any_cons]at ha
   simp only[]
   rw[dlt (by omega),cond_true,gd (by omega),Int.toNat_natCast]
   refine Eq.trans (b:=bif eqf (fs.getD j zT1) f then _ else _) rfl ?_
   cases he:eqf (fs.getD j zT1) f
   ·rw[he,Bool.false_or]at ha
    rw[cond_false,w64_id (by omega) (by omega)]
    exact hn q _ (by omega) ⟨j+1,by omega,rfl,ha⟩
   ·rw[cond_true]
    exact f48_eq hk s c ws fs h.mb _
 by_cases h64:fs.length=64
 ·refine⟨ws,fs,16,h,fun K=>?_⟩
  refine lp_run2 (fun i (_:Unit)=>(mk s c ws fs,f,zT2,(i:Int))) fs.length (fun _ a=>a) (fun _ _=>True) (by omega) (a:=()) trivial ?_ ?_
  ·intro i _ q hi _
   refine⟨?_,trivial⟩
   have he:eqf (fs.getD i zT1) f=false:=List.any_eq_false.1 hany _ (getD_mem zT1 hi)|>fun h=>by simpa using h
   simp only[]
   rw[dlt (by omega),cond_true,gd (by omega),Int.toNat_natCast]
   refine Eq.trans (b:=bif eqf (fs.getD i zT1) f then _ else _) rfl ?_
   rw[he,cond_false,w64_id (by omega) (by omega)]
   rfl
  ·intro q _
   simp only[]
   rw[dge (by omega),cond_false,h64,show(((64:Nat):Int)==64)=true from rfl,cond_true]
   exact f48_eq hk s c ws fs h.mb _
 ·have hv:VM s c ws (fs++[f]):=⟨h.sh,h.cd,by rw[List.length_append];simp;omega,h.ok,h.so,vfs_snoc hh hvf h.ft (by
   rw[List.nil_append,List.any_eq_false]
   intro x hx
   rw[eqf_comm]
   exact List.any_eq_false.1 hany x hx)⟩
  refine⟨ws,fs++[f],0,hv,fun K=>?_⟩
  refine lp_run2 (fun i (_:Unit)=>(mk s c ws fs,f,zT2,(i:Int))) fs.length (fun _ a=>a) (fun _ _=>True) (by omega) (a:=()) trivial ?_ ?_
  ·intro i _ q hi _
   refine⟨?_,trivial⟩
   have he:eqf (fs.getD i zT1) f=false:=List.any_eq_false.1 hany _ (getD_mem zT1 hi)|>fun h=>by simpa using h
   simp only[]
   rw[dlt (by omega),cond_true,gd (by omega),Int.toNat_natCast]
   refine Eq.trans (b:=bif eqf (fs.getD i zT1) f then _ else _) rfl ?_
   rw[he,cond_false,w64_id (by omega) (by omega)]
   rfl
  ·intro q _
   simp only[]
   rw[dge (by omega),cond_false,show(((fs.length:Nat):Int)==64)=false from beq_eq_false_iff_ne.2 (by omega),cond_false,f48_eq hk s c ws fs h.mb,gd (by simp;unfold room;omega)]
end
end Go.Proofs.YtkeiedikiiccpaaGreatDoor.Am
