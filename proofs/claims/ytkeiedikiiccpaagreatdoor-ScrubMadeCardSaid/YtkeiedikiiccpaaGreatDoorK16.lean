/- A part of the proof of ScrubMade: lemmas. No conditions beyond those of each lemma. -/
import Derived.Test.YtkeiedikiiccpaaGreatDoorK15
set_option linter.all false
namespace Go.Proofs.YtkeiedikiiccpaaGreatDoor.Am
open Go
theorem run_any {β:Type} (g:β→Bool) (d:β) (l:List β) (b:Bool):run (fun i ag=>ag||g (l.getD i d)) 0 l.length b=(b||l.any g):=by
 rw[run_fold (f:=fun ag x=>ag||g x) l b]
 induction l generalizing b with
 | nil=>simp
 | cons x l ih=>rw[List.foldl_cons,ih,List.any_cons,Bool.or_assoc]
theorem diff_nil {v w:List F8} {n:Nat} (h1:v.length=n) (h2:w.length=n):((List.range n).filter fun i=>v.getD i 0 !=w.getD i 0)=[]↔v=w:=by
 rw[List.filter_eq_nil_iff]
 constructor
 ·intro h
  refine ext_getD 0 (by omega) fun i hi=>?_
  have:=h i (by simp;omega)
  simpa using this
 ·rintro rfl i _
  simp
section
variable {α:Type} {k:Nat}
theorem f128_eq (hk:10000≤k) (d c f:Nat) (h1:1≤d) (h2:d≤32) (h3:1≤c) (h4:c≤8) (h5:f≤c/2) (hv:vcode (2,(d:Int),(c:Int),(f:Int))=true) (w:List F8) (hw:w.length=d+c) (E:List Nat) (hE:ErOk E (d+c) c) (K:DT8→Int→Option α):
  f128 k (2,(d:Int),(c:Int),(f:Int)) (bs w) (zs E) K=K (refDec (d+c) (min f ((c-E.length)/2)) (syn w c) w E) 0:=by
 have hEl:=hE.le
 have hsl:=syn_len w c
 simp only[f128,s128,SumT.leaf,SumT.pre,SumT.seq,SumT.cond,SumT.block,SumT.blockP,SumT.loop,zB]
 rw[f159_eq hk d c f h2 h4 hv w hw E hE,show((0:Int) !=0)=false from rfl,cond_false,f160_eq hk d c f h1 h2 h3 h4 hv w hw,bs_len,hsl,gd (by unfold room;omega),bs_len,hw]
 refine lp_run2 (fun i u=>(bs w,zs E,((2:Int),(d:Int),(c:Int),(f:Int)),((0:Int),([]:List Int),([]:List Int)),((d+c:Nat):Int),bs (syn w c),bs u,(i:Int))) E.length (fun i u=>usub u (PX (d+c) (E.getD i 0))) (fun i u=>u.length=c-i) (by omega) (a:=syn w c) hsl ?_ ?_
 ·intro i u n2 hi hI
  refine⟨?_,by unfold usub;simp;omega⟩
  have hp:=hE.lt _ (getD_mem 0 hi)
  have e2:w64 (w64 (((d+c:Nat):Int)-1)-((E.getD i 0:Nat):Int))=((d+c-1-E.getD i 0:Nat):Int):=by
   rw[show w64 (((d+c:Nat):Int)-1)=((d+c-1:Nat):Int) by rw[w64_id (by omega) (by omega)];omega,w64_id (by omega) (by omega)]
   omega
  simp only[]
  rw[zs_len,dlt (by omega),cond_true,gd (by omega),Int.toNat_natCast,zs_getD,e2,f108_eq hk _ (by omega)]
  generalize hx:gpow 2 (d+c-1-E.getD i 0)=x
  refine lp_rule (fun m y=> ∃(j:Nat) (r:List F8),j+m+1=u.length∧y=(bs w,zs E,((2:Int),(d:Int),(c:Int),(f:Int)),((0:Int),([]:List Int),([]:List Int)),((d+c:Nat):Int),bs (syn w c),bs r,(i:Int),ofG x,(j:Int))∧r.length=u.length∧
   (∀q,q<u.length→r.getD q 0=if q<j then u.getD (q+1) 0^^^gmul x (u.getD q 0)else u.getD q 0)) ?_ (m:=u.length-1) ⟨0,u,by omega,rfl,rfl,fun q hq=>by rw[if_neg (by omega)]⟩ (by omega)
  rintro m y n3 ⟨j,r,hj,rfl,hr,hg⟩ hn3
  have e3:w64 ((j:Int)+1)=((j+1:Nat):Int):=w64_id (by omega) (by omega)
  simp only[e3]
  rw[bs_len]
  cases m with
  | zero=>
   rw[dge (by omega),cond_false,show w64 ((r.length:Int)-1)=((r.length-1:Nat):Int) by rw[w64_id (by omega) (by omega)];omega,gd (by omega),Int.toNat_natCast,bs_take,w64_id (by omega) (by omega)]
   have:r.take (r.length-1)=usub u (PX (d+c) (E.getD i 0)):=ext_getD 0 (by unfold usub;simp[hr]) fun q hq=>by
    rw[List.length_take]at hq
    unfold usub
    rw[getD_take,if_pos (by omega),hg _ (by omega),if_pos (by omega),map_range_getD _ _ _ _ (by omega), ←hx]
   rw[this]
   rfl
  | succ m=>
   rw[dlt (by omega),cond_true,gd (by omega),gd (by omega),Int.toNat_natCast,Int.toNat_natCast,bs_getD,f131_eq hk,gd (by omega),bs_getD,ofG_xor,bs_set]
   refine hn3 m _ (by omega) ⟨j+1,_,by omega,rfl,by rw[List.length_set,hr],fun q hq=>?_⟩
   rw[getD_set]
   by_cases h1:j=q
   ·subst h1
    rw[if_pos ⟨rfl,by omega⟩,if_pos (by omega),hg _ (by omega),if_neg (by omega),hg _ hq,if_neg (by omega)]
   ·rw[if_neg (by omega),hg q hq]
    by_cases h2:q<j
    ·rw[if_pos h2,if_pos (by omega)]
    ·rw[if_neg h2,if_neg (by omega)]
 ·intro n2 _
  have hfold:run (fun i u=>usub u (PX (d+c) (E.getD i 0))) 0 E.length (syn w c)=U (d+c) (syn w c) E:=run_fold (f:=fun u p=>usub u (PX (d+c) p)) E (syn w c)
  have hUl:=U_len (d+c) E (syn w c)
  rw[hfold]
  have e2:w64 (Int.tdiv (w64 ((c:Int)-(E.length:Int))) 2)=(((c-E.length)/2:Nat):Int):=by
   rw[show w64 ((c:Int)-(E.length:Int))=((c-E.length:Nat):Int) by rw[w64_id (by omega) (by omega)];omega,Int.tdiv_eq_ediv_of_nonneg (by omega),w64_id (by omega) (by omega)]
   omega
  simp only[]
  rw[zs_len,dge (by omega),cond_false,e2]
  have hsplit: ∀(A:Int→Option α),(bif decide ((f:Int)<(((c-E.length)/2:Nat):Int))then A (f:Int)else A (((c-E.length)/2:Nat):Int))=A ((min f ((c-E.length)/2):Nat):Int):=fun A=>by
   by_cases h:f<(c-E.length)/2
   ·rw[dlt (by omega),cond_true]
    congr 1
    omega
   ·rw[dge (by omega),cond_false]
    congr 1
    omega
  refine(hsplit fun most=>lpF _ k (bs w,zs E,((0:Int),([]:List Int),([]:List Int)),((d+c:Nat):Int),bs (syn w c),bs (U (d+c) (syn w c) E),most,(0:Int))).trans ?_
  generalize hmost:min f ((c-E.length)/2)=most
  have hm4:most≤(c-E.length)/2:=by omega
  generalize hu:U (d+c) (syn w c) E=u at hUl
  refine lp_rule (fun m x=> ∃v:Nat,v+m=most+1∧x=(bs w,zs E,((0:Int),([]:List Int),([]:List Int)),((d+c:Nat):Int),bs (syn w c),bs u,(most:Int),(v:Int))∧
   refFind (refTry (d+c) (syn w c) u E) v m=refFind (refTry (d+c) (syn w c) u E) 0 (most+1)) ?_ (m:=most+1) ⟨0,by omega,rfl,rfl⟩ (by omega)
  rintro m x n3 ⟨v,hvm,rfl,hf⟩ hn3
  unfold refDec
  rw[hu, ←hf]
  cases m with
  | zero=>
   simp only[]
   rw[dgt (by omega),cond_false]
   rfl
  | succ m=>
   simp only[]
   rw[dle (by omega),cond_true,f161_eq hk (d+c) u v (by omega) (by omega) (by omega)]
   have e3:w64 ((v:Int)+1)=((v+1:Nat):Int):=w64_id (by omega) (by omega)
   rw[e3]
   have hnext:refTry (d+c) (syn w c) u E v=none→n3 (bs w,zs E,((0:Int),([]:List Int),([]:List Int)),((d+c:Nat):Int),bs (syn w c),bs u,(most:Int),((v+1:Nat):Int))=
     K (match refFind (refTry (d+c) (syn w c) u E) v (m+1)with
      | none=>(2,[],[])
      | some (P,y)=>(if appl w P y=w then 0 else 1,bs (appl w P y),zs ((List.range (d+c)).filter fun i=>(appl w P y).getD i 0 !=w.getD i 0))) 0:=fun hnone=>by
    have hf2:refFind (refTry (d+c) (syn w c) u E) (v+1) m=refFind (refTry (d+c) (syn w c) u E) 0 (most+1):=by
     have h:=hf
     rw[refFind,hnone]at h
     exact h
    rw[hn3 m _ (by omega) ⟨v+1,by omega,rfl,hf2⟩]
    unfold refDec
    rw[hu, ←hf]
    cases refFind (refTry (d+c) (syn w c) u E) v (m+1)with
    | none=>rfl
    | some r=>rfl
   cases hg:gauss (hrows u v) v with
   | none=>
    simp only[]
    rw[Bool.not_false,cond_true]
    exact hnext (refTry_none (by unfold refLoc;rw[hg]))
   | some l=>
    simp only[]
    by_cases hlen:(rts (d+c) v (at0 l)).length=v
    case neg=>
     rw[decide_eq_false hlen,Bool.not_false,cond_true]
     exact hnext (refTry_none (by unfold refLoc;rw[hg];simp only[];rw[if_neg hlen]))
    have hloc:refLoc (d+c) u v=some (rts (d+c) v (at0 l)):=by unfold refLoc;rw[hg];simp only[];rw[if_pos hlen]
    have hRn:=rts_nodup (d+c) v (at0 l)
    have hRlt: ∀p∈rts (d+c) v (at0 l),p<d+c:=fun p hp=>rts_lt hp
    rw[decide_eq_true hlen,Bool.not_true,cond_false,zs_len,zs_len,gd (by unfold room;omega),gd (by unfold room;omega),zs_append]
    generalize rts (d+c) v (at0 l)=o at hloc hRn hRlt hlen
    refine lp_run2 (fun i ag=>(bs w,zs E,((0:Int),([]:List Int),([]:List Int)),((d+c:Nat):Int),bs (syn w c),bs u,(most:Int),(v:Int),zs o,zs (E++o),ag,(i:Int))) o.length (fun i ag=>ag||E.contains (o.getD i 0)) (fun _ _=>True) (by omega) (a:=false) trivial ?_ ?_
    ·intro i ag n4 hi _
     refine⟨?_,trivial⟩
     simp only[]
     rw[zs_len,dlt (by omega),cond_true]
     refine lp_run2 (fun j ag=>(bs w,zs E,((0:Int),([]:List Int),([]:List Int)),((d+c:Nat):Int),bs (syn w c),bs u,(most:Int),(v:Int),zs o,zs (E++o),ag,(i:Int),(j:Int))) E.length (fun j ag=>ag||(o.getD i 0==E.getD j 0)) (fun _ _=>True) (by omega) (a:=ag) trivial ?_ ?_
     ·intro j ag n5 hj _
      refine⟨?_,trivial⟩
      simp only[]
      rw[zs_len,dlt (by omega),cond_true,zs_len,w64_id (by omega) (by omega)]
      cases ag
      ·rw[cond_false,gd (by omega),gd (by omega),Int.toNat_natCast,Int.toNat_natCast,zs_getD,zs_getD,Bool.false_or]
       rw[show(((o.getD i 0:Nat):Int)==((E.getD j 0:Nat):Int))=(o.getD i 0==E.getD j 0) by rw[Bool.eq_iff_iff,beq_iff_eq,beq_iff_eq];omega]
       rfl
      ·rfl
     ·intro n5 _
      rw[run_any (fun x=>o.getD i 0==x) 0 E ag]
      simp only[]
      rw[zs_len,dge (by omega),cond_false, ←List.contains_eq_any_beq,w64_id (by omega) (by omega)]
      rfl
    ·intro n4 _
     rw[run_any (fun x=>E.contains x) 0 o false,Bool.false_or]
     simp only[]
     rw[zs_len,dge (by omega),cond_false]
     by_cases hag:(o.any fun x=>E.contains x)=true
     ·rw[hag,cond_true,e3]
      refine hnext (refTry_bad hloc fun hall=>?_)
      rw[List.any_eq_true]at hag
      obtain⟨p,hp,hp2⟩:=hag
      exact hall p hp (by simpa using hp2)
     ·have hag':(o.any fun x=>E.contains x)=false:=by simpa using hag
      have hall: ∀p∈o,p∉E:=fun p hp hpE=>hag (List.any_eq_true.2 ⟨p,hp,by simpa using hpE⟩)
      have hQlt: ∀p∈E++o,p<d+c:=fun p hp=>by
       rcases List.mem_append.1 hp with h|h
       ·exact hE.lt p h
       ·exact hRlt p h
      have hQl:(E++o).length≤c:=by rw[List.length_append];omega
      have hQd:(E++o).Nodup:=List.nodup_append.2 ⟨hE.inc.imp fun h=>by omega,hRn,fun a ha b hb e=>hall b hb (e▸ha)⟩
      rw[hag',cond_false,f162_eq hk (d+c) (syn w c) (E++o) (by omega) (by omega) hQlt (by omega)]
      have htry:=refTry_some (n:=d+c) (s:=syn w c) (E:=E) hloc hall
      have hgY:=gauss_Y (n:=d+c) (s:=syn w c) hQd (by omega)
      cases hgg:gauss (srows (d+c) (syn w c) (E++o)) (E++o).length with
      | none=>
       rw[hgg]at htry
       simp only[]
       rw[Bool.not_false,cond_true,e3]
       exact hnext htry
      | some y=>
       rw[hgg]at htry hgY
       simp only[]
       rw[Bool.not_true,cond_false,bs_len,hw,gd (by unfold room;omega)]
       rw[refFind,htry]
       generalize E++o=Q at hQlt hQl hQd hgY ⊢
       refine lp_run2 (fun i x=>(bs w,((0:Int),([]:List Int),([]:List Int)),((d+c:Nat):Int),zs Q,bs y,bs x,(i:Int))) Q.length (fun i w=>w.set (Q.getD i 0) (w.getD (Q.getD i 0) 0^^^y.getD i 0)) (fun _ x=>x.length=d+c) (by omega) (a:=w) hw ?_ ?_
       ·intro i x n5 hi hI
        have hp:=hQlt _ (getD_mem 0 hi)
        refine⟨?_,by rw[List.length_set,hI]⟩
        simp only[]
        rw[zs_len,dlt (by omega),cond_true,gd (by omega),Int.toNat_natCast,zs_getD,bs_len,hI,gd (by omega),bs_len,hgY.1,gd (by omega),gd (by omega),Int.toNat_natCast,bs_getD,bs_getD,ofG_xor,bs_set,w64_id (by omega) (by omega)]
        rfl
       ·intro n5 _
        rw[show run (fun i w=>w.set (Q.getD i 0) (w.getD (Q.getD i 0) 0^^^y.getD i 0)) 0 Q.length w=appl w Q y from rfl]
        have hal:=appl_len w Q y
        simp only[]
        generalize appl w Q y=out at hal
        rw[zs_len,dge (by omega),cond_false]
        refine lp_run2 (fun i (x:Int×List Nat)=>(bs w,((0:Int),([]:List Int),([]:List Int)),((d+c:Nat):Int),bs out,x.1,zs x.2,(i:Int))) (d+c) (fun i (x:Int×List Nat)=>if(out.getD i 0 !=w.getD i 0)=true then(1,x.2++[i])else x)
         (fun i x=>x.2=(List.range i).filter (fun i=>out.getD i 0 !=w.getD i 0)∧x.1=if x.2=[]then 0 else 1) (by omega) (a:=(0,[])) ⟨rfl,rfl⟩ ?_ ?_
        ·rintro i ⟨oc,ch⟩ n6 hi ⟨hI1,hI2⟩
         have hI1:ch=(List.range i).filter (fun i=>out.getD i 0 !=w.getD i 0):=hI1
         have hI2:oc=if ch=[]then 0 else 1:=hI2
         have hcl:ch.length≤i:=by
          rw[hI1]
          exact Nat.le_trans (List.length_filter_le _ _) (by simp)
         simp only[]
         rw[dlt (by omega),cond_true,bs_len,gd (by omega),bs_len,gd (by omega),Int.toNat_natCast,bs_getD,bs_getD,w64_id (by omega) (by omega)]
         by_cases he:out.getD i 0=w.getD i 0
         ·rw[he,show(ofG (w.getD i 0) !=ofG (w.getD i 0))=false by simp,cond_false,show(w.getD i 0 !=w.getD i 0)=false by simp,if_neg (by decide)]
          refine⟨rfl,?_,hI2⟩
          rw[List.range_succ,List.filter_append,List.filter_cons,he,show(w.getD i 0 !=w.getD i 0)=false by simp,if_neg (by decide),List.filter_nil,List.append_nil]
          exact hI1
         ·rw[show(ofG (out.getD i 0) !=ofG (w.getD i 0))=true from bne_iff_ne.2 fun h=>he (ofG_inj h),cond_true,zs_len,gd (by simp;unfold room;omega),zs_snoc,if_pos (bne_iff_ne.2 he)]
          refine⟨rfl,?_,?_⟩
          ·rw[List.range_succ,List.filter_append,List.filter_cons,if_pos (bne_iff_ne.2 he),List.filter_nil, ←hI1]
          ·rw[if_neg (by simp)]
        ·rintro n6 ⟨hI1,hI2⟩
         rw[hI1]at hI2
         simp only[]
         rw[dge (by omega),cond_false,hI1,hI2]
         congr 2
         have:=diff_nil (v:=out) (w:=w) (by omega) hw
         by_cases he:out=w
         ·rw[if_pos (this.2 he),if_pos he]
         ·rw[if_neg fun h=>he (this.1 h),if_neg he]
theorem dec_same (d c f:Nat) (h2:d≤32) (h4:c≤8) (w:List F8) (hw:w.length=d+c) (E:List Nat) (hE:ErOk E (d+c) c):
  progDec (d+c) (min f ((c-E.length)/2)) (syn w c) w E=refDec (d+c) (min f ((c-E.length)/2)) (syn w c) w E:=
 dec_eq (by omega) hw hE.inc hE.lt (by rw[syn_len];exact hE.le) (by rw[syn_len];omega)
end
def popc (n:Nat):Nat:=((List.range 8).filter fun j=>n.testBit j).length
def by8 (n:Nat):F8:=BitVec.ofNat 8 n
def c3 (n:Nat):List F8:=((List.range n).filter fun i=>popc i==3).map by8
def c5 (n:Nat):List F8:=((List.range n).filter fun i=>popc i==5).map by8
def c64:List F8:=(c3 256).take 56++(c5 256).take 8
def cols:List F8:=c64++(List.range 8).map fun j=>1#8<<<j
theorem cols_len:cols.length=72:=by decide+kernel
theorem c3_len:(c3 256).length=56:=by decide+kernel
theorem c5_len:(c5 256).length≤256∧8≤(c5 256).length:=by decide+kernel
theorem c3_succ (n:Nat):c3 (n+1)=if popc n=3 then c3 n++[by8 n]else c3 n:=by
 unfold c3
 rw[List.range_succ,List.filter_append,List.map_append,List.filter_cons,List.filter_nil]
 by_cases h:popc n=3
 ·rw[if_pos h,if_pos (beq_iff_eq.2 h)]
  rfl
 ·rw[if_neg h,if_neg (by simpa using h)]
  simp
theorem c5_succ (n:Nat):c5 (n+1)=if popc n=5 then c5 n++[by8 n]else c5 n:=by
 unfold c5
 rw[List.range_succ,List.filter_append,List.map_append,List.filter_cons,List.filter_nil]
 by_cases h:popc n=5
 ·rw[if_pos h,if_pos (beq_iff_eq.2 h)]
  rfl
 ·rw[if_neg h,if_neg (by simpa using h)]
  simp
theorem c3_le (n:Nat):(c3 n).length≤n:=by
 unfold c3
 rw[List.length_map]
 exact Nat.le_trans (List.length_filter_le _ _) (by simp)
theorem c5_le (n:Nat):(c5 n).length≤n:=by
 unfold c5
 rw[List.length_map]
 exact Nat.le_trans (List.length_filter_le _ _) (by simp)
theorem w8_by8 {i:Nat} (h:i<256):w8 (i:Int)=ofG (by8 i):=by
 rw[w8_id (by omega) (by omega)]
 unfold ofG by8
 rw[BitVec.toNat_ofNat]
 omega
theorem bit8 (b:F8) (j:Nat) (h:j<8):(bitI .and .u8 (Int.fdiv (ofG b) (2^(min j 8))) 1==1)=(b>>>j).getLsbD 0:=by
 have h8: ∀(i:Fin 8) (b:F8),(bitI .and .u8 (Int.fdiv (ofG b) (2^(min i.val 8))) 1==1)=(b>>>i.val).getLsbD 0:=by decide+kernel
 exact h8 ⟨j,h⟩ b
theorem one8 (j:Nat) (h:j<8):w8 (1*2^(min j 8))=ofG (1#8<<<j):=by
 have h8: ∀i:Fin 8,w8 (1*2^(min i.val 8))=ofG (1#8<<<i.val):=by decide+kernel
 exact h8 ⟨j,h⟩
def hst (w:List F8) (i:Nat) (s:F8):F8:=if((w.getD (i/8) 0)>>>(i%8)).getLsbD 0=true then s^^^cols.getD i 0 else s
def hsyn (w:List F8):F8:=run (hst w) 0 (8*w.length) 0
def hfind (s:F8):Nat→Nat→Option Nat
 | _,0=>none
 | i,n+1=>if cols.getD i 0=s then some i else hfind s (i+1) n
def hdec (w:List F8):DT8×Int:=if hsyn w=0 then((0,bs w,[]), -1)else match hfind (hsyn w) 0 72 with
 | none=>((2,[],[]), -1)
 | some b=>((1,bs (w.set (b/8) (w.getD (b/8) 0^^^1#8<<<(b%8))),[((b/8:Nat):Int)]),(b:Int))
theorem run_shift {A:Type} (g:Nat→A→A) (a:Nat): ∀(n i:Nat) (s:A),run (fun k s=>g (a+k) s) i n s=run g (a+i) n s
 | 0,_,_=>rfl
 | n+1,i,s=>run_shift g a n (i+1) (g (a+i) s)
theorem run_add {A:Type} (g:Nat→A→A): ∀(m n i:Nat) (s:A),run g i (m+n) s=run g (i+m) n (run g i m s)
 | 0,n,i,s=>by rw[Nat.zero_add];rfl
 | m+1,n,i,s=>by
  rw[show m+1+n=(m+n)+1 by omega,run,run_add g m n (i+1),run,show i+1+m=i+(m+1) by omega]
theorem run_nest {A:Type} (g:Nat→A→A) (m:Nat): ∀(n:Nat) (s:A),run (fun i s=>run (fun k s=>g (m*i+k) s) 0 m s) 0 n s=run g 0 (m*n) s
 | 0,s=>rfl
 | n+1,s=>by
  rw[run_succ,run_nest g m n,Nat.mul_succ,run_add,Nat.zero_add,Nat.zero_add,run_shift,Nat.add_zero]
section
variable {α:Type} {k:Nat}
theorem f144_eq (i:Nat) (h:i<256) (K:Int→Option α):f144 k (wu64 (i:Int)) K=K ((popc i:Nat):Int):=by
 simp only[f144,s144,SumT.leaf,SumT.pre,SumT.seq,SumT.cond,SumT.block,SumT.blockP,SumT.loop,zB]
 simp only[f172,s172,SumT.leaf,SumT.pre,SumT.seq,SumT.cond,SumT.block,SumT.blockP,SumT.loop,zB]
 congr 1
 clear K
 revert i h
 decide+kernel
theorem f164_eq (hk:10000≤k) (i:Nat) (h:i<256) (K:Int→Option α):f164 k (i:Int) K=K ((popc i:Nat):Int):=by
 simp only[f164,s164,SumT.leaf,SumT.pre,SumT.seq,SumT.cond,SumT.block,SumT.blockP,SumT.loop,zB]
 have key: ∀b:Nat,b<256→b≠0→bitI .and .i64 (b:Int) (w64 ((b:Int)-1))=((b&&&(b-1):Nat):Int)∧(b&&&(b-1))<b∧popc (b&&&(b-1))+1=popc b:=by decide+kernel
 have hp: ∀b:Nat,b<256→popc b≤8:=by decide+kernel
 refine lp_rule (fun m x=> ∃b n:Nat,b≤m∧m<256∧x=((b:Int),(n:Int))∧popc b+n=popc i) ?_ (m:=i) ⟨i,0,Nat.le_refl _,h,rfl,rfl⟩ (by omega)
 rintro m x n' ⟨b,n,hb,hm,rfl,hn⟩ hn'
 have h8:=hp i h
 by_cases h0:b=0
 ·subst h0
  have:popc 0=0:=by decide
  rw[this,Nat.zero_add]at hn
  rw[←hn]
  rfl
 ·obtain⟨e1,e2,e3⟩:=key b (by omega) h0
  simp only[e1]
  rw[show(((b:Nat):Int) !=0)=true from bne_iff_ne.2 (by omega),cond_true,w64_id (by omega) (by omega)]
  exact hn' (m-1) _ (by omega) ⟨b&&&(b-1),n+1,by omega,by omega,rfl,by omega⟩
theorem pow_loop (c:List F8) (hc:c.length=64):run (fun j (l:List F8)=>l++[1#8<<<j]) 0 8 c=c++(List.range 8).map fun j=>1#8<<<j:=run_snoc _ _ _
theorem f119_eq (hk:10000≤k) (K:List Int→Option α):f119 k K=K (bs cols):=by
 simp only[f119,s119,SumT.leaf,SumT.pre,SumT.seq,SumT.cond,SumT.block,SumT.blockP,SumT.loop,zB]
 refine lp_run2 (fun i (x:List F8×List F8)=>(bs x.1,bs x.2,([]:List Int),(i:Int))) 256 (fun i x=>(if popc i=3 then x.1++[by8 i]else x.1,if popc i=5 then x.2++[by8 i]else x.2)) (fun i x=>x=(c3 i,c5 i)) (by omega) (a:=([],[])) rfl ?_ ?_
 ·rintro i x n hi rfl
  have h3:=c3_le i
  have h5:=c5_le i
  refine⟨?_,by rw[c3_succ,c5_succ]⟩
  simp only[]
  rw[dlt (by omega),cond_true,f144_eq i hi,w8_by8 hi,w64_id (by omega) (by omega)]
  by_cases e3:popc i=3
  ·rw[e3,show(((3:Nat):Int)==3)=true from rfl,cond_true,bs_len,gd (by simp;unfold room;omega),bs_snoc2,if_pos rfl,if_neg (by decide)]
   rfl
  ·rw[show(((popc i:Nat):Int)==3)=false from beq_eq_false_iff_ne.2 (by omega),cond_false,if_neg e3]
   by_cases e5:popc i=5
   ·rw[e5,show(((5:Nat):Int)==5)=true from rfl,cond_true,bs_len,gd (by simp;unfold room;omega),bs_snoc2,if_pos rfl]
    rfl
   ·rw[show(((popc i:Nat):Int)==5)=false from beq_eq_false_iff_ne.2 (by omega),cond_false,if_neg e5]
    rfl
 ·intro n hI
  rw[hI]
  have h3:=c3_len
  obtain⟨h5a,h5b⟩:=c5_len
  simp only[]
  rw[dge (by omega),cond_false,bs_len,h3,gd (by omega),bs_take,bs_len,List.length_take,h3,gd (by simp;unfold room;omega),List.nil_append,bs_len,gd (by omega),bs_take,bs_len,bs_len,List.length_take,List.length_take,gd (by unfold room;omega),bs_append]
  have h64:((c3 256).take 56++(c5 256).take 8).length=64:=by rw[List.length_append,List.length_take,List.length_take];omega
  refine lp_run2 (fun j l=>(bs l,(j:Int))) 8 (fun j (l:List F8)=>l++[1#8<<<j]) (fun j l=>l.length=64+j) (by omega) (a:=(c3 256).take 56++(c5 256).take 8) h64 ?_ ?_
  ·intro j l n2 hj hI2
   refine⟨?_,by rw[List.length_append,hI2];rfl⟩
   simp only[]
   rw[dlt (by omega),cond_true,gd (by omega),Int.toNat_natCast,one8 j hj,bs_len,hI2,gd (by simp;unfold room;omega),bs_snoc2,w64_id (by omega) (by omega)]
   rfl
  ·intro n2 _
   rw[pow_loop _ h64]
   rfl
theorem c5_88:(∀i,i<88→(c5 i).length<8)∧c5 88=(c5 256).take 8∧c3 256=(c3 256).take 56:=by decide+kernel
theorem f134_eq (hk:10000≤k) (K:List Int→Option α):f134 k K=K (bs cols):=by
 simp only[f134,s134,SumT.leaf,SumT.pre,SumT.seq,SumT.cond,SumT.block,SumT.blockP,SumT.loop,zB]
 refine lp_run2 (fun i l=>(bs l,(i:Int))) 256 (fun i (l:List F8)=>if popc i=3 then l++[by8 i]else l) (fun i l=>l=c3 i) (by omega) (a:=[]) rfl ?_ ?_
 ·rintro i l n hi rfl
  have h3:=c3_le i
  refine⟨?_,by rw[c3_succ]⟩
  simp only[]
  rw[dlt (by omega),cond_true,f164_eq hk i hi,w8_by8 hi,w64_id (by omega) (by omega)]
  by_cases e3:popc i=3
  ·rw[e3,show(((3:Nat):Int)==3)=true from rfl,cond_true,bs_len,gd (by simp;unfold room;omega),bs_snoc2,if_pos rfl]
   rfl
  ·rw[show(((popc i:Nat):Int)==3)=false from beq_eq_false_iff_ne.2 (by omega),cond_false,if_neg e3]
   rfl
 ·intro n hI
  rw[hI]
  have h3:=c3_len
  obtain⟨h88,h88b,h88c⟩:=c5_88
  simp only[]
  rw[dge (by omega),cond_false]
  refine lp_run2 (fun i l=>(bs l,(i:Int))) 88 (fun i (l:List F8)=>if popc i=5 then l++[by8 i]else l) (fun i l=>l=c3 256++c5 i) (by omega) (a:=c3 256) (by simp[c5]) ?_ ?_
  ·rintro i l n2 hi rfl
   have h5:=h88 i hi
   refine⟨?_,by rw[c5_succ];split<;>simp⟩
   simp only[]
   rw[bs_len,List.length_append,h3,dlt (by omega),cond_true,f164_eq hk i (by omega),w8_by8 (by omega),w64_id (by omega) (by omega)]
   by_cases e3:popc i=5
   ·rw[e3,show(((5:Nat):Int)==5)=true from rfl,cond_true,gd (by simp;unfold room;omega),bs_snoc2,if_pos rfl]
    rfl
   ·rw[show(((popc i:Nat):Int)==5)=false from beq_eq_false_iff_ne.2 (by omega),cond_false,if_neg e3]
    rfl
  ·intro n2 hI2
   rw[hI2,h88b]
   have h64:(c3 256++(c5 256).take 8).length=64:=by rw[List.length_append,h3,List.length_take];have:=c5_len.2;omega
   simp only[]
   rw[bs_len,h64,dge (by omega),cond_false]
   refine lp_run2 (fun j l=>(bs l,(j:Int))) 8 (fun j (l:List F8)=>l++[1#8<<<j]) (fun j l=>l.length=64+j) (by omega) (a:=c3 256++(c5 256).take 8) h64 ?_ ?_
   ·intro j l n3 hj hI3
    refine⟨?_,by rw[List.length_append,hI3];rfl⟩
    simp only[]
    rw[dlt (by omega),cond_true,wu64_id (by omega) (by omega),gd (by omega),Int.toNat_natCast,one8 j hj,bs_len,hI3,gd (by simp;unfold room;omega),bs_snoc2,w64_id (by omega) (by omega)]
    rfl
   ·intro n3 _
    rw[pow_loop _ h64,h88c]
    rfl
theorem f120_eq (hk:10000≤k) (w:List F8) (hw:w.length≤9) (K:Int→Option α):f120 k (bs w) (bs cols) K=K (ofG (hsyn w)):=by
 simp only[f120,s120,SumT.leaf,SumT.pre,SumT.seq,SumT.cond,SumT.block,SumT.blockP,SumT.loop,zB]
 have hc:=cols_len
 have e1:w64 (8*((bs w).length:Int))=((8*w.length:Nat):Int):=by
  rw[bs_len,w64_id (by omega) (by omega)]
  omega
 simp only[e1]
 rw[bs_len,hc,gd (by omega),Int.toNat_natCast,bs_take,bs_len,List.length_take,hc,show min (8*w.length) 72=8*w.length by omega]
 refine lp_run2 (fun i s=>(bs w,ofG s,bs (cols.take (8*w.length)),((8*w.length:Nat):Int),(i:Int))) (8*w.length) (hst w) (fun _ _=>True) (by omega) (a:=0) trivial ?_ ?_
 ·intro i s n hi _
  refine⟨?_,trivial⟩
  have e2:w64 (Int.tdiv (i:Int) 8)=((i/8:Nat):Int):=by
   rw[Int.tdiv_eq_ediv_of_nonneg (by omega),w64_id (by omega) (by omega)]
   omega
  have e3:Int.tmod (i:Int) 8=((i%8:Nat):Int):=by
   rw[Int.tmod_eq_emod_of_nonneg (by omega)]
   omega
  simp only[e2,e3]
  rw[dlt (by omega),cond_true,bs_len,List.length_take,hc,gd (by omega),bs_len,gd (by omega),gd (by omega),Int.toNat_natCast,Int.toNat_natCast,Int.toNat_natCast,bs_getD,bs_getD,bit8 _ _ (by omega),getD_take,if_pos hi,w64_id (by omega) (by omega)]
  unfold hst
  cases hb:((w.getD (i/8) 0)>>>(i%8)).getLsbD 0
  ·rfl
  ·rw[cond_true,if_pos rfl,ofG_xor]
   rfl
 ·intro n _
  simp only[]
  rw[dge (by omega),cond_false]
  rfl
theorem f111_eq (hk:10000≤k) (w:List F8) (hw:w.length≤9) (K:Int→Option α):f111 k (bs w) K=K (ofG (hsyn w)):=by
 simp only[f111,s111,SumT.leaf,SumT.pre,SumT.seq,SumT.cond,SumT.block,SumT.blockP,SumT.loop,zB]
 rw[f134_eq hk]
 have hc:=cols_len
 refine lp_run2 (fun i s=>(bs w,bs cols,ofG s,(i:Int))) w.length (fun i s=>run (fun j s=>hst w (8*i+j) s) 0 8 s) (fun _ _=>True) (by omega) (a:=0) trivial ?_ ?_
 ·intro i s n hi _
  refine⟨?_,trivial⟩
  simp only[]
  rw[bs_len,dlt (by omega),cond_true]
  refine lp_run2 (fun j s=>(bs w,bs cols,ofG s,(i:Int),(j:Int))) 8 (fun j s=>hst w (8*i+j) s) (fun _ _=>True) (by omega) (a:=s) trivial ?_ ?_
  ·intro j s n2 hj _
   refine⟨?_,trivial⟩
   have e2:w64 (w64 (8*(i:Int))+(j:Int))=((8*i+j:Nat):Int):=by
    rw[show w64 (8*(i:Int))=8*(i:Int)from w64_id (by omega) (by omega),w64_id (by omega) (by omega)]
    omega
   simp only[e2]
   rw[dlt (by omega),cond_true,bs_len,gd (by omega),wu64_id (by omega) (by omega),gd (by omega),Int.toNat_natCast,Int.toNat_natCast,bs_getD,bit8 _ _ hj,bs_len,hc,gd (by omega),Int.toNat_natCast,bs_getD,w64_id (by omega) (by omega)]
   unfold hst
   rw[show(8*i+j)/8=i by omega,show(8*i+j)%8=j by omega]
   cases hb:((w.getD i 0)>>>j).getLsbD 0
   ·rfl
   ·rw[cond_true,if_pos rfl,ofG_xor]
    rfl
  ·intro n2 _
   simp only[]
   rw[dge (by omega),cond_false,w64_id (by omega) (by omega)]
   rfl
 ·intro n _
  rw[run_nest (hst w) 8 w.length]
  simp only[]
  rw[bs_len,dge (by omega),cond_false]
  rfl
theorem f114_eq (hk:10000≤k) (w:List F8) (hw:w.length=8) (K:Int→Int→Option α):f114 k (bs w) K=K (ofG (hsyn w)) 0:=by
 simp only[f114,s114,SumT.leaf,SumT.pre,SumT.seq,SumT.cond,SumT.block,SumT.blockP,SumT.loop,zB]
 rw[bs_len,hw,f119_eq hk,f120_eq hk w (by omega)]
 rfl
theorem f90_eq (hk:10000≤k) (w:List F8) (hw:w.length=8) (K:Int→Int→Option α):f90 k (bs w) K=K (ofG (hsyn w)) 0:=by
 simp only[f90,s90,SumT.leaf,SumT.pre,SumT.seq,SumT.cond,SumT.block,SumT.blockP,SumT.loop,zB]
 rw[bs_len,hw,f111_eq hk w (by omega)]
 rfl
theorem f103_eq (hk:10000≤k) (w:List F8) (hw:w.length=9) (K:DT8→Int→Int→Option α):f103 k (bs w) K=K (hdec w).1 (hdec w).2 0:=by
 simp only[f103,s103,SumT.leaf,SumT.pre,SumT.seq,SumT.cond,SumT.block,SumT.blockP,SumT.loop,zB]
 unfold cloneF hdec
 have hc:=cols_len
 rw[bs_len,hw,show(((9:Nat):Int) !=9)=false from rfl,cond_false,f119_eq hk,f120_eq hk w (by omega)]
 by_cases h0:hsyn w=0
 ·rw[h0,show(ofG 0==(0:Int))=true from rfl,cond_true,if_pos rfl,gd (by unfold room;omega)]
 ·rw[show(ofG (hsyn w)==(0:Int))=false from beq_eq_false_iff_ne.2 fun h=>h0 (ofG_eq_zero.1 h),cond_false,if_neg h0]
  simp only[f121,s121,SumT.leaf,SumT.pre,SumT.seq,SumT.cond,SumT.block,SumT.blockP,SumT.loop,zB]
  rw[bs_len cols,hc]
  refine lp_rule (fun m x=> ∃i:Nat,i+m=72∧x=(bs cols,ofG (hsyn w),((72:Nat):Int),(i:Int))∧hfind (hsyn w) i m=hfind (hsyn w) 0 72) ?_ (m:=72) ⟨0,by omega,rfl,rfl⟩ (by omega)
  rintro m x n ⟨i,hi,rfl,hf⟩ hn
  cases m with
  | zero=>
   rw[←hf]
   simp only[]
   rw[dge (by omega),cond_false]
   rfl
  | succ m=>
   simp only[]
   rw[dlt (by omega),cond_true,bs_len,hc,gd (by omega),Int.toNat_natCast,bs_getD]
   rw[hfind]at hf
   by_cases he:cols.getD i 0=hsyn w
   ·rw[if_pos he]at hf
    have e2:w64 (Int.tdiv (i:Int) 8)=((i/8:Nat):Int):=by
     rw[Int.tdiv_eq_ediv_of_nonneg (by omega),w64_id (by omega) (by omega)]
     omega
    have e3:Int.tmod (i:Int) 8=((i%8:Nat):Int):=by
     rw[Int.tmod_eq_emod_of_nonneg (by omega)]
     omega
    have hbl:(bs w).length=9:=by rw[bs_len,hw]
    rw[←he,beq_self_eq_true,cond_true,dge (by omega),cond_false,gd (by unfold room;omega),e2,e3,gd (by omega),gd (by omega),gd (by omega),Int.toNat_natCast,Int.toNat_natCast,bs_getD,one8 _ (by omega),ofG_xor,bs_set,he, ←hf]
   ·rw[if_neg he]at hf
    rw[show(ofG (hsyn w)==ofG (cols.getD i 0))=false from beq_eq_false_iff_ne.2 fun h=>he (ofG_inj h.symm),cond_false,w64_id (by omega) (by omega)]
    exact hn m _ (by omega) ⟨i+1,by omega,rfl,hf⟩
theorem f129_eq (hk:10000≤k) (w:List F8) (hw:w.length=9) (K:DT8→Int→Int→Option α):f129 k (bs w) K=K (hdec w).1 (hdec w).2 0:=by
 simp only[f129,s129,SumT.leaf,SumT.pre,SumT.seq,SumT.cond,SumT.block,SumT.blockP,SumT.loop,zB]
 simp only[f163,s163,SumT.leaf,SumT.pre,SumT.seq,SumT.cond,SumT.block,SumT.blockP,SumT.loop,zB]
 unfold hdec
 have hc:=cols_len
 rw[bs_len,hw,show(((9:Nat):Int) !=9)=false from rfl,cond_false,f111_eq hk w (by omega),show((0:Int) !=0)=false from rfl,cond_false,gd (by unfold room;omega)]
 by_cases h0:hsyn w=0
 ·rw[h0,show(ofG 0==(0:Int))=true from rfl,cond_true,if_pos rfl]
 ·rw[show(ofG (hsyn w)==(0:Int))=false from beq_eq_false_iff_ne.2 fun h=>h0 (ofG_eq_zero.1 h),cond_false,if_neg h0,f134_eq hk]
  refine lp_rule (fun m x=> ∃i:Nat,i+m=72∧x=(((0:Int),([]:List Int),([]:List Int)),ofG (hsyn w),bs w,bs cols,(i:Int))∧hfind (hsyn w) i m=hfind (hsyn w) 0 72) ?_ (m:=72) ⟨0,by omega,rfl,rfl⟩ (by omega)
  rintro m x n ⟨i,hi,rfl,hf⟩ hn
  cases m with
  | zero=>
   rw[←hf]
   simp only[]
   rw[dge (by omega),cond_false]
   rfl
  | succ m=>
   simp only[]
   rw[dlt (by omega),cond_true,bs_len,hc,gd (by omega),Int.toNat_natCast,bs_getD]
   rw[hfind]at hf
   by_cases he:cols.getD i 0=hsyn w
   ·rw[if_pos he]at hf
    have e2:w64 (Int.tdiv (i:Int) 8)=((i/8:Nat):Int):=by
     rw[Int.tdiv_eq_ediv_of_nonneg (by omega),w64_id (by omega) (by omega)]
     omega
    have e3:wu64 (Int.tmod (i:Int) 8)=((i%8:Nat):Int):=by
     rw[Int.tmod_eq_emod_of_nonneg (by omega),wu64_id (by omega) (by omega)]
     omega
    rw[he,beq_self_eq_true,cond_true,bs_len,hw,e2,e3,gd (by omega),gd (by omega),gd (by omega),Int.toNat_natCast,Int.toNat_natCast,bs_getD,one8 _ (by omega),ofG_xor,bs_set, ←hf]
   ·rw[if_neg he]at hf
    rw[show(ofG (cols.getD i 0)==ofG (hsyn w))=false from beq_eq_false_iff_ne.2 fun h=>he (ofG_inj h),cond_false,w64_id (by omega) (by omega)]
    exact hn m _ (by omega) ⟨i+1,by omega,rfl,hf⟩
end
abbrev sl6 (s:DT4):List Int:=[s.1,s.2.1,s.2.2.1,s.2.2.2.1,s.2.2.2.2.1,s.2.2.2.2.2]
def vsh:List Int→Int→Bool
 | [],sum=>decide (sum≤12)
 | w::l,sum=>bif decide (w<0)then false else bif decide (w>12)then false else vsh l (sum+w)
def vshape (s:DT4):Bool:=vsh (sl6 s) 0
theorem vsh_spec: ∀{l:List Int} {sum:Int},vsh l sum=true→(∀w∈l,0≤w∧w≤12)∧l.foldl (· + ·) sum≤12
 | [],sum,h=>⟨fun w hw=>(by cases hw),of_decide_eq_true h⟩
 | w::l,sum,h=>by
  rw[vsh]at h
  by_cases h1:w<0
  ·rw[decide_eq_true h1,cond_true]at h
   cases h
  ·rw[decide_eq_false h1,cond_false]at h
   by_cases h2:w>12
   ·rw[decide_eq_true h2,cond_true]at h
    cases h
   ·rw[decide_eq_false h2,cond_false]at h
    obtain⟨h3,h4⟩:=vsh_spec h
    exact⟨fun x hx=>by
     rcases List.mem_cons.1 hx with rfl|hx
     ·omega
     ·exact h3 x hx,h4⟩
theorem drop_getD {β:Type} {l:List β} {i:Nat} (d:β) (h:i<l.length):l.drop i=l.getD i d::l.drop (i+1):=by
 rw[List.drop_eq_getElem_cons h,List.getD_eq_getElem?_getD,List.getElem?_eq_getElem h]
 rfl
def bitsOf (s:DT4):Int:=s.1+s.2.1+s.2.2.1+s.2.2.2.1+s.2.2.2.2.1+s.2.2.2.2.2
theorem vshape_spec {s:DT4} (h:vshape s=true):(∀w∈sl6 s,0≤w∧w≤12)∧bitsOf s≤12∧0≤bitsOf s:=by
 obtain⟨h1,h2⟩:=vsh_spec h
 simp only[List.foldl_cons,List.foldl_nil]at h2
 have:=fun w hw=>(h1 w hw).1
 simp only[sl6,List.mem_cons,List.not_mem_nil,or_false,forall_eq_or_imp,forall_eq]at this
 unfold bitsOf
 exact⟨h1,by omega,by omega⟩
def szOf (s:DT4):Int:=bif vshape s then 2^(bitsOf s).toNat else 0
theorem szOf_le (s:DT4):0≤szOf s∧szOf s≤4096:=by
 unfold szOf
 cases h:vshape s
 ·exact⟨Int.le_refl 0,show(0:Int)≤4096 by decide⟩
 ·obtain⟨_,h1,h2⟩:=vshape_spec h
  rw[cond_true]
  have:(2:Int)^(bitsOf s).toNat=((2^(bitsOf s).toNat:Nat):Int):=by simp
  rw[this]
  have h3:2^(bitsOf s).toNat≤2^12:=Nat.pow_le_pow_right (by omega) (by omega)
  generalize 2^(bitsOf s).toNat=q at h3 ⊢
  omega
def vpl:List Int→List Int→Bool
 | w::ws,n::ns=>bif decide (n<0)then false else bif decide (n≥2^w.toNat)then false else vpl ws ns
 | _,_=>true
def vplace (s p:DT4):Bool:=vshape s&&vpl (sl6 s) (sl6 p)
section
variable {α:Type} {k:Nat}
theorem f70_eq (s:DT4) (K:List Int→Option α):f70 k s K=K (sl6 s):=rfl
theorem f60_eq (s:DT4) (K:List Int→Option α):f60 k s K=K (sl6 s):=rfl
theorem f95_eq (s:DT4) (K:List Int→Option α):f95 k s K=K (sl6 s):=rfl
theorem f82_eq (s:DT4) (K:List Int→Option α):f82 k s K=K (sl6 s):=rfl
theorem f64_eq (hk:10000≤k) (s:DT4) (K:Bool→Option α):f64 k s K=K (vshape s):=by
 simp only[f64,s64,SumT.leaf,SumT.pre,SumT.seq,SumT.cond,SumT.block,SumT.blockP,SumT.loop,zB]
 rw[f70_eq]
 show lpF _ k ((0:Int),s,(0:Int))=_
 refine lp_rule (fun m x=> ∃(i:Nat) (sum:Int),i+m=6∧x=(sum,s,(i:Int))∧0≤sum∧sum≤12*i∧vsh ((sl6 s).drop i) sum=vshape s) ?_ (m:=6) ⟨0,0,by omega,rfl,by omega,by omega,rfl⟩ (by omega)
 rintro m x n ⟨i,sum,hi,rfl,h1,h2,hv⟩ hn
 rw[←hv]
 cases m with
 | zero=>
  simp only[]
  rw[dge (by omega),cond_false,List.drop_eq_nil_of_le (show(sl6 s).length≤i by simp;omega)]
  rfl
 | succ m=>
  have hl:i<(sl6 s).length:=by simp;omega
  simp only[]
  rw[dlt (by omega),cond_true,gd (by omega),Int.toNat_natCast,show [s.1,s.2.1,s.2.2.1,s.2.2.2.1,s.2.2.2.2.1,s.2.2.2.2.2]=sl6 s from rfl,drop_getD 0 hl,vsh]
  rw[drop_getD 0 hl,vsh]at hv
  generalize (sl6 s).getD i 0=w at hv ⊢
  by_cases h3:w<0
  ·rw[decide_eq_true h3]
   rfl
  ·rw[decide_eq_false h3,cond_false,cond_false]
   rw[decide_eq_false h3,cond_false]at hv
   by_cases h4:w>12
   ·rw[decide_eq_true h4]
    rfl
   ·rw[decide_eq_false h4,cond_false,cond_false]
    rw[decide_eq_false h4,cond_false]at hv
    rw[w64_id (by omega) (by omega),w64_id (by omega) (by omega),hv]
    exact hn m _ (by omega) ⟨i+1,sum+w,by omega,rfl,by omega,by omega,hv⟩
theorem f37_eq (hk:10000≤k) (s:DT4) (K:Bool→Option α):f37 k s K=K (vshape s):=by
 simp only[f37,s37,SumT.leaf,SumT.pre,SumT.seq,SumT.cond,SumT.block,SumT.blockP,SumT.loop,zB]
 rw[f60_eq]
 show lpF _ k (sl6 s,(0:Int),(0:Int))=_
 have hl6:(sl6 s).length=6:=rfl
 refine lp_rule (fun m x=> ∃(i:Nat) (sum:Int),i+m=6∧x=(sl6 s,sum,(i:Int))∧0≤sum∧sum≤12*i∧vsh ((sl6 s).drop i) sum=vshape s) ?_ (m:=6) ⟨0,0,by omega,rfl,by omega,by omega,rfl⟩ (by omega)
 rintro m x n ⟨i,sum,hi,rfl,h1,h2,hv⟩ hn
 rw[←hv]
 cases m with
 | zero=>
  simp only[]
  rw[dge (by omega),cond_false,List.drop_eq_nil_of_le (show(sl6 s).length≤i by omega)]
  rfl
 | succ m=>
  have hl:i<(sl6 s).length:=by omega
  simp only[]
  rw[dlt (by omega),cond_true,gd (by omega),Int.toNat_natCast,Nat.add_zero,gd (by omega),drop_getD 0 hl,vsh]
  rw[drop_getD 0 hl,vsh]at hv
  generalize (sl6 s).getD i 0=w at hv ⊢
  by_cases h3:w<0
  ·rw[decide_eq_true h3]
   rfl
  ·rw[decide_eq_false h3,cond_false,cond_false,gd (by omega),gd (by omega)]
   rw[decide_eq_false h3,cond_false]at hv
   by_cases h4:w>12
   ·rw[decide_eq_true h4]
    rfl
   ·rw[decide_eq_false h4,cond_false,cond_false,gd (by omega),gd (by omega)]
    rw[decide_eq_false h4,cond_false]at hv
    rw[w64_id (by omega) (by omega),w64_id (by omega) (by omega),hv]
    exact hn m _ (by omega) ⟨i+1,sum+w,by omega,rfl,by omega,by omega,hv⟩
theorem pow64 {w:Int} (h0:0≤w) (h1:w≤12):w64 (1*2^(min w.toNat 64))=((2^w.toNat:Nat):Int):=by
 rw[show min w.toNat 64=w.toNat by omega,Int.one_mul]
 have h3:2^w.toNat≤2^12:=Nat.pow_le_pow_right (by omega) (by omega)
 have:(2:Int)^w.toNat=((2^w.toNat:Nat):Int):=by simp
 rw[this]
 generalize 2^w.toNat=q at h3 ⊢
 rw[w64_id (by omega) (by omega)]
theorem f38_eq (hk:10000≤k) (s:DT4) (h:vshape s=true) (K:Int→Option α):f38 k s K=K (bitsOf s):=by
 obtain⟨h1,h2,h3⟩:=vshape_spec h
 simp only[f38,s38,SumT.leaf,SumT.pre,SumT.seq,SumT.cond,SumT.block,SumT.blockP,SumT.loop,zB]
 rw[f60_eq]
 show lpF _ k (sl6 s,(0:Int),(0:Int))=_
 have hl6:(sl6 s).length=6:=rfl
 have hb: ∀i,i<6→0≤(sl6 s).getD i 0∧(sl6 s).getD i 0≤12:=fun i hi=>h1 _ (getD_mem 0 (by omega))
 refine lp_run2 (fun i (sum:Int)=>(sl6 s,sum,(i:Int))) 6 (fun i sum=>sum+(sl6 s).getD i 0) (fun i sum=>0≤sum∧sum≤12*i) (by omega) (a:=0) ⟨by omega,by omega⟩ ?_ ?_
 ·rintro i sum n hi ⟨h4,h5⟩
  have:=hb i hi
  refine⟨?_,by omega,by omega⟩
  simp only[]
  rw[dlt (by omega),cond_true,gd (by omega),Int.toNat_natCast,Nat.add_zero,gd (by omega),w64_id (by omega) (by omega),w64_id (by omega) (by omega)]
  rfl
 ·intro n _
  simp only[]
  rw[dge (by omega),cond_false]
  congr 1
  show 0+s.1+s.2.1+s.2.2.1+s.2.2.2.1+s.2.2.2.2.1+s.2.2.2.2.2=_
  unfold bitsOf
  omega
theorem f13_eq (hk:10000≤k) (s:DT4) (K:Int→Option α):f13 k s K=K (szOf s):=by
 simp only[f13,s13,SumT.leaf,SumT.pre,SumT.seq,SumT.cond,SumT.block,SumT.blockP,SumT.loop,zB]
 rw[f37_eq hk]
 unfold szOf
 cases h:vshape s
 ·rfl
 ·obtain⟨h1,h2,h3⟩:=vshape_spec h
  rw[Bool.not_true,cond_false,cond_true,f38_eq hk s h,wu64_id (by omega) (by omega),gd (by omega),pow64 h3 h2]
  simp
theorem f41_eq (hk:10000≤k) (s:DT4) (K:Int→Option α):f41 k s K=K (szOf s):=by
 simp only[f41,s41,SumT.leaf,SumT.pre,SumT.seq,SumT.cond,SumT.block,SumT.blockP,SumT.loop,zB]
 rw[f64_eq hk]
 unfold szOf
 cases h:vshape s
 ·rfl
 ·obtain⟨h1,h2,h3⟩:=vshape_spec h
  rw[Bool.not_true,cond_false,cond_true,f70_eq]
  show lpF _ k ((1:Int),s,(0:Int))=_
  have hl6:(sl6 s).length=6:=rfl
  have hb: ∀i,i<6→0≤(sl6 s).getD i 0∧(sl6 s).getD i 0≤12:=fun i hi=>h1 _ (getD_mem 0 (by omega))
  have hpre: ∀i,i≤6→run (fun i (t:Nat)=>t+((sl6 s).getD i 0).toNat) 0 i 0≤12:=by
   have hlast:run (fun i (t:Nat)=>t+((sl6 s).getD i 0).toNat) 0 6 0≤12:=by
    show 0+s.1.toNat+s.2.1.toNat+s.2.2.1.toNat+s.2.2.2.1.toNat+s.2.2.2.2.1.toNat+s.2.2.2.2.2.toNat≤12
    have:=fun w hw=>(h1 w hw).1
    simp only[sl6,List.mem_cons,List.not_mem_nil,or_false,forall_eq_or_imp,forall_eq]at this
    unfold bitsOf at h2
    omega
   intro i hi
   have hm: ∀d i,run (fun i (t:Nat)=>t+((sl6 s).getD i 0).toNat) 0 i 0≤run (fun i (t:Nat)=>t+((sl6 s).getD i 0).toNat) 0 (i+d) 0:=by
    intro d
    induction d with
    | zero=>exact fun i=>Nat.le_refl _
    | succ d ih=>
     intro i
     rw[show i+(d+1)=(i+d)+1 by omega,run_succ]
     exact Nat.le_trans (ih i) (Nat.le_add_right _ _)
   have:=hm (6-i) i
   rw[show i+(6-i)=6 by omega]at this
   omega
  refine lp_run2 (fun i (t:Nat)=>(((2^t:Nat):Int),s,(i:Int))) 6 (fun i t=>t+((sl6 s).getD i 0).toNat) (fun i t=>i≤6∧t=run (fun i (t:Nat)=>t+((sl6 s).getD i 0).toNat) 0 i 0) (by omega) (a:=0) ⟨by omega,rfl⟩ ?_ ?_
  ·rintro i t n hi ⟨h4,h5⟩
   have hbi:=hb i hi
   have h6:=hpre (i+1) (by omega)
   have h7:run (fun i (t:Nat)=>t+((sl6 s).getD i 0).toNat) 0 (i+1) 0=t+((sl6 s).getD i 0).toNat:=by rw[run_succ, ←h5,Nat.zero_add]
   refine⟨?_,by omega,h7.symm⟩
   simp only[]
   rw[dlt (by omega),cond_true,gd (by omega),Int.toNat_natCast,show [s.1,s.2.1,s.2.2.1,s.2.2.2.1,s.2.2.2.2.1,s.2.2.2.2.2]=sl6 s from rfl,gd (by omega),show min ((sl6 s).getD i 0).toNat 64=((sl6 s).getD i 0).toNat by omega]
   have e:((2^t:Nat):Int)*2^((sl6 s).getD i 0).toNat=((2^(t+((sl6 s).getD i 0).toNat):Nat):Int):=by
    rw[Nat.pow_add]
    simp
   have h8:2^(t+((sl6 s).getD i 0).toNat)≤2^12:=Nat.pow_le_pow_right (by omega) (by omega)
   rw[e]
   have h9:w64 ((2^(t+((sl6 s).getD i 0).toNat):Nat):Int)=((2^(t+((sl6 s).getD i 0).toNat):Nat):Int):=by
    generalize 2^(t+((sl6 s).getD i 0).toNat)=q at h8 ⊢
    exact w64_id (by omega) (by omega)
   rw[h9,w64_id (by omega) (by omega)]
   rfl
  ·intro n hI
   simp only[]
   rw[dge (by omega),cond_false]
   have:run (fun i (t:Nat)=>t+((sl6 s).getD i 0).toNat) 0 6 0=(bitsOf s).toNat:=by
    show 0+s.1.toNat+s.2.1.toNat+s.2.2.1.toNat+s.2.2.2.1.toNat+s.2.2.2.2.1.toNat+s.2.2.2.2.2.toNat=_
    have:=fun w hw=>(h1 w hw).1
    simp only[sl6,List.mem_cons,List.not_mem_nil,or_false,forall_eq_or_imp,forall_eq]at this
    unfold bitsOf
    omega
   rw[this]
   simp
theorem shr_ne {n w:Int} (hn:0≤n) (h0:0≤w) (h1:w≤12):(Int.fdiv n (2^(min w.toNat 64)) !=0)=decide (n≥2^w.toNat):=by
 rw[show min w.toNat 64=w.toNat by omega]
 have e:(2:Int)^w.toNat=((2^w.toNat:Nat):Int):=by simp
 have hp:0<2^w.toNat:=Nat.pow_pos (by omega)
 rw[e]
 generalize 2^w.toNat=q at hp ⊢
 rw[Int.fdiv_eq_ediv_of_nonneg _ (by omega)]
 obtain⟨a,rfl⟩: ∃a:Nat,n=a:=⟨n.toNat,by omega⟩
 rw[Bool.eq_iff_iff,bne_iff_ne,decide_eq_true_eq, ←Int.natCast_ediv]
 constructor
 ·intro h
  refine Int.not_lt.1 fun h2=>h ?_
  rw[Nat.div_eq_of_lt (by omega)]
  rfl
 ·intro h h2
  have:a/q=0:=by omega
  have:=(Nat.div_eq_zero_iff_lt hp).1 this
  omega
theorem f94_eq (hk:10000≤k) (s p:DT4) (K:Bool→Option α):f94 k s p K=K (vplace s p):=by
 simp only[f94,s94,SumT.leaf,SumT.pre,SumT.seq,SumT.cond,SumT.block,SumT.blockP,SumT.loop,zB]
 rw[f64_eq hk]
 unfold vplace
 cases h:vshape s
 ·rfl
 ·obtain⟨h1,h2,h3⟩:=vshape_spec h
  rw[Bool.not_true,cond_false,Bool.true_and,f70_eq,f95_eq]
  show lpF _ k (sl6 s,p,(0:Int))=_
  have hl6:(sl6 s).length=6:=rfl
  have hl6p:(sl6 p).length=6:=rfl
  have hb: ∀i,i<6→0≤(sl6 s).getD i 0∧(sl6 s).getD i 0≤12:=fun i hi=>h1 _ (getD_mem 0 (by omega))
  refine lp_rule (fun m x=> ∃i:Nat,i+m=6∧x=(sl6 s,p,(i:Int))∧vpl ((sl6 s).drop i) ((sl6 p).drop i)=vpl (sl6 s) (sl6 p)) ?_ (m:=6) ⟨0,by omega,rfl,rfl⟩ (by omega)
  rintro m x n ⟨i,hi,rfl,hv⟩ hn
  rw[←hv]
  cases m with
  | zero=>
   simp only[]
   rw[dge (by omega),cond_false,List.drop_eq_nil_of_le (show(sl6 s).length≤i by omega)]
   rfl
  | succ m=>
   have hbi:=hb i (by omega)
   simp only[]
   rw[dlt (by omega),cond_true,gd (by omega),Int.toNat_natCast,Nat.add_zero,show [p.1,p.2.1,p.2.2.1,p.2.2.2.1,p.2.2.2.2.1,p.2.2.2.2.2]=sl6 p from rfl,drop_getD 0 (show i<(sl6 s).length by omega),drop_getD 0 (show i<(sl6 p).length by omega),vpl]
   rw[drop_getD 0 (show i<(sl6 s).length by omega),drop_getD 0 (show i<(sl6 p).length by omega),vpl]at hv
   generalize (sl6 s).getD i 0=w at hv hbi ⊢
   generalize (sl6 p).getD i 0=q at hv ⊢
   by_cases h4:q<0
   ·rw[decide_eq_true h4]
    rfl
   ·rw[decide_eq_false h4,cond_false,cond_false,gd (by omega),gd (by omega),gd (by omega),shr_ne (by omega) hbi.1 hbi.2]
    rw[decide_eq_false h4,cond_false]at hv
    cases h5:decide (q≥2^w.toNat)
    ·rw[h5,cond_false]at hv
     rw[cond_false,cond_false,w64_id (by omega) (by omega),hv]
     exact hn m _ (by omega) ⟨i+1,by omega,rfl,hv⟩
    ·rfl
theorem f81_eq (hk:10000≤k) (s p:DT4) (K:Bool→Option α):f81 k s p K=K (vplace s p):=by
 simp only[f81,s81,SumT.leaf,SumT.pre,SumT.seq,SumT.cond,SumT.block,SumT.blockP,SumT.loop,zB]
 rw[f37_eq hk]
 unfold vplace
 cases h:vshape s
 ·rfl
 ·obtain⟨h1,h2,h3⟩:=vshape_spec h
  rw[Bool.not_true,cond_false,Bool.true_and,f60_eq,f82_eq]
  show lpF _ k (sl6 s,sl6 p,(0:Int))=_
  have hl6:(sl6 s).length=6:=rfl
  have hl6p:(sl6 p).length=6:=rfl
  have hb: ∀i,i<6→0≤(sl6 s).getD i 0∧(sl6 s).getD i 0≤12:=fun i hi=>h1 _ (getD_mem 0 (by omega))
  refine lp_rule (fun m x=> ∃i:Nat,i+m=6∧x=(sl6 s,sl6 p,(i:Int))∧vpl ((sl6 s).drop i) ((sl6 p).drop i)=vpl (sl6 s) (sl6 p)) ?_ (m:=6) ⟨0,by omega,rfl,rfl⟩ (by omega)
  rintro m x n ⟨i,hi,rfl,hv⟩ hn
  rw[←hv]
  cases m with
  | zero=>
   simp only[]
   rw[dge (by omega),cond_false,List.drop_eq_nil_of_le (show(sl6 s).length≤i by omega)]
   rfl
  | succ m=>
   have hbi:=hb i (by omega)
   simp only[]
   rw[dlt (by omega),cond_true,gd (by omega),Int.toNat_natCast,Nat.add_zero,gd (by omega),drop_getD 0 (show i<(sl6 s).length by omega),drop_getD 0 (show i<(sl6 p).length by omega),vpl]
   rw[drop_getD 0 (show i<(sl6 s).length by omega),drop_getD 0 (show i<(sl6 p).length by omega),vpl]at hv
   generalize (sl6 s).getD i 0=w at hv hbi ⊢
   generalize (sl6 p).getD i 0=q at hv ⊢
   by_cases h4:q<0
   ·rw[decide_eq_true h4]
    rfl
   ·rw[decide_eq_false h4,cond_false,cond_false,gd (by omega),gd (by omega),gd (by omega),gd (by omega),wu64_id (by omega) (by omega),gd (by omega),pow64 hbi.1 hbi.2,show((2^w.toNat:Nat):Int)=2^w.toNat by simp]
    rw[decide_eq_false h4,cond_false]at hv
    cases h5:decide (q≥2^w.toNat)
    ·rw[h5,cond_false]at hv
     rw[cond_false,cond_false,w64_id (by omega) (by omega),hv]
     exact hn m _ (by omega) ⟨i+1,by omega,rfl,hv⟩
    ·rfl
end
def nmd (kind:Int):List Bool:=bif kind==1 then [true,true,true,true,true,true]else bif kind==2 then [true,true,true,true,true,false]else bif kind==3 then [true,true,true,true,false,true]else
 bif kind==4 then [true,true,true,true,false,false]else bif kind==5 then [true,true,true,false,false,false]else bif kind==6 then [true,true,false,false,false,false]else [false,false,false,false,false,false]
def known (kind:Int):Bool:=decide (1≤kind)&&decide (kind≤6)
theorem nmd_len (kind:Int):(nmd kind).length=6:=by
 unfold nmd
 cases kind==1<;>cases kind==2<;>cases kind==3<;>cases kind==4<;>cases kind==5<;>cases kind==6<;>rfl
theorem names_nmd {kind:Int} (h:known kind=true) {i:Nat} (hi:i<6):namesT.getD (i+(kind.toNat*6+0)) false=(nmd kind).getD i false:=by
 unfold known at h
 simp only[Bool.and_eq_true,decide_eq_true_eq]at h
 have hk:kind=1∨kind=2∨kind=3∨kind=4∨kind=5∨kind=6:=by omega
 have key: ∀kd:Fin 7,1≤kd.val→ ∀i:Fin 6,namesT.getD (i.val+(kd.val*6+0)) false=(nmd (kd.val:Int)).getD i.val false:=by decide+kernel
 rcases hk with rfl|rfl|rfl|rfl|rfl|rfl
 ·exact key 1 (by decide) ⟨i,hi⟩
 ·exact key 2 (by decide) ⟨i,hi⟩
 ·exact key 3 (by decide) ⟨i,hi⟩
 ·exact key 4 (by decide) ⟨i,hi⟩
 ·exact key 5 (by decide) ⟨i,hi⟩
 ·exact key 6 (by decide) ⟨i,hi⟩
theorem namesT_len:namesT.length=42:=rfl
def vnm:List Bool→List Int→Bool
 | l::ls,n::ns=>bif n !=0&&!l then false else vnm ls ns
 | _,_=>true
def vcv:List Bool→List Int→List Int→Bool
 | l::ls,a::as_,b::bs=>bif l&&a !=b then false else vcv ls as_ bs
 | _,_,_=>true
abbrev plOf (f:DT1):DT4:=(f.2.1,f.2.2.1,f.2.2.2.1,f.2.2.2.2.1,f.2.2.2.2.2.1,f.2.2.2.2.2.2.1)
def vend (chips:Int) (f:DT1):Bool:=decide (0≤f.2.2.2.2.2.2.2.1)&&(decide (f.2.2.2.2.2.2.2.1<chips)&&(f.2.2.2.2.2.2.2.2.1 !=0&&(bitI .andNot .u8 f.2.2.2.2.2.2.2.2.2.1 f.2.2.2.2.2.2.2.2.1==0&&(f.2.2.2.2.2.2.2.2.2.2||f.2.2.2.2.2.2.2.2.2.1==0))))
def vfault (s:DT4) (chips:Int) (f:DT1):Bool:=known f.1&&(vplace s (plOf f)&&(vnm (nmd f.1) (sl6 (plOf f))&&vend chips f))
def cov (f:DT1) (p:DT4):Bool:=known f.1&&vcv (nmd f.1) (sl6 (plOf f)) (sl6 p)
def atStep (s:DT4) (j:Nat) (x:Int×List Int):Int×List Int:=(x.1/2^((sl6 s).getD (5-j) 0).toNat,x.2.set (5-j) (x.1%2^((sl6 s).getD (5-j) 0).toNat))
def atL (s:DT4) (index:Int):List Int:=(run (atStep s) 0 6 (index,[0,0,0,0,0,0])).2
def atP4 (s:DT4) (index:Int):DT4:=((atL s index).getD 0 0,(atL s index).getD 1 0,(atL s index).getD 2 0,(atL s index).getD 3 0,(atL s index).getD 4 0,(atL s index).getD 5 0)
theorem and_mask {x:Int} {w:Nat} (h0:0≤x) (h1:x<9223372036854775808) (hw:w≤12):bitI .and .i64 x (w64 (((2^w:Nat):Int)-1))=x%2^w:=by
 have h3:2^w≤2^12:=Nat.pow_le_pow_right (by omega) hw
 have hp:0<2^w:=Nat.pow_pos (by omega)
 have e0:w64 (((2^w:Nat):Int)-1)=((2^w-1:Nat):Int):=by
  generalize 2^w=q at h3 hp ⊢
  rw[w64_id (by omega) (by omega)]
  omega
 rw[e0]
 obtain⟨a,rfl⟩: ∃a:Nat,x=a:=⟨x.toNat,by omega⟩
 show w64 ((BitVec.ofInt 64 (a:Int)&&&BitVec.ofInt 64 ((2^w-1:Nat):Int)).toNat:Int)=_
 have h2:(BitVec.ofInt 64 (a:Int)&&&BitVec.ofInt 64 ((2^w-1:Nat):Int)).toNat=a%2^w:=by
  rw[BitVec.toNat_and,BitVec.ofInt_natCast,BitVec.ofInt_natCast,BitVec.toNat_ofNat,BitVec.toNat_ofNat,Nat.mod_eq_of_lt (by omega)]
  rw[Nat.mod_eq_of_lt (a:=2^w-1) (by generalize 2^w=q at h3 hp ⊢;omega)]
  exact Nat.and_two_pow_sub_one_eq_mod a w
 have h4:=Nat.mod_lt a hp
 rw[h2]
 have e:(2:Int)^w=((2^w:Nat):Int):=by simp
 rw[e, ←Int.natCast_emod]
 generalize a%2^w=q at h4 ⊢
 generalize 2^w=r at h4 h3
 exact w64_id (by omega) (by omega)
section
variable {α:Type} {k:Nat}
theorem f93_eq (kind:Int) (K:Bool→Option α):f93 k kind K=K (known kind):=by
 simp only[f93,s93,SumT.leaf,SumT.pre,SumT.seq,SumT.cond,SumT.block,SumT.blockP,SumT.loop,zB]
 unfold known
 rw[show decide (kind≥1)=decide (1≤kind)from rfl]
 cases decide (1≤kind)<;>rfl
theorem f80_eq (kind:Int) (K:List Bool→Bool→Option α):f80 k kind K=K (nmd kind) (known kind):=by
 simp only[f80,s80,SumT.leaf,SumT.pre,SumT.seq,SumT.cond,SumT.block,SumT.blockP,SumT.loop,zB]
 unfold nmd known
 by_cases h1:kind=1
 ·subst h1;rfl
 rw[beq_eq_false_iff_ne.2 h1]
 by_cases h2:kind=2
 ·subst h2;rfl
 rw[beq_eq_false_iff_ne.2 h2]
 by_cases h3:kind=3
 ·subst h3;rfl
 rw[beq_eq_false_iff_ne.2 h3]
 by_cases h4:kind=4
 ·subst h4;rfl
 rw[beq_eq_false_iff_ne.2 h4]
 by_cases h5:kind=5
 ·subst h5;rfl
 rw[beq_eq_false_iff_ne.2 h5]
 by_cases h6:kind=6
 ·subst h6;rfl
 rw[beq_eq_false_iff_ne.2 h6]
 have:(decide (1≤kind)&&decide (kind≤6))=false:=by
  rw[Bool.and_eq_false_iff,decide_eq_false_iff_not,decide_eq_false_iff_not]
  omega
 rw[this]
 rfl
theorem f68_eq (hk:10000≤k) (s:DT4) (chips:Int) (f:DT1) (K:Bool→Option α):f68 k s chips f K=K (vfault s chips f):=by
 simp only[f68,s68,SumT.leaf,SumT.pre,SumT.seq,SumT.cond,SumT.block,SumT.blockP,SumT.loop,zB]
 rw[f93_eq,f94_eq hk]
 unfold vfault
 cases hkn:known f.1
 ·rfl
 rw[Bool.not_true,cond_false,Bool.true_and]
 cases hpl:vplace s (plOf f)
 ·rfl
 rw[Bool.not_true,cond_false,Bool.true_and,f95_eq]
 show lpF _ k (chips,f,plOf f,(0:Int))=_
 have hkn':=hkn
 unfold known at hkn'
 simp only[Bool.and_eq_true,decide_eq_true_eq]at hkn'
 have hl6:(sl6 (plOf f)).length=6:=rfl
 have hln:=nmd_len f.1
 refine lp_rule (fun m x=> ∃i:Nat,i+m=6∧x=(chips,f,plOf f,(i:Int))∧vnm ((nmd f.1).drop i) ((sl6 (plOf f)).drop i)=vnm (nmd f.1) (sl6 (plOf f))) ?_ (m:=6) ⟨0,by omega,rfl,rfl⟩ (by omega)
 rintro m x n ⟨i,hi,rfl,hv⟩ hn
 rw[←hv]
 cases m with
 | zero=>
  simp only[]
  rw[dge (by omega),cond_false,List.drop_eq_nil_of_le (show(nmd f.1).length≤i by omega),show vnm [] ((sl6 (plOf f)).drop i)=true from rfl,Bool.true_and]
  unfold vend
  rw[show decide (f.2.2.2.2.2.2.2.1≥0)=decide (0≤f.2.2.2.2.2.2.2.1)from rfl]
  cases decide (0≤f.2.2.2.2.2.2.2.1)<;>cases decide (f.2.2.2.2.2.2.2.1<chips)<;>cases f.2.2.2.2.2.2.2.2.1 !=0<;>cases bitI .andNot .u8 f.2.2.2.2.2.2.2.2.2.1 f.2.2.2.2.2.2.2.2.1==0<;>cases f.2.2.2.2.2.2.2.2.2.2<;>rfl
 | succ m=>
  simp only[]
  rw[dlt (by omega),cond_true,gd (by omega),Int.toNat_natCast,namesT_len,names_nmd hkn (by omega),show [f.2.1,f.2.2.1,f.2.2.2.1,f.2.2.2.2.1,f.2.2.2.2.2.1,f.2.2.2.2.2.2.1]=sl6 (plOf f)from rfl]
  rw[drop_getD false (show i<(nmd f.1).length by omega),drop_getD 0 (show i<(sl6 (plOf f)).length by omega),vnm]at hv ⊢
  generalize (sl6 (plOf f)).getD i 0=q at hv ⊢
  generalize (nmd f.1).getD i false=l at hv ⊢
  cases hq:q !=0
  ·rw[hq,Bool.false_and,cond_false]at hv
   rw[cond_false,Bool.false_and,cond_false,w64_id (by omega) (by omega),hv]
   exact hn m _ (by omega) ⟨i+1,by omega,rfl,hv⟩
  ·rw[hq,Bool.true_and]at hv
   rw[cond_true,Bool.true_and,gd (by omega),gd (by omega),gd (by omega),gd (by omega)]
   cases l
   ·rfl
   ·rw[Bool.not_true,cond_false]at hv
    rw[Bool.not_true,cond_false,cond_false,w64_id (by omega) (by omega),hv]
    exact hn m _ (by omega) ⟨i+1,by omega,rfl,hv⟩
theorem nmd_list (kind:Int):[(nmd kind).getD 0 false,(nmd kind).getD 1 false,(nmd kind).getD 2 false,(nmd kind).getD 3 false,(nmd kind).getD 4 false,(nmd kind).getD 5 false]=nmd kind:=by
 unfold nmd
 cases kind==1<;>cases kind==2<;>cases kind==3<;>cases kind==4<;>cases kind==5<;>cases kind==6<;>rfl
theorem f49_eq (hk:10000≤k) (s:DT4) (chips:Int) (f:DT1) (K:Bool→Option α):f49 k s chips f K=K (vfault s chips f):=by
 simp only[f49,s49,SumT.leaf,SumT.pre,SumT.seq,SumT.cond,SumT.block,SumT.blockP,SumT.loop,zB]
 rw[f80_eq,f81_eq hk,f82_eq]
 simp only[nmd_list]
 unfold vfault
 cases hkn:known f.1
 ·rfl
 rw[Bool.not_true,cond_false,Bool.true_and]
 cases hpl:vplace s (plOf f)
 ·rfl
 rw[Bool.not_true,cond_false,Bool.true_and]
 have hl6:(sl6 (plOf f)).length=6:=rfl
 have hln:=nmd_len f.1
 have hfin: ∀(A B:Option α),(bif decide (f.2.2.2.2.2.2.2.1<0)then A else bif decide (f.2.2.2.2.2.2.2.1≥chips)then A else bif f.2.2.2.2.2.2.2.2.1==0 then A else bif bitI .andNot .u8 f.2.2.2.2.2.2.2.2.2.1 f.2.2.2.2.2.2.2.2.1 !=0 then A else bif !f.2.2.2.2.2.2.2.2.2.2 then(bif f.2.2.2.2.2.2.2.2.2.1 !=0 then A else B)else B)=bif vend chips f then B else A:=fun A B=>by
  unfold vend
  rw[show decide (f.2.2.2.2.2.2.2.1<0)=!decide (0≤f.2.2.2.2.2.2.2.1) by rw[←decide_not];congr 1;rw[Int.not_le],show decide (f.2.2.2.2.2.2.2.1≥chips)=!decide (f.2.2.2.2.2.2.2.1<chips) by rw[←decide_not];congr 1;rw[Int.not_lt],
   bne,bne,bne]
  cases decide (0≤f.2.2.2.2.2.2.2.1)<;>cases decide (f.2.2.2.2.2.2.2.1<chips)<;>cases f.2.2.2.2.2.2.2.2.1==0<;>cases bitI .andNot .u8 f.2.2.2.2.2.2.2.2.2.1 f.2.2.2.2.2.2.2.2.1==0<;>cases f.2.2.2.2.2.2.2.2.2.2<;>cases f.2.2.2.2.2.2.2.2.2.1==0<;>rfl
 refine(hfin _ _).trans ?_
 cases hve:vend chips f
 ·rw[cond_false,cond_true,Bool.and_false]
 rw[cond_true,Bool.and_true]
 show lpF _ k (nmd f.1,sl6 (plOf f),(0:Int))=_
 refine lp_rule (fun m x=> ∃i:Nat,i+m=6∧x=(nmd f.1,sl6 (plOf f),(i:Int))∧vnm ((nmd f.1).drop i) ((sl6 (plOf f)).drop i)=vnm (nmd f.1) (sl6 (plOf f))) ?_ (m:=6) ⟨0,by omega,rfl,rfl⟩ (by omega)
 rintro m x n ⟨i,hi,rfl,hv⟩ hn
 rw[←hv]
 cases m with
 | zero=>
  simp only[]
  rw[dge (by omega),cond_false,List.drop_eq_nil_of_le (show(nmd f.1).length≤i by omega),show vnm [] ((sl6 (plOf f)).drop i)=true from rfl]
 | succ m=>
  simp only[]
  rw[dlt (by omega),cond_true,gd (by omega),Int.toNat_natCast,Nat.add_zero,gd (by omega)]
  rw[drop_getD false (show i<(nmd f.1).length by omega),drop_getD 0 (show i<(sl6 (plOf f)).length by omega),vnm]at hv ⊢
  generalize hq':(sl6 (plOf f)).getD i 0=q at hv ⊢
  generalize (nmd f.1).getD i false=l at hv ⊢
  cases l
  ·rw[Bool.not_false,cond_true,gd (by omega),gd (by omega),Bool.and_true]
   rw[Bool.not_false,Bool.and_true]at hv
   cases hq:q !=0
   ·rw[hq,cond_false]at hv
    rw[cond_false,cond_false,w64_id (by omega) (by omega),hv]
    exact hn m _ (by omega) ⟨i+1,by omega,rfl,hv⟩
   ·rfl
  ·rw[Bool.not_true,Bool.and_false,cond_false]at hv
   rw[Bool.not_true,cond_false,Bool.and_false,cond_false,w64_id (by omega) (by omega),hv]
   exact hn m _ (by omega) ⟨i+1,by omega,rfl,hv⟩
theorem f102_eq (hk:10000≤k) (f:DT1) (p:DT4) (K:Bool→Option α):f102 k f p K=K (cov f p):=by
 simp only[f102,s102,SumT.leaf,SumT.pre,SumT.seq,SumT.cond,SumT.block,SumT.blockP,SumT.loop,zB]
 rw[f93_eq]
 unfold cov
 cases hkn:known f.1
 ·rfl
 rw[Bool.not_true,cond_false,Bool.true_and,f95_eq,f95_eq]
 have hkn':=hkn
 unfold known at hkn'
 simp only[Bool.and_eq_true,decide_eq_true_eq]at hkn'
 have hln:=nmd_len f.1
 rw[gd (by omega),namesT_len,gd (by omega),gd (by omega)]
 have e: ∀i,i<6→namesT.getD (f.1.toNat*6+0+i) false=(nmd f.1).getD i false:=fun i hi=>by rw[Nat.add_comm (f.1.toNat*6+0) i];exact names_nmd hkn hi
 rw[e 0 (by omega),e 1 (by omega),e 2 (by omega),e 3 (by omega),e 4 (by omega),e 5 (by omega)]
 show lpF _ k (sl6 (plOf f),sl6 p,((nmd f.1).getD 0 false,(nmd f.1).getD 1 false,(nmd f.1).getD 2 false,(nmd f.1).getD 3 false,(nmd f.1).getD 4 false,(nmd f.1).getD 5 false),(0:Int))=_
 have hl6:(sl6 (plOf f)).length=6:=rfl
 have hl6p:(sl6 p).length=6:=rfl
 refine lp_rule (fun m x=> ∃i:Nat,i+m=6∧x=(sl6 (plOf f),sl6 p,((nmd f.1).getD 0 false,(nmd f.1).getD 1 false,(nmd f.1).getD 2 false,(nmd f.1).getD 3 false,(nmd f.1).getD 4 false,(nmd f.1).getD 5 false),(i:Int))∧
  vcv ((nmd f.1).drop i) ((sl6 (plOf f)).drop i) ((sl6 p).drop i)=vcv (nmd f.1) (sl6 (plOf f)) (sl6 p)) ?_ (m:=6) ⟨0,by omega,rfl,rfl⟩ (by omega)
 rintro m x n ⟨i,hi,rfl,hv⟩ hn
 rw[←hv]
 cases m with
 | zero=>
  simp only[]
  rw[dge (by omega),cond_false,List.drop_eq_nil_of_le (show(nmd f.1).length≤i by omega)]
  rfl
 | succ m=>
  simp only[nmd_list]
  rw[dlt (by omega),cond_true,gd (by omega),Int.toNat_natCast,Nat.add_zero]
  rw[drop_getD false (show i<(nmd f.1).length by omega),drop_getD 0 (show i<(sl6 (plOf f)).length by omega),drop_getD 0 (show i<(sl6 p).length by omega),vcv]at hv ⊢
  generalize hqa:(sl6 (plOf f)).getD i 0=qa at hv ⊢
  generalize hqb:(sl6 p).getD i 0=qb at hv ⊢
  generalize (nmd f.1).getD i false=l at hv ⊢
  cases l
  ·rw[Bool.false_and,cond_false]at hv
   rw[cond_false,Bool.false_and,cond_false,w64_id (by omega) (by omega),hv]
   exact hn m _ (by omega) ⟨i+1,by omega,rfl,hv⟩
  ·rw[Bool.true_and]at hv
   rw[cond_true,Bool.true_and,gd (by omega),gd (by omega),gd (by omega),gd (by omega)]
   cases hq:qa !=qb
   ·rw[hq,cond_false]at hv
    rw[cond_false,cond_false,w64_id (by omega) (by omega),hv]
    exact hn m _ (by omega) ⟨i+1,by omega,rfl,hv⟩
   ·rfl
theorem f84_eq (hk:10000≤k) (f:DT1) (p:DT4) (K:Bool→Option α):f84 k f p K=K (cov f p):=by
 simp only[f84,s84,SumT.leaf,SumT.pre,SumT.seq,SumT.cond,SumT.block,SumT.blockP,SumT.loop,zB]
 rw[f80_eq]
 unfold cov
 cases hkn:known f.1
 ·rfl
 rw[Bool.not_true,cond_false,Bool.true_and,f82_eq,f82_eq,nmd_list]
 have hln:=nmd_len f.1
 show lpF _ k (nmd f.1,sl6 (plOf f),sl6 p,(0:Int))=_
 have hl6:(sl6 (plOf f)).length=6:=rfl
 have hl6p:(sl6 p).length=6:=rfl
 refine lp_rule (fun m x=> ∃i:Nat,i+m=6∧x=(nmd f.1,sl6 (plOf f),sl6 p,(i:Int))∧
  vcv ((nmd f.1).drop i) ((sl6 (plOf f)).drop i) ((sl6 p).drop i)=vcv (nmd f.1) (sl6 (plOf f)) (sl6 p)) ?_ (m:=6) ⟨0,by omega,rfl,rfl⟩ (by omega)
 rintro m x n ⟨i,hi,rfl,hv⟩ hn
 rw[←hv]
 cases m with
 | zero=>
  simp only[]
  rw[dge (by omega),cond_false,List.drop_eq_nil_of_le (show(nmd f.1).length≤i by omega)]
  rfl
 | succ m=>
  simp only[]
  rw[dlt (by omega),cond_true,gd (by omega),Int.toNat_natCast,Nat.add_zero,gd (by omega)]
  rw[drop_getD false (show i<(nmd f.1).length by omega),drop_getD 0 (show i<(sl6 (plOf f)).length by omega),drop_getD 0 (show i<(sl6 p).length by omega),vcv]at hv ⊢
  generalize hqa:(sl6 (plOf f)).getD i 0=qa at hv ⊢
  generalize hqb:(sl6 p).getD i 0=qb at hv ⊢
  generalize (nmd f.1).getD i false=l at hv ⊢
  cases l
  ·rw[Bool.false_and,cond_false]at hv
   rw[cond_false,Bool.false_and,cond_false,w64_id (by omega) (by omega),hv]
   exact hn m _ (by omega) ⟨i+1,by omega,rfl,hv⟩
  ·rw[Bool.true_and]at hv
   rw[cond_true,Bool.true_and,gd (by omega),gd (by omega),gd (by omega),gd (by omega)]
   cases hq:qa !=qb
   ·rw[hq,cond_false]at hv
    rw[cond_false,cond_false,w64_id (by omega) (by omega),hv]
    exact hn m _ (by omega) ⟨i+1,by omega,rfl,hv⟩
   ·rfl
theorem div_nn {x:Int} {w:Nat} (h0:0≤x):0≤x/2^w∧x/2^w≤x:=by
 have hp:(0:Int)<2^w:=Int.pow_pos (by decide)
 exact⟨Int.ediv_nonneg h0 (Int.le_of_lt hp),Int.ediv_le_self _ h0⟩
theorem f101_eq (hk:10000≤k) (s:DT4) (index:Int) (h:vshape s=true) (h0:0≤index) (h1:index<szOf s) (K:DT4→Int→Option α):f101 k s index K=K (atP4 s index) 0:=by
 obtain⟨hv1,hv2,hv3⟩:=vshape_spec h
 have hsz:=szOf_le s
 simp only[f101,s101,SumT.leaf,SumT.pre,SumT.seq,SumT.cond,SumT.block,SumT.blockP,SumT.loop,zB]
 rw[f64_eq hk,h,Bool.not_true,cond_false,decide_eq_false (by omega),cond_false,f41_eq hk,decide_eq_false (by omega),cond_false,f70_eq]
 show lpF _ k (index,((0:Int),(0:Int),(0:Int),(0:Int),(0:Int),(0:Int)),[(0:Int),0,0,0,0,0],sl6 s,(5:Int))=_
 have hl6:(sl6 s).length=6:=rfl
 have hb: ∀i,i<6→0≤(sl6 s).getD i 0∧(sl6 s).getD i 0≤12:=fun i hi=>hv1 _ (getD_mem 0 (by omega))
 refine lp_run2 (fun j (x:Int×List Int)=>(x.1,((0:Int),(0:Int),(0:Int),(0:Int),(0:Int),(0:Int)),x.2,sl6 s,(5:Int)-j)) 6 (atStep s) (fun j x=>0≤x.1∧x.1≤4096∧x.2.length=6) (by omega) (a:=(index,[0,0,0,0,0,0])) ⟨h0,by show index≤4096;omega,rfl⟩ ?_ ?_
 ·rintro j ⟨x,l⟩ n hj ⟨hx0,hx1,hl⟩
  have hx0:0≤x:=hx0
  have hx1:x≤4096:=hx1
  have hl:l.length=6:=hl
  have hbj:=hb (5-j) (by omega)
  have hd:=div_nn (w:=((sl6 s).getD (5-j) 0).toNat) hx0
  refine⟨?_,hd.1,Int.le_trans hd.2 hx1,by show(l.set _ _).length=6;rw[List.length_set,hl]⟩
  simp only[]
  have e5:((5:Int)-j).toNat=5-j:=by omega
  rw[dle (by omega),cond_true,gd (by omega),e5,Nat.add_zero,gd (by omega),gd (by omega),gd (by omega),gd (by omega),gd (by omega),gd (by omega),gd (by omega),pow64 hbj.1 hbj.2,and_mask hx0 (by omega) (by omega),
   show min ((sl6 s).getD (5-j) 0).toNat 64=((sl6 s).getD (5-j) 0).toNat by omega,Int.fdiv_eq_ediv_of_nonneg _ (Int.le_of_lt (Int.pow_pos (by decide))),w64_id (by omega) (by omega),show(5:Int)-j-1=5-((j+1:Nat):Int) by omega]
  rfl
 ·rintro n ⟨_,_,hl⟩
  simp only[]
  rw[dgt (by omega),cond_false,hl,gd (by omega)]
  rfl
theorem f83_eq (hk:10000≤k) (s:DT4) (index:Int) (h:vshape s=true) (h0:0≤index) (h1:index<szOf s) (K:DT4→Int→Option α):f83 k s index K=K (atP4 s index) 0:=by
 obtain⟨hv1,hv2,hv3⟩:=vshape_spec h
 have hsz:=szOf_le s
 simp only[f83,s83,SumT.leaf,SumT.pre,SumT.seq,SumT.cond,SumT.block,SumT.blockP,SumT.loop,zB]
 rw[f37_eq hk,h,Bool.not_true,cond_false,decide_eq_false (by omega),cond_false,f13_eq hk,decide_eq_false (by omega),cond_false,f60_eq]
 show lpF _ k (index,((0:Int),(0:Int),(0:Int),(0:Int),(0:Int),(0:Int)),sl6 s,[(0:Int),0,0,0,0,0],(5:Int))=_
 have hl6:(sl6 s).length=6:=rfl
 have hb: ∀i,i<6→0≤(sl6 s).getD i 0∧(sl6 s).getD i 0≤12:=fun i hi=>hv1 _ (getD_mem 0 (by omega))
 refine lp_run2 (fun j (x:Int×List Int)=>(x.1,((0:Int),(0:Int),(0:Int),(0:Int),(0:Int),(0:Int)),sl6 s,x.2,(5:Int)-j)) 6 (atStep s) (fun j x=>0≤x.1∧x.1≤4096∧x.2.length=6) (by omega) (a:=(index,[0,0,0,0,0,0])) ⟨h0,by show index≤4096;omega,rfl⟩ ?_ ?_
 ·rintro j ⟨x,l⟩ n hj ⟨hx0,hx1,hl⟩
  have hx0:0≤x:=hx0
  have hx1:x≤4096:=hx1
  have hl:l.length=6:=hl
  have hbj:=hb (5-j) (by omega)
  have hd:=div_nn (w:=((sl6 s).getD (5-j) 0).toNat) hx0
  refine⟨?_,hd.1,Int.le_trans hd.2 hx1,by show(l.set _ _).length=6;rw[List.length_set,hl]⟩
  simp only[]
  have e5:((5:Int)-j).toNat=5-j:=by omega
  have hne: ¬(((2^((sl6 s).getD (5-j) 0).toNat:Nat):Int)=0):=by
   have:0<2^((sl6 s).getD (5-j) 0).toNat:=Nat.pow_pos (by omega)
   generalize 2^((sl6 s).getD (5-j) 0).toNat=q at this ⊢
   omega
  rw[dle (by omega),cond_true,gd (by omega),e5,Nat.add_zero,gd (by omega),wu64_id (by omega) (by omega),gd (by omega),pow64 hbj.1 hbj.2,if_neg hne,gd (by omega),gd (by omega),gd (by omega),gd (by omega),gd (by omega),if_neg hne,Int.tdiv_eq_ediv_of_nonneg hx0,Int.tmod_eq_emod_of_nonneg hx0,
   show((2^((sl6 s).getD (5-j) 0).toNat:Nat):Int)=2^((sl6 s).getD (5-j) 0).toNat by simp,w64_id (by omega) (by omega),w64_id (by omega) (by omega),show(5:Int)-j-1=5-((j+1:Nat):Int) by omega]
  rfl
 ·rintro n ⟨_,_,hl⟩
  simp only[]
  rw[dgt (by omega),cond_false,hl,gd (by omega),gd (by omega),gd (by omega),gd (by omega),gd (by omega),gd (by omega)]
  rfl
end
end Go.Proofs.YtkeiedikiiccpaaGreatDoor.Am
