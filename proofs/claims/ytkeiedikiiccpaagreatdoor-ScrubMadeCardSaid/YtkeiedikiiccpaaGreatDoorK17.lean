/- A part of the proof of ScrubMade: lemmas. No conditions beyond those of each lemma. -/
import Derived.Test.YtkeiedikiiccpaaGreatDoorK16
set_option linter.all false
namespace Go.Proofs.YtkeiedikiiccpaaGreatDoor.Am
open Go
theorem peta {A B:Type} (p:A×B):(p.1,p.2)=p:=rfl
abbrev mk (s:DT4) (c:DT5) (ws:List DT0) (fs:List DT1):DT2:=(s.1,s.2.1,s.2.2.1,s.2.2.2.1,s.2.2.2.2.1,s.2.2.2.2.2,c.1,c.2.1,c.2.2.1,c.2.2.2,ws,fs)
def chips (c:DT5):Int:=w64 (c.2.1+c.2.2.1)
def zer (l:List Int):Bool:=l.all (· ==0)
def blank (w:DT0):Bool:=!w.2.2&&zer w.2.1
def eqf (a b:DT1):Bool:=eqI a.1 b.1 (eqI a.2.1 b.2.1 (eqI a.2.2.1 b.2.2.1 (eqI a.2.2.2.1 b.2.2.2.1 (eqI a.2.2.2.2.1 b.2.2.2.2.1 (eqI a.2.2.2.2.2.1 b.2.2.2.2.2.1 (eqI a.2.2.2.2.2.2.1 b.2.2.2.2.2.2.1 (eqI a.2.2.2.2.2.2.2.1 b.2.2.2.2.2.2.2.1 (eqI a.2.2.2.2.2.2.2.2.1 b.2.2.2.2.2.2.2.2.1 (eqI a.2.2.2.2.2.2.2.2.2.1 b.2.2.2.2.2.2.2.2.2.1 (eqB a.2.2.2.2.2.2.2.2.2.2 b.2.2.2.2.2.2.2.2.2.2 true))))))))))
def vws (size n:Int):List DT0→Int→Bool
 | [],_=>true
 | w::ws,last=>bif decide (w.1≤last)then false else bif decide (w.1≥size)then false else bif ((List.length w.2.1:Nat):Int) !=n then false else bif blank w then false else vws size n ws w.1
def vfs (s:DT4) (n:Int):List DT1→List DT1→Bool
 | _,[]=>true
 | pre,f::r=>bif !f.2.2.2.2.2.2.2.2.2.2 then false else bif !vfault s n f then false else bif pre.any (fun x=>eqf f x)then false else vfs s n (pre++[f]) r
def vmem (s:DT4) (c:DT5) (ws:List DT0) (fs:List DT1):Bool:=bif !vshape s then false else bif !vcode c then false else bif decide (((fs.length:Nat):Int)>64)then false else
 (vws (szOf s) (chips c) ws (-1)&&vfs s (chips c) [] fs)
section
variable {α:Type} {k:Nat}
theorem f66_eq (c:DT5) (K:Int→Option α):f66 k c K=K (chips c):=rfl
theorem f16_eq (c:DT5) (K:Int→Option α):f16 k c K=K (chips c):=rfl
theorem chips_le {c:DT5} (h:vcode c=true):0≤chips c∧chips c≤40:=by
 by_cases h2:c.1=2
 ·obtain⟨d,ch,f,rfl,h3,h4,h5,h6,h7⟩:=vcode_sym h h2
  unfold chips
  simp only[]
  rw[w64_id (by omega) (by omega)]
  omega
 ·rw[vcode_bit h h2]
  exact⟨by decide,by decide⟩
theorem zer_walk (hk:10000≤k) (l:List Int) (hl:l.length<1000) (K:Bool→Option α):f91_92 k l K=K (!zer l):=by
 simp only[f91_92,s91_92,SumT.leaf,SumT.pre,SumT.seq,SumT.cond,SumT.block,SumT.blockP,SumT.loop,zB]
 simp only[f112_92,s112_92,SumT.leaf,SumT.pre,SumT.seq,SumT.cond,SumT.block,SumT.blockP,SumT.loop,zB]
 refine lp_rule (fun m x=> ∃i:Nat,i+m=l.length∧x=(l,(l.length:Int),(i:Int))∧zer (l.drop i)=zer l) ?_ (m:=l.length) ⟨0,by omega,rfl,rfl⟩ (by omega)
 rintro m x n ⟨i,hi,rfl,hc⟩ hn
 cases m with
 | zero=>
  simp only[]
  rw[←hc,dge (by omega),cond_false,List.drop_eq_nil_of_le (by omega)]
  rfl
 | succ m=>
  have hi':i<l.length:=by omega
  have hd:=drop_getD 0 hi'
  simp only[]
  rw[dlt (by omega),cond_true,gd (by omega),Int.toNat_natCast]
  simp only[f92,s92,SumT.leaf,SumT.pre,SumT.seq,SumT.cond,SumT.block,SumT.blockP,SumT.loop,zB]
  by_cases he:l.getD i 0=0
  ·rw[he,show((0:Int) !=0)=false from rfl,cond_false,w64_id (by omega) (by omega)]
   refine hn m _ (by omega) ⟨i+1,by omega,rfl,?_⟩
   rw[←hc,hd,he]
   rfl
  ·rw[bne_iff_ne.2 he,cond_true, ←hc,hd,decide_eq_true (by omega)]
   unfold zer
   rw[List.all_cons,show(l.getD i 0==0)=false from beq_eq_false_iff_ne.2 he]
   rfl
theorem f67_eq (hk:10000≤k) (w:DT0) (hl:List.length w.2.1<1000) (K:Bool→Option α):f67 k w K=K (blank w):=by
 simp only[f67,s67,SumT.leaf,SumT.pre,SumT.seq,SumT.cond,SumT.block,SumT.blockP,SumT.loop,zB]
 unfold blank
 rw[zer_walk hk _ hl,Bool.not_not]
 cases w.2.2<;>rfl
theorem f79_eq (hk:10000≤k) (l:List Int) (hl:l.length<1000) (K:Bool→Option α):f79 k l K=K (zer l):=by
 simp only[f79,s79,SumT.leaf,SumT.pre,SumT.seq,SumT.cond,SumT.block,SumT.blockP,SumT.loop,zB]
 refine lp_rule (fun m x=> ∃i:Nat,i+m=l.length∧x=(l,(i:Int))∧zer (l.drop i)=zer l) ?_ (m:=l.length) ⟨0,by omega,rfl,rfl⟩ (by omega)
 rintro m x n ⟨i,hi,rfl,hc⟩ hn
 cases m with
 | zero=>
  simp only[]
  rw[←hc,dge (by omega),cond_false,List.drop_eq_nil_of_le (by omega)]
  rfl
 | succ m=>
  have hi':i<l.length:=by omega
  have hd:=drop_getD 0 hi'
  simp only[]
  rw[dlt (by omega),cond_true,gd (by omega),Int.toNat_natCast]
  by_cases he:l.getD i 0=0
  ·rw[he,show((0:Int) !=0)=false from rfl,cond_false,w64_id (by omega) (by omega)]
   refine hn m _ (by omega) ⟨i+1,by omega,rfl,?_⟩
   rw[←hc,hd,he]
   rfl
  ·rw[bne_iff_ne.2 he,cond_true, ←hc,hd]
   unfold zer
   rw[List.all_cons,show(l.getD i 0==0)=false from beq_eq_false_iff_ne.2 he]
   rfl
theorem f69_eq (hk:10000≤k) (l:List DT1) (f:DT1) (hl:l.length<1000) (K:Bool→Option α):f69 k l f K=K (l.any fun x=>eqf f x):=by
 simp only[f69,s69,SumT.leaf,SumT.pre,SumT.seq,SumT.cond,SumT.block,SumT.blockP,SumT.loop,zB]
 simp only[f96,s96,SumT.leaf,SumT.pre,SumT.seq,SumT.cond,SumT.block,SumT.blockP,SumT.loop,zB]
 refine lp_rule (fun m x=> ∃i:Nat,i+m=l.length∧x=(l,f,(l.length:Int),(i:Int))∧((l.drop i).any fun x=>eqf f x)=l.any fun x=>eqf f x) ?_ (m:=l.length) ⟨0,by omega,rfl,rfl⟩ (by omega)
 rintro m x n ⟨i,hi,rfl,hc⟩ hn
 cases m with
 | zero=>
  simp only[]
  rw[←hc,dge (by omega),cond_false,List.drop_eq_nil_of_le (by omega)]
  rfl
 | succ m=>
  have hi':i<l.length:=by omega
  have hd:=drop_getD zT1 hi'
  rw[hd,List.any_cons]at hc
  simp only[]
  rw[dlt (by omega),cond_true,gd (by omega),Int.toNat_natCast]
  refine Eq.trans (b:=bif eqf f (l.getD i zT1)then _ else _) rfl ?_
  cases he:eqf f (l.getD i zT1)
  ·rw[he,Bool.false_or]at hc
   rw[cond_false,w64_id (by omega) (by omega)]
   exact hn m _ (by omega) ⟨i+1,by omega,rfl,hc⟩
  ·rw[he,Bool.true_or]at hc
   rw[cond_true, ←hc,decide_eq_true (by omega)]
structure MB (ws:List DT0) (fs:List DT1):Prop where
 hw:ws.length≤5000
 hf:fs.length≤500
 hs: ∀w∈ws,List.length w.2.1≤room
theorem f39_eq (hk:10000≤k) (s:DT4) (c:DT5) (ws:List DT0) (fs:List DT1) (hm:MB ws fs) (K:DT2→Option α):f39 k (mk s c ws fs) K=K (mk s c ws fs):=by
 simp only[f39,s39,SumT.leaf,SumT.pre,SumT.seq,SumT.cond,SumT.block,SumT.blockP,SumT.loop,zB,mk,peta]
 have h1:=hm.hw
 have h2:=hm.hf
 simp only[cloneF]
 rw[gd (by unfold room;omega),gd (by unfold room;omega)]
 refine lp_run2 (fun i (_:Unit)=>(mk s c ws fs,zT2,((ws.length:Nat):Int),(i:Int))) ws.length (fun _ a=>a) (fun _ _=>True) (by omega) (a:=()) trivial ?_ ?_
 ·intro i _ n hi _
  refine⟨?_,trivial⟩
  have hw:=hm.hs _ (getD_mem zT0 hi)
  simp only[]
  rw[dlt (by omega),cond_true,gd (by omega),Int.toNat_natCast,gd (by omega),gd (by omega),w64_id (by omega) (by omega)]
  rw[set_same (d:=zT0) (x:=((ws.getD i zT0).1,(ws.getD i zT0).2.1,(ws.getD i zT0).2.2)) rfl hi]
  rfl
 ·intro n _
  simp only[]
  rw[dge (by omega),cond_false]
theorem f48_eq (hk:10000≤k) (s:DT4) (c:DT5) (ws:List DT0) (fs:List DT1) (hm:MB ws fs) (K:DT2→Option α):f48 k (mk s c ws fs) K=K (mk s c ws fs):=by
 simp only[f48,s48,SumT.leaf,SumT.pre,SumT.seq,SumT.cond,SumT.block,SumT.blockP,SumT.loop,zB,mk,peta]
 have h1:=hm.hw
 have h2:=hm.hf
 refine lp_run2 (fun i (ws':List DT0)=>(mk s c ws fs,zT2,mk s c ws' fs,(i:Int))) ws.length (fun i ws'=>ws'++[ws.getD i zT0]) (fun i ws'=>ws'.length=i) (by omega) (a:=[]) rfl ?_ ?_
 ·intro i ws' n hi hI
  refine⟨?_,by rw[List.length_append,hI];rfl⟩
  have hw:=hm.hs _ (getD_mem zT0 hi)
  simp only[]
  rw[dlt (by omega),cond_true,gd (by omega),Int.toNat_natCast,gd (by omega),hI,gd (by simp;unfold room;omega),w64_id (by omega) (by omega)]
  rfl
 ·intro n _
  have:(List.range ws.length).map (fun i=>ws.getD i zT0)=ws:=ext_getD zT0 (by simp) fun i hi=>by
   rw[map_range_getD _ _ _ _ (by simpa using hi)]
  rw[run_snoc,List.nil_append,this]
  simp only[]
  rw[dge (by omega),cond_false,gd (by unfold room;omega)]
theorem f40_eq (hk:10000≤k) (s:DT4) (c:DT5) (ws:List DT0) (fs:List DT1) (hm:MB ws fs) (K:Bool→Option α):f40 k (mk s c ws fs) K=K (vmem s c ws fs):=by
 simp only[f40,s40,SumT.leaf,SumT.pre,SumT.seq,SumT.cond,SumT.block,SumT.blockP,SumT.loop,zB,mk,peta]
 have hb1:=hm.hw
 rw[f64_eq hk,f65_eq,f41_eq hk,f66_eq]
 unfold vmem
 cases hs:vshape s
 ·rfl
 rw[Bool.not_true,cond_false,cond_false]
 cases hc:vcode c
 ·rfl
 rw[Bool.not_true,cond_false,cond_false]
 by_cases hf:((fs.length:Nat):Int)>64
 ·rw[decide_eq_true hf]
  rfl
 rw[decide_eq_false hf,cond_false,cond_false]
 have hch:=chips_le hc
 generalize hsz:szOf s=size
 generalize hcn:chips c=n at hch
 refine lp_rule (fun q x=> ∃(i:Nat) (last:Int),i+q=ws.length∧x=(mk s c ws fs,size,n,last,ws,((ws.length:Nat):Int),(i:Int))∧vws size n (ws.drop i) last=vws size n ws (-1)) ?_ (m:=ws.length) ⟨0, -1,by omega,rfl,rfl⟩ (by omega)
 rintro q x n1 ⟨i,last,hi,rfl,hv⟩ hn1
 rw[←hv]
 cases q with
 | zero=>
  simp only[]
  rw[dge (by omega),cond_false,List.drop_eq_nil_of_le (by omega),vws,Bool.true_and]
  refine lp_rule (fun q x=> ∃(j:Nat),j+q=fs.length∧x=(mk s c ws fs,n,fs,((fs.length:Nat):Int),(j:Int))∧vfs s n (fs.take j) (fs.drop j)=vfs s n [] fs) ?_ (m:=fs.length) ⟨0,by omega,rfl,rfl⟩ (by omega)
  rintro q x n2 ⟨j,hj,rfl,hv2⟩ hn2
  rw[←hv2]
  cases q with
  | zero=>
   simp only[]
   rw[dge (by omega),cond_false,List.drop_eq_nil_of_le (by omega)]
   rfl
  | succ q=>
   have hj':j<fs.length:=by omega
   have htk:fs.take (j+1)=fs.take j++[fs.getD j zT1]:=by
    rw[List.take_add_one,List.getElem?_eq_getElem hj',List.getD_eq_getElem?_getD,List.getElem?_eq_getElem hj']
    rfl
   rw[drop_getD zT1 hj',vfs, ←htk]at hv2 ⊢
   simp only[]
   rw[dlt (by omega),cond_true,gd (by omega),Int.toNat_natCast]
   generalize hfj:fs.getD j zT1=f at hv2 ⊢
   cases h1:f.2.2.2.2.2.2.2.2.2.2
   ·rfl
   rw[h1]at hv2
   rw[Bool.not_true,cond_false]at hv2 ⊢
   rw[cond_false,f68_eq hk s]
   cases h2:vfault s n f
   ·rfl
   rw[h2]at hv2
   rw[Bool.not_true,cond_false]at hv2 ⊢
   rw[cond_false,gd (by omega),f69_eq hk _ _ (by rw[List.length_take];omega)]
   cases h3:(fs.take j).any fun x=>eqf f x
   ·rw[h3,cond_false]at hv2
    rw[cond_false,cond_false,w64_id (by omega) (by omega),hv2]
    exact hn2 q _ (by omega) ⟨j+1,by omega,rfl,hv2⟩
   ·rfl
 | succ q=>
  have hi':i<ws.length:=by omega
  rw[drop_getD zT0 hi',vws]at hv ⊢
  simp only[]
  rw[dlt (by omega),cond_true,gd (by omega),Int.toNat_natCast]
  generalize hwi:ws.getD i zT0=w at hv ⊢
  cases h1:decide (w.1≤last)
  ·rw[h1,cond_false]at hv
   rw[cond_false,cond_false]
   cases h2:decide (w.1≥size)
   ·rw[h2,cond_false]at hv
    rw[cond_false,cond_false]
    cases h3:((List.length w.2.1:Nat):Int) !=n
    ·rw[h3,cond_false]at hv
     have h3':((List.length w.2.1:Nat):Int)=n:=by simpa using h3
     rw[cond_false,cond_false,f67_eq hk _ (by omega)]
     cases h4:blank w
     ·rw[h4,cond_false]at hv
      rw[cond_false,cond_false,w64_id (by omega) (by omega),hv]
      exact hn1 q _ (by omega) ⟨i+1,w.1,by omega,rfl,hv⟩
     ·rfl
    ·rfl
   ·rfl
  ·rfl
theorem f47_eq (hk:10000≤k) (s:DT4) (c:DT5) (ws:List DT0) (fs:List DT1) (hm:MB ws fs) (K:Bool→Option α):f47 k (mk s c ws fs) K=K (vmem s c ws fs):=by
 simp only[f47,s47,SumT.leaf,SumT.pre,SumT.seq,SumT.cond,SumT.block,SumT.blockP,SumT.loop,zB,mk,peta]
 have hb1:=hm.hw
 rw[f37_eq hk,f78_eq,f16_eq,f13_eq hk]
 unfold vmem
 cases hs:vshape s
 ·rfl
 rw[Bool.not_true,cond_false,cond_false]
 cases hc:vcode c
 ·rfl
 rw[Bool.not_true,cond_false,cond_false]
 by_cases hf:((fs.length:Nat):Int)>64
 ·rw[decide_eq_true hf]
  rfl
 rw[decide_eq_false hf,cond_false,cond_false]
 have hch:=chips_le hc
 generalize hsz:szOf s=size
 generalize hcn:chips c=n at hch
 refine lp_rule (fun q x=> ∃(i:Nat) (last:Int),i+q=ws.length∧x=(mk s c ws fs,n,size,(i:Int))∧ -1≤last∧(i=0→last= -1)∧(0<i→last=(ws.getD (i-1) zT0).1)∧vws size n (ws.drop i) last=vws size n ws (-1)) ?_ (m:=ws.length) ⟨0, -1,by omega,rfl,Int.le_refl _,fun _=>rfl,fun h=>by omega,rfl⟩ (by omega)
 rintro q x n1 ⟨i,last,hi,rfl,hl1,hl2,hl3,hv⟩ hn1
 rw[←hv]
 cases q with
 | zero=>
  simp only[]
  rw[dge (by omega),cond_false,List.drop_eq_nil_of_le (by omega),vws,Bool.true_and]
  refine lp_rule (fun q x=> ∃(j:Nat),j+q=fs.length∧x=(mk s c ws fs,n,(j:Int))∧vfs s n (fs.take j) (fs.drop j)=vfs s n [] fs) ?_ (m:=fs.length) ⟨0,by omega,rfl,rfl⟩ (by omega)
  rintro q x n2 ⟨j,hj,rfl,hv2⟩ hn2
  rw[←hv2]
  cases q with
  | zero=>
   simp only[]
   rw[dge (by omega),cond_false,List.drop_eq_nil_of_le (by omega)]
   rfl
  | succ q=>
   have hj':j<fs.length:=by omega
   have htk:fs.take (j+1)=fs.take j++[fs.getD j zT1]:=by
    rw[List.take_add_one,List.getElem?_eq_getElem hj',List.getD_eq_getElem?_getD,List.getElem?_eq_getElem hj']
    rfl
   rw[drop_getD zT1 hj',vfs, ←htk]at hv2 ⊢
   simp only[]
   rw[dlt (by omega),cond_true,gd (by omega),Int.toNat_natCast]
   generalize hfj:fs.getD j zT1=f at hv2 ⊢
   cases h1:f.2.2.2.2.2.2.2.2.2.2
   ·rfl
   rw[h1]at hv2
   rw[Bool.not_true,cond_false]at hv2 ⊢
   rw[cond_false,gd (by omega),f49_eq hk s]
   cases h2:vfault s n f
   ·rfl
   rw[h2]at hv2
   rw[Bool.not_true,cond_false]at hv2 ⊢
   rw[cond_false]
   refine lp_rule (fun q x=> ∃(t:Nat),t+q=j∧x=(mk s c ws fs,n,(j:Int),(t:Int))∧(((fs.take j).drop t).any fun x=>eqf f x)=(fs.take j).any fun x=>eqf f x) ?_ (m:=j) ⟨0,by omega,rfl,rfl⟩ (by omega)
   rintro q2 x n3 ⟨t,ht,rfl,hany⟩ hn3
   have hlt:(fs.take j).length=j:=by rw[List.length_take];omega
   cases q2 with
   | zero=>
    rw[List.drop_eq_nil_of_le (by omega),List.any_nil]at hany
    rw[←hany,cond_false]at hv2 ⊢
    simp only[]
    rw[dge (by omega),cond_false,w64_id (by omega) (by omega),hv2]
    exact hn2 q _ (by omega) ⟨j+1,by omega,rfl,hv2⟩
   | succ q2=>
    have htg:(fs.take j).getD t zT1=fs.getD t zT1:=by rw[getD_take,if_pos (by omega)]
    rw[drop_getD zT1 (show t<(fs.take j).length by omega),List.any_cons,htg]at hany
    simp only[]
    rw[dlt (by omega),cond_true,gd (by omega),gd (by omega),Int.toNat_natCast,Int.toNat_natCast,hfj]
    refine Eq.trans (b:=bif eqf f (fs.getD t zT1)then _ else _) rfl ?_
    cases he:eqf f (fs.getD t zT1)
    ·rw[he,Bool.false_or]at hany
     rw[cond_false,w64_id (by omega) (by omega)]
     exact hn3 q2 _ (by omega) ⟨t+1,by omega,rfl,hany⟩
    ·rw[he,Bool.true_or]at hany
     rw[←hany]
     rfl
 | succ q=>
  have hi':i<ws.length:=by omega
  rw[drop_getD zT0 hi',vws]at hv ⊢
  simp only[]
  rw[dlt (by omega),cond_true,gd (by omega),Int.toNat_natCast]
  generalize hwi:ws.getD i zT0=w at hv ⊢
  have hnext:decide (w.1≤last)=false→decide (w.1≥size)=false→(((List.length w.2.1:Nat):Int) !=n)=false→blank w=false→n1 (mk s c ws fs,n,size,w64 ((i:Int)+1))=
    K ((bif decide (w.1≤last)then false else bif decide (w.1≥size)then false else bif ((List.length w.2.1:Nat):Int) !=n then false else bif blank w then false else vws size n (ws.drop (i+1)) w.1)&&vfs s n [] fs):=fun h1 h2 h3 h4=>by
   rw[h1,h2,h3,h4,cond_false,cond_false,cond_false,cond_false]at hv ⊢
   rw[w64_id (by omega) (by omega),hv]
   have h1':=of_decide_eq_false h1
   exact hn1 q _ (by omega) ⟨i+1,w.1,by omega,rfl,by omega,fun h=>by omega,fun _=>by rw[Nat.add_sub_cancel,hwi],hv⟩
  have hK: ∀(b:Bool) (X:Bool),b=true→(K ((bif b then false else X)&&vfs s n [] fs))=K false:=fun b X h=>by rw[h];rfl
  by_cases h0:w.1<0
  ·rw[decide_eq_true h0,hK _ _ (decide_eq_true (by omega))]
   rfl
  rw[decide_eq_false h0,cond_false]
  by_cases h1:w.1≤last
  case pos=>
   rw[hK _ _ (decide_eq_true h1)]
   have hi0:0<i:=by
    rcases Nat.eq_zero_or_pos i with h|h
    ·have:=hl2 h
     omega
    ·exact h
   have hprev:=hl3 hi0
   cases h2:decide (w.1≥size)
   ·rw[cond_false]
    cases h3:((List.length w.2.1:Nat):Int) !=n
    ·have h3':((List.length w.2.1:Nat):Int)=n:=by simpa using h3
     have e1:w64 ((i:Int)-1)=((i-1:Nat):Int):=by
      rw[w64_id (by omega) (by omega)]
      omega
     rw[cond_false,f79_eq hk _ (by omega),decide_eq_true (show(i:Int)>0 by omega),cond_true,e1,gd (by omega),Int.toNat_natCast, ←hprev,decide_eq_true h1]
     cases zer w.2.1
     ·rfl
     ·cases w.2.2<;>rfl
    ·rfl
   ·rfl
  have h1f:decide (w.1≤last)=false:=decide_eq_false h1
  cases h2:decide (w.1≥size)
  case true=>rw[h1f,cond_false];rfl
  rw[cond_false]
  cases h3:((List.length w.2.1:Nat):Int) !=n
  case true=>rw[h1f,cond_false];rfl
  have h3':((List.length w.2.1:Nat):Int)=n:=by simpa using h3
  rw[cond_false,f79_eq hk _ (by omega)]
  have hlast:(bif decide ((i:Int)>0)then(if 0≤w64 ((i:Int)-1)∧w64 ((i:Int)-1)<(ws.length:Int)then(bif decide (w.1≤(ws.getD (w64 ((i:Int)-1)).toNat zT0).1)then K false else n1 (mk s c ws fs,n,size,w64 ((i:Int)+1)))else none)else n1 (mk s c ws fs,n,size,w64 ((i:Int)+1)))=n1 (mk s c ws fs,n,size,w64 ((i:Int)+1)):=by
   by_cases hi0:i=0
   ·rw[decide_eq_false (by omega),cond_false]
   ·have e1:w64 ((i:Int)-1)=((i-1:Nat):Int):=by
     rw[w64_id (by omega) (by omega)]
     omega
    rw[decide_eq_true (by omega),cond_true,e1,gd (by omega),Int.toNat_natCast, ←hl3 (by omega),h1f,cond_false]
  cases hz:zer w.2.1
  ·have hbl:blank w=false:=by
    unfold blank
    rw[hz,Bool.and_false]
   have hh:=hnext h1f h2 h3 hbl
   rw[h1f,h2,h3]at hh
   rw[h1f]
   exact hlast.trans hh
  ·cases hp:w.2.2
   ·have hbl:blank w=true:=by
     unfold blank
     rw[hz,hp]
     rfl
    rw[h1f,hbl]
    rfl
   ·have hbl:blank w=false:=by
     unfold blank
     rw[hz,hp]
     rfl
    have hh:=hnext h1f h2 h3 hbl
    rw[h1f,h2,h3]at hh
    rw[h1f]
    exact hlast.trans hh
end
def Srt (ws:List DT0):Prop:=ws.Pairwise fun a b=>a.1<b.1
def lb (t:Int):List DT0→Nat
 | []=>0
 | w::r=>if w.1<t then lb t r+1 else 0
theorem lb_le (t:Int): ∀ws:List DT0,lb t ws≤ws.length
 | []=>Nat.le_refl _
 | w::r=>by
  rw[lb]
  have:=lb_le t r
  split
  ·simp
   omega
  ·simp
theorem lb_lt {t:Int}: ∀{ws:List DT0} {i:Nat},i<lb t ws→(ws.getD i zT0).1<t
 | [],i,h=>absurd h (Nat.not_lt_zero _)
 | w::r,i,h=>by
  rw[lb]at h
  split at h
  ·cases i with
   | zero=>assumption
   | succ i=>exact lb_lt (ws:=r) (by omega)
  ·omega
theorem lb_ge {t:Int}: ∀{ws:List DT0} {i:Nat},Srt ws→lb t ws≤i→i<ws.length→t≤(ws.getD i zT0).1
 | [],i,_,_,h=>absurd h (Nat.not_lt_zero _)
 | w::r,i,hs,h,hi=>by
  rw[lb]at h
  have hs':=List.pairwise_cons.1 hs
  simp only[List.length_cons]at hi
  split at h
  ·cases i with
   | zero=>omega
   | succ i=>exact lb_ge (ws:=r) hs'.2 (by omega) (by omega)
  ·rename_i hw
   cases i with
   | zero=>exact Int.not_lt.1 hw
   | succ i=>
    have:=hs'.1 _ (getD_mem zT0 (show i<r.length by omega))
    show t≤(r.getD i zT0).1
    omega
theorem lb_uniq {t:Int} {ws:List DT0} {i:Nat} (hs:Srt ws) (hi:i≤ws.length) (h1: ∀p,p<i→(ws.getD p zT0).1<t) (h2: ∀p,i≤p→p<ws.length→t≤(ws.getD p zT0).1):i=lb t ws:=by
 have hl:=lb_le t ws
 rcases Nat.lt_trichotomy i (lb t ws)with h|h|h
 ·have:=lb_lt h
  have:=h2 i (Nat.le_refl _) (by omega)
  omega
 ·exact h
 ·have:=h1 _ h
  have:=lb_ge hs (Nat.le_refl (lb t ws)) (by omega)
  omega
def fnd (t:Int) (ws:List DT0):Bool:=decide (lb t ws<ws.length)&&(ws.getD (lb t ws) zT0).1==t
def lkW (t:Int) (n:Nat) (ws:List DT0):DT0:=bif fnd t ws then ws.getD (lb t ws) zT0 else(t,List.replicate n 0,false)
def putW (ws:List DT0) (w:DT0):List DT0:=
 bif fnd w.1 ws then(bif blank w then ws.take (lb w.1 ws)++ws.drop (lb w.1 ws+1)else ws.set (lb w.1 ws) w)else(bif blank w then ws else ws.take (lb w.1 ws)++w::ws.drop (lb w.1 ws))
section
variable {α:Type} {k:Nat}
theorem f140_eq (w:DT0) (t:Int) (K:Int→Option α):f140 k w t K=K (if w.1<t then-1 else if w.1>t then 1 else 0):=by
 simp only[f140,s140,SumT.leaf,SumT.pre,SumT.seq,SumT.cond,SumT.block,SumT.blockP,SumT.loop,zB]
 simp only[f141,s141,SumT.leaf,SumT.pre,SumT.seq,SumT.cond,SumT.block,SumT.blockP,SumT.loop,zB]
 simp only[f169,s169,SumT.leaf,SumT.pre,SumT.seq,SumT.cond,SumT.block,SumT.blockP,SumT.loop,zB]
 cases hx:(w.1 !=w.1)
 ·cases hy:(t !=t)
  ·simp only[cond_false]
   by_cases h1:w.1<t
   ·rw[decide_eq_true h1,if_pos h1]
    rfl
   ·rw[decide_eq_false h1,if_neg h1,cond_false]
    by_cases h2:w.1>t
    ·rw[decide_eq_true h2,if_pos h2]
     rfl
    ·rw[decide_eq_false h2,if_neg h2]
     rfl
  ·simp at hy
 ·simp at hx
theorem f115_eq (hk:10000≤k) (s:DT4) (c:DT5) (ws:List DT0) (fs:List DT1) (t:Int) (hs:Srt ws) (hl:ws.length≤5000) (K:Int→Bool→Option α):f115 k (mk s c ws fs) t K=K (lb t ws:Int) (fnd t ws):=by
 simp only[f115,s115,SumT.leaf,SumT.pre,SumT.seq,SumT.cond,SumT.block,SumT.blockP,SumT.loop,zB,mk,peta]
 simp only[f139_140,s139_140,SumT.leaf,SumT.pre,SumT.seq,SumT.cond,SumT.block,SumT.blockP,SumT.loop,zB]
 refine lp_rule (fun m x=> ∃i j:Nat,j≤i+m∧i≤j∧j≤ws.length∧x=(ws,t,(ws.length:Int),(i:Int),(j:Int))∧(∀p,p<i→(ws.getD p zT0).1<t)∧(∀p,j≤p→p<ws.length→t≤(ws.getD p zT0).1)) ?_ (m:=ws.length)
  ⟨0,ws.length,by omega,by omega,Nat.le_refl _,rfl,fun p h=>by omega,fun p h1 h2=>by omega⟩ (by omega)
 rintro m x n ⟨i,j,hm,hij,hj,rfl,h1,h2⟩ hn
 by_cases hlt:i<j
 ·have e:w64 (Int.fdiv (wu64 (w64 ((i:Int)+(j:Int)))) (2^1))=(((i+j)/2:Nat):Int):=by
   rw[show w64 ((i:Int)+(j:Int))=((i+j:Nat):Int)from w64_id (by omega) (by omega),wu64_id (by omega) (by omega),Int.fdiv_eq_ediv_of_nonneg _ (by omega),w64_id (by omega) (by omega)]
   omega
  simp only[e]
  rw[dlt (by omega),cond_true,gd (by omega),f140_eq,Int.toNat_natCast]
  generalize hh:(i+j)/2=h
  have hi1:i≤h:=by omega
  have hj1:h<j:=by omega
  by_cases hw:(ws.getD h zT0).1<t
  ·rw[if_pos hw,dlt (by omega),cond_true,w64_id (by omega) (by omega)]
   refine hn (m-1) _ (by omega) ⟨h+1,j,by omega,by omega,hj,rfl,fun p hp=>?_,h2⟩
   by_cases e2:p=h
   ·rw[e2];exact hw
   ·
    rcases Nat.lt_or_ge p i with h3|h3
    ·exact h1 p h3
    ·have:=List.pairwise_iff_getElem.1 hs p h (by omega) (by omega) (by omega)
     rw[show ws[p].1=(ws.getD p zT0).1 by rw[List.getD_eq_getElem?_getD,List.getElem?_eq_getElem (by omega)];rfl,show ws[h].1=(ws.getD h zT0).1 by rw[List.getD_eq_getElem?_getD,List.getElem?_eq_getElem (by omega)];rfl]at this
     omega
  ·have hge: ¬(if(ws.getD h zT0).1<t then(-1:Int)else if(ws.getD h zT0).1>t then 1 else 0)<0:=by
    rw[if_neg hw]
    split<;>omega
   rw[dge hge,cond_false]
   refine hn (m-1) _ (by omega) ⟨i,h,by omega,by omega,by omega,rfl,h1,fun p hp1 hp2=>?_⟩
   by_cases e2:p=h
   ·rw[e2];omega
   ·have:=List.pairwise_iff_getElem.1 hs h p (by omega) (by omega) (by omega)
    rw[show ws[p].1=(ws.getD p zT0).1 by rw[List.getD_eq_getElem?_getD,List.getElem?_eq_getElem (by omega)];rfl,show ws[h].1=(ws.getD h zT0).1 by rw[List.getD_eq_getElem?_getD,List.getElem?_eq_getElem (by omega)];rfl]at this
    omega
 ·obtain rfl:i=j:=by omega
  have hlb:=lb_uniq hs hj h1 h2
  subst hlb
  simp only[]
  rw[dge (by omega),cond_false]
  unfold fnd
  by_cases h3:lb t ws<ws.length
  ·rw[dlt (by omega),cond_true,gd (by omega),f140_eq,Int.toNat_natCast,decide_eq_true h3,Bool.true_and]
   have h4:=h2 _ (Nat.le_refl _) h3
   congr 1
   by_cases h5:(ws.getD (lb t ws) zT0).1=t
   ·rw[h5,if_neg (by omega),if_neg (by omega)]
    simp
   ·rw[if_neg (by omega),if_pos (by omega),show((ws.getD (lb t ws) zT0).1==t)=false from beq_eq_false_iff_ne.2 h5]
    rfl
  ·rw[dge (by omega),cond_false,decide_eq_false h3]
   rfl
theorem f100_eq (hk:10000≤k) (s:DT4) (c:DT5) (ws:List DT0) (fs:List DT1) (t:Int) (hs:Srt ws) (hm:MB ws fs) (hc:vcode c=true) (K:DT0→Option α):f100 k (mk s c ws fs) t K=K (lkW t (chips c).toNat ws):=by
 simp only[f100,s100,SumT.leaf,SumT.pre,SumT.seq,SumT.cond,SumT.block,SumT.blockP,SumT.loop,zB]
 rw[f115_eq hk s c ws fs t hs hm.hw]
 have hch:=chips_le hc
 unfold lkW
 simp only[mk,peta]
 cases hf:fnd t ws
 ·rw[Bool.not_false,cond_true,f66_eq,gd (by unfold room;omega)]
  rfl
 ·unfold fnd at hf
  simp only[Bool.and_eq_true,decide_eq_true_eq]at hf
  rw[Bool.not_true,cond_false,gd (by omega),Int.toNat_natCast]
  simp only[cloneF]
  have:=hm.hs _ (getD_mem zT0 hf.1)
  rw[gd (by omega)]
  rfl
theorem f51_eq (hk:10000≤k) (s:DT4) (c:DT5) (ws:List DT0) (fs:List DT1) (t:Int) (hs:Srt ws) (hm:MB ws fs) (hc:vcode c=true) (K:DT0→Option α):f51 k (mk s c ws fs) t K=K (lkW t (chips c).toNat ws):=by
 simp only[f51,s51,SumT.leaf,SumT.pre,SumT.seq,SumT.cond,SumT.block,SumT.blockP,SumT.loop,zB,mk,peta]
 have hch:=chips_le hc
 have hl:=hm.hw
 refine lp_rule (fun m x=> ∃i:Nat,i+m=ws.length∧x=(t,mk s c ws fs,zT0,(i:Int))∧ ∀p,p<i→(ws.getD p zT0).1≠t) ?_ (m:=ws.length) ⟨0,by omega,rfl,fun p h=>by omega⟩ (by omega)
 rintro m x n ⟨i,hi,rfl,hne⟩ hn
 cases m with
 | zero=>
  have hf:fnd t ws=false:=by
   unfold fnd
   rw[Bool.and_eq_false_iff,decide_eq_false_iff_not]
   by_cases h:lb t ws<ws.length
   ·exact .inr (beq_eq_false_iff_ne.2 (hne _ (by omega)))
   ·exact .inl h
  simp only[]
  rw[dge (by omega),cond_false]
  rw[f16_eq,show chips (c.1,c.2.1,c.2.2.1,c.2.2.2)=chips c from rfl,gd (by unfold room;omega)]
  unfold lkW
  rw[hf]
  rfl
 | succ m=>
  simp only[]
  rw[dlt (by omega),cond_true,gd (by omega),Int.toNat_natCast]
  have hsy:=hm.hs _ (getD_mem zT0 (show i<ws.length by omega))
  by_cases he:(ws.getD i zT0).1=t
  ·have hlb:i=lb t ws:=lb_uniq hs (by omega) (fun p hp=>by
    have:=List.pairwise_iff_getElem.1 hs p i (by omega) (by omega) hp
    rw[show ws[p].1=(ws.getD p zT0).1 by rw[List.getD_eq_getElem?_getD,List.getElem?_eq_getElem (by omega)];rfl,show ws[i].1=(ws.getD i zT0).1 by rw[List.getD_eq_getElem?_getD,List.getElem?_eq_getElem (by omega)];rfl]at this
    omega) (fun p hp1 hp2=>by
    by_cases e2:p=i
    ·rw[e2];omega
    ·have:=List.pairwise_iff_getElem.1 hs i p (by omega) (by omega) (by omega)
     rw[show ws[p].1=(ws.getD p zT0).1 by rw[List.getD_eq_getElem?_getD,List.getElem?_eq_getElem (by omega)];rfl,show ws[i].1=(ws.getD i zT0).1 by rw[List.getD_eq_getElem?_getD,List.getElem?_eq_getElem (by omega)];rfl]at this
     omega)
   rw[he,beq_self_eq_true,cond_true,gd (by omega),gd (by omega)]
   unfold lkW fnd
   rw[←hlb,decide_eq_true (by omega),he,beq_self_eq_true]
   rfl
  ·rw[beq_eq_false_iff_ne.2 he,cond_false,w64_id (by omega) (by omega)]
   refine hn m _ (by omega) ⟨i+1,by omega,rfl,fun p hp=>?_⟩
   by_cases e2:p=i
   ·rw[e2];exact he
   ·exact hne p (by omega)
theorem f99w_eq (hk:10000≤k) (s:DT4) (c:DT5) (ws:List DT0) (fs:List DT1) (w:DT0) (hs:Srt ws) (hl:ws.length≤5000) (hw:List.length w.2.1<1000) (K:DT2→Option α):f99w k (mk s c ws fs) w K=K (mk s c (putW ws w) fs):=by
 simp only[f99w,s99w,SumT.leaf,SumT.pre,SumT.seq,SumT.cond,SumT.block,SumT.blockP,SumT.loop,zB]
 rw[f115_eq hk s c ws fs w.1 hs hl]
 have hlb:=lb_le w.1 ws
 have e1:w64 ((lb w.1 ws:Int)+1)=((lb w.1 ws+1:Nat):Int):=w64_id (by omega) (by omega)
 unfold putW
 simp only[mk,peta,e1]
 cases hf:fnd w.1 ws
 ·simp only[cond_false]
  rw[f67_eq hk w hw]
  cases hb:blank w
  ·rw[Bool.not_false,cond_true]
   unfold insertF
   rw[gd (by simp;unfold room;omega),Int.toNat_natCast,cond_false,List.append_assoc]
   rfl
  ·rfl
 ·have hf':=hf
  unfold fnd at hf'
  simp only[Bool.and_eq_true,decide_eq_true_eq]at hf'
  simp only[cond_true]
  rw[f67_eq hk w hw]
  cases hb:blank w
  ·rw[cond_false,gd (by omega),Int.toNat_natCast,cond_false]
  ·rw[cond_true,cond_true]
   unfold deleteF
   rw[gd (by omega),Int.toNat_natCast,Int.toNat_natCast]
end
def skp (t:Int) (ws:List DT0):Nat:=lb t ws+bif fnd t ws then 1 else 0
def nb (w:DT0):List DT0:=bif blank w then []else [w]
theorem putW_eq (ws:List DT0) (w:DT0):putW ws w=ws.take (lb w.1 ws)++nb w++ws.drop (skp w.1 ws):=by
 unfold putW skp nb
 cases hf:fnd w.1 ws
 ·rw[cond_false,cond_false,Nat.add_zero]
  cases blank w
  ·simp
  ·simp
 ·have hf':=hf
  unfold fnd at hf'
  simp only[Bool.and_eq_true,decide_eq_true_eq]at hf'
  rw[cond_true,cond_true]
  cases blank w
  ·rw[cond_false,cond_false,List.set_eq_take_append_cons_drop,if_pos hf'.1]
   simp
  ·simp
theorem skp_le (t:Int) (ws:List DT0):lb t ws≤skp t ws∧skp t ws≤lb t ws+1∧skp t ws≤ws.length:=by
 unfold skp
 have:=lb_le t ws
 cases hf:fnd t ws
 ·simp
  omega
 ·unfold fnd at hf
  simp only[Bool.and_eq_true,decide_eq_true_eq]at hf
  simp
  omega
section
variable {α:Type} {k:Nat}
theorem f52_eq (hk:10000≤k) (s:DT4) (c:DT5) (ws:List DT0) (fs:List DT1) (w:DT0) (hs:Srt ws) (hm:MB ws fs) (hw:List.length w.2.1<1000) (K:DT2→Option α):f52 k (mk s c ws fs) w K=K (mk s c (putW ws w) fs):=by
 simp only[f52,s52,SumT.leaf,SumT.pre,SumT.seq,SumT.cond,SumT.block,SumT.blockP,SumT.loop,zB]
 rw[f48_eq hk s c ws fs hm,gd (by unfold room;omega)]
 have hl:=hm.hw
 have hlb:=lb_le w.1 ws
 obtain⟨hs1,hs2,hs3⟩:=skp_le w.1 ws
 refine lp_rule (fun m x=> ∃i:Nat,i+m=ws.length+1∧x=(mk s c ws fs,w,zT2,bif decide (i≤lb w.1 ws)then ws.take i else ws.take (lb w.1 ws)++nb w++(ws.drop (skp w.1 ws)).take (i-skp w.1 ws),!decide (i≤lb w.1 ws),(i:Int))) ?_ (m:=ws.length+1) ⟨0,by omega,?_⟩ (by omega)
 ·rintro m x n ⟨i,hi,rfl⟩ hn
  cases m with
  | zero=>
   simp only[]
   rw[dgt (by omega),cond_false,decide_eq_false (by omega),cond_false,putW_eq,List.take_of_length_le (l:=ws.drop (skp w.1 ws)) (by rw[List.length_drop];omega)]
  | succ m=>
   simp only[mk]
   rw[dle (by omega),cond_true]
   have hnb: ∀(out:List DT0) (A:List DT0→Option α),out.length≤5002→(bif w.2.2 then(if(out.length+[w].length)*40≤room then A (out++[w])else none)else f79 k w.2.1 fun t=>bif !t then(if(out.length+[w].length)*40≤room then A (out++[w])else none)else A out)=A (out++nb w):=fun out A ho=>by
    rw[gd (by simp;unfold room;omega)]
    unfold nb blank
    cases hp:w.2.2
    ·rw[cond_false,f79_eq hk _ hw]
     cases zer w.2.1<;>simp
    ·rw[cond_true,Bool.not_true,Bool.false_and,cond_false]
   by_cases h1:i<lb w.1 ws
   ·have hlt:=lb_lt h1
    rw[decide_eq_true (show i≤lb w.1 ws by omega),Bool.not_true,Bool.not_false]
    simp only[cond_true]
    rw[show((i:Int)==(ws.length:Int))=false from beq_eq_false_iff_ne.2 (by omega),cond_false,gd (by omega),Int.toNat_natCast,show decide ((ws.getD i zT0).1≥w.1)=false from decide_eq_false (by omega)]
    simp only[cond_false]
    rw[dlt (by omega),cond_true,gd (by omega),bne_iff_ne.2 (show(ws.getD i zT0).1≠w.1 by omega),cond_true,gd (by omega),gd (by rw[List.length_take];simp;unfold room;omega),w64_id (by omega) (by omega)]
    refine hn m _ (by omega) ⟨i+1,by omega,?_⟩
    rw[decide_eq_true (show i+1≤lb w.1 ws by omega),cond_true,List.take_add_one,List.getElem?_eq_getElem (show i<ws.length by omega),List.getD_eq_getElem?_getD,List.getElem?_eq_getElem (show i<ws.length by omega)]
    rfl
   ·by_cases h2:i=lb w.1 ws
    ·rw[decide_eq_true (show i≤lb w.1 ws by omega),Bool.not_true,Bool.not_false]
     simp only[cond_true]
     rw[Int.toNat_natCast]
     have hin:i≠ws.length→decide ((ws.getD i zT0).1≥w.1)=true:=fun h=>decide_eq_true (lb_ge hs (Nat.le_of_eq h2.symm) (show i<ws.length by omega))
     by_cases h6:i=ws.length
     all_goals
      first
       | rw[show((i:Int)==(ws.length:Int))=true from beq_iff_eq.2 (congrArg Nat.cast h6),cond_true]
       | rw[show((i:Int)==(ws.length:Int))=false from beq_eq_false_iff_ne.2 (by omega),cond_false,gd (by omega),hin h6,cond_true]
      refine(hnb (ws.take i) (fun out=>bif decide ((i:Int)<(ws.length:Int))then(if 0≤(i:Int)∧(i:Int)<(ws.length:Int)then(bif (ws.getD i zT0).1 !=w.1 then(if 0≤(i:Int)∧(i:Int)<(ws.length:Int)then(if(out.length+[ws.getD i zT0].length)*40≤room then n (mk s c ws fs,w,zT2,out++[ws.getD i zT0],true,w64 ((i:Int)+1))else none)else none)else n (mk s c ws fs,w,zT2,out,true,w64 ((i:Int)+1)))else none)else n (mk s c ws fs,w,zT2,out,true,w64 ((i:Int)+1))) (by rw[List.length_take];omega)).trans ?_
      have hnext: ∀out,out=ws.take (lb w.1 ws)++nb w++(ws.drop (skp w.1 ws)).take (i+1-skp w.1 ws)→n (mk s c ws fs,w,zT2,out,true,w64 ((i:Int)+1))=K (mk s c (putW ws w) fs):=fun out ho=>by
       rw[w64_id (by omega) (by omega)]
       refine hn m _ (by omega) ⟨i+1,by omega,?_⟩
       rw[decide_eq_false (show¬i+1≤lb w.1 ws by omega),cond_false,ho]
       rfl
      by_cases h3:i<ws.length
      ·rw[dlt (by omega),cond_true,gd (by omega)]
       by_cases h4:(ws.getD i zT0).1=w.1
       ·have hfn:fnd w.1 ws=true:=by
         unfold fnd
         rw[←h2,decide_eq_true h3,h4,beq_self_eq_true]
         rfl
        have hsk:skp w.1 ws=i+1:=by
         unfold skp
         rw[hfn, ←h2]
         rfl
        rw[h4,show(w.1 !=w.1)=false by simp,cond_false]
        refine hnext _ ?_
        rw[hsk,Nat.sub_self,List.take_zero,List.append_nil,h2]
       ·have hfn:fnd w.1 ws=false:=by
         unfold fnd
         rw[←h2,beq_eq_false_iff_ne.2 h4,Bool.and_false]
        have hsk:skp w.1 ws=i:=by
         unfold skp
         rw[hfn, ←h2]
         rfl
        have hnbl:(nb w).length≤1:=by
         unfold nb
         cases blank w<;>simp
        rw[bne_iff_ne.2 h4,cond_true,gd (by omega),gd (by simp only[List.length_append,List.length_take,List.length_cons,List.length_nil];unfold room;omega)]
        refine hnext _ ?_
        rw[hsk,Nat.add_sub_cancel_left,drop_getD zT0 h3,List.take_succ_cons,List.take_zero,h2]
      ·have hfn:fnd w.1 ws=false:=by
        unfold fnd
        rw[←h2,decide_eq_false h3,Bool.false_and]
       have hsk:skp w.1 ws=i:=by
        unfold skp
        rw[hfn, ←h2]
        rfl
       rw[dge (by omega),cond_false]
       refine hnext _ ?_
       rw[hsk,List.drop_eq_nil_of_le (by omega),List.take_nil,List.append_nil,h2]
    ·rw[decide_eq_false (show¬i≤lb w.1 ws by omega),Bool.not_false,Bool.not_true,cond_false,cond_false]
     simp only[cond_false]
     have hnbl:(nb w).length≤1:=by
      unfold nb
      cases blank w<;>simp
     rw[w64_id (by omega) (by omega)]
     have hnext: ∀out,out=ws.take (lb w.1 ws)++nb w++(ws.drop (skp w.1 ws)).take (i+1-skp w.1 ws)→n (mk s c ws fs,w,zT2,out,true,(i:Int)+1)=K (mk s c (putW ws w) fs):=fun out ho=>by
      refine hn m _ (by omega) ⟨i+1,by omega,?_⟩
      rw[decide_eq_false (show¬i+1≤lb w.1 ws by omega),cond_false,ho]
      rfl
     by_cases h3:i<ws.length
     ·have hge:=lb_ge hs (show lb w.1 ws≤i by omega) h3
      have hgt:(ws.getD i zT0).1≠w.1:=by
       have h5:=lb_ge hs (Nat.le_refl (lb w.1 ws)) (by omega)
       have:=List.pairwise_iff_getElem.1 hs (lb w.1 ws) i (by omega) (by omega) (by omega)
       rw[show ws[lb w.1 ws].1=(ws.getD (lb w.1 ws) zT0).1 by rw[List.getD_eq_getElem?_getD,List.getElem?_eq_getElem (by omega)];rfl,show ws[i].1=(ws.getD i zT0).1 by rw[List.getD_eq_getElem?_getD,List.getElem?_eq_getElem (by omega)];rfl]at this
       omega
      rw[dlt (by omega),cond_true,gd (by omega),Int.toNat_natCast,bne_iff_ne.2 hgt,cond_true,gd (by omega),gd (by simp only[List.length_append,List.length_take,List.length_cons,List.length_nil,List.length_drop];unfold room;omega)]
      refine hnext _ ?_
      have e:i+1-skp w.1 ws=(i-skp w.1 ws)+1:=by omega
      have hg:(ws.drop (skp w.1 ws))[i-skp w.1 ws]?=some (ws.getD i zT0):=by
       rw[List.getElem?_drop,show skp w.1 ws+(i-skp w.1 ws)=i by omega,List.getElem?_eq_getElem h3,List.getD_eq_getElem?_getD,List.getElem?_eq_getElem h3]
       rfl
      rw[e,List.take_add_one,hg,List.append_assoc,List.append_assoc,List.append_assoc]
      rfl
     ·rw[dge (by omega),cond_false]
      refine hnext _ ?_
      rw[List.take_of_length_le (l:=ws.drop (skp w.1 ws)) (i:=i-skp w.1 ws) (by rw[List.length_drop];omega),List.take_of_length_le (l:=ws.drop (skp w.1 ws)) (i:=i+1-skp w.1 ws) (by rw[List.length_drop];omega)]
 ·rw[decide_eq_true (Nat.zero_le _)]
  rfl
end
def Byt (l:List Int):Prop:= ∀x∈l,0≤x∧x<256
theorem Byt.set {l:List Int} (h:Byt l) (i:Nat) {x:Int} (hx:0≤x∧x<256):Byt (l.set i x):=fun y hy=>by
 rcases List.mem_or_eq_of_mem_set hy with h1|rfl
 ·exact h y h1
 ·exact hx
theorem Byt.bs (l:List F8):Byt (bs l):=fun x hx=>by
 obtain⟨a,_,rfl⟩:=List.mem_map.1 hx
 exact⟨ofG_nn a,ofG_lt a⟩
theorem Byt.rep (n:Nat):Byt (List.replicate n 0):=fun x hx=>by
 rw[(List.mem_replicate.1 hx).2]
 omega
theorem or_byt (x y:Int):0≤bitI .or .u8 x y∧bitI .or .u8 x y<256:=by
 have h: ∀z:Int,0≤w8 z∧w8 z<256:=fun z=>by
  simp only[w8,IntKind.wrap,IntKind.bits,IntKind.signed]
  simp
  omega
 exact h _
theorem xor_byt (x y:Int):0≤bitI .xor .u8 x y∧bitI .xor .u8 x y<256:=by
 have h: ∀z:Int,0≤w8 z∧w8 z<256:=fun z=>by
  simp only[w8,IntKind.wrap,IntKind.bits,IntKind.signed]
  simp
  omega
 exact h _
theorem vws_iff {size n:Int}: ∀{ws:List DT0} {last:Int},vws size n ws last=true↔(∀w∈ws,last<w.1∧w.1<size∧((List.length w.2.1:Nat):Int)=n∧blank w=false)∧Srt ws
 | [],last=>⟨fun _=>⟨fun w hw=>(by cases hw),List.Pairwise.nil⟩,fun _=>rfl⟩
 | w::ws,last=>by
  rw[vws]
  constructor
  ·intro h
   cases h1:decide (w.1≤last)<;>rw[h1]at h
   case true=>cases h
   cases h2:decide (w.1≥size)<;>rw[h2]at h
   case true=>cases h
   cases h3:(((List.length w.2.1:Nat):Int) !=n)<;>rw[h3]at h
   case true=>cases h
   cases h4:blank w<;>rw[h4]at h
   case true=>cases h
   simp only[cond_false]at h
   have h1:=of_decide_eq_false h1
   have h2:=of_decide_eq_false h2
   have h3:((List.length w.2.1:Nat):Int)=n:=by simpa using h3
   obtain⟨h5,h6⟩:=vws_iff.1 h
   refine⟨fun v hv=>?_,List.pairwise_cons.2 ⟨fun v hv=>(h5 v hv).1,h6⟩⟩
   rcases List.mem_cons.1 hv with rfl|hv
   ·exact⟨by omega,by omega,h3,h4⟩
   ·have:=h5 v hv
    exact⟨by omega,this.2⟩
  ·rintro ⟨h1,h2⟩
   obtain⟨h3,h4⟩:=List.pairwise_cons.1 h2
   obtain⟨a1,a2,a3,a4⟩:=h1 w (by simp)
   rw[decide_eq_false (by omega),decide_eq_false (by omega),a3,a4,show(n !=n)=false by simp]
   exact vws_iff.2 ⟨fun v hv=>⟨h3 v hv,(h1 v (by simp[hv])).2⟩,h4⟩
theorem vfs_all {s:DT4} {n:Int}: ∀{fs pre:List DT1},vfs s n pre fs=true→ ∀f∈fs,vfault s n f=true
 | f::r,pre,h,g,hg=>by
  rw[vfs]at h
  cases h1:f.2.2.2.2.2.2.2.2.2.2<;>rw[h1]at h
  case false=>cases h
  cases h2:vfault s n f<;>rw[h2]at h
  case false=>cases h
  cases h3:pre.any (fun x=>eqf f x)<;>rw[h3]at h
  case true=>cases h
  rcases List.mem_cons.1 hg with rfl|hg
  ·exact h2
  ·exact vfs_all h g hg
abbrev chipOf (f:DT1):Int:=f.2.2.2.2.2.2.2.1
theorem vfault_chip {s:DT4} {n:Int} {f:DT1} (h:vfault s n f=true):0≤chipOf f∧chipOf f<n:=by
 unfold vfault vend at h
 simp only[Bool.and_eq_true,decide_eq_true_eq]at h
 exact⟨h.2.2.2.1,h.2.2.2.2.1⟩
structure VM (s:DT4) (c:DT5) (ws:List DT0) (fs:List DT1):Prop where
 sh:vshape s=true
 cd:vcode c=true
 fl:fs.length≤64
 ok: ∀w∈ws,0≤w.1∧w.1<szOf s∧((List.length w.2.1:Nat):Int)=chips c∧blank w=false∧Byt w.2.1
 so:Srt ws
 ft:vfs s (chips c) [] fs=true
theorem vm_of {s:DT4} {c:DT5} {ws:List DT0} {fs:List DT1} (h:vmem s c ws fs=true) (hb: ∀w∈ws,Byt w.2.1):VM s c ws fs:=by
 unfold vmem at h
 cases h1:vshape s<;>rw[h1]at h
 case false=>cases h
 cases h2:vcode c<;>rw[h2]at h
 case false=>cases h
 cases h3:decide (((fs.length:Nat):Int)>64)<;>rw[h3]at h
 case true=>cases h
 simp only[Bool.not_true,cond_false,Bool.and_eq_true]at h
 have h3:=of_decide_eq_false h3
 obtain⟨h4,h5⟩:=vws_iff.1 h.1
 exact⟨h1,h2,by omega,fun w hw=>by
  obtain⟨a1,a2,a3,a4⟩:=h4 w hw
  exact⟨by omega,a2,a3,a4,hb w hw⟩,h5,h.2⟩
section
variable {s:DT4} {c:DT5} {ws:List DT0} {fs:List DT1}
theorem VM.mem (h:VM s c ws fs):vmem s c ws fs=true:=by
 unfold vmem
 rw[h.sh,h.cd,decide_eq_false (by have:=h.fl;omega),h.ft,vws_iff.2 ⟨fun w hw=>?_,h.so⟩]
 ·rfl
 ·obtain⟨a1,a2,a3,a4,_⟩:=h.ok w hw
  exact⟨by omega,a2,a3,a4⟩
theorem srt_len: ∀{ws:List DT0} {N lo:Int},Srt ws→(∀w∈ws,lo≤w.1∧w.1<N)→lo≤N→(ws.length:Int)≤N-lo
 | [],N,lo,_,_,h=>by simp;omega
 | w::ws,N,lo,hs,hb,h=>by
  obtain⟨h1,h2⟩:=List.pairwise_cons.1 hs
  have h3:=hb w (by simp)
  have:=srt_len (ws:=ws) (N:=N) (lo:=w.1+1) h2 (fun v hv=>by
   have:=h1 v hv
   have:=hb v (by simp[hv])
   omega) (by omega)
  simp only[List.length_cons]
  omega
theorem VM.mb (h:VM s c ws fs):MB ws fs:=by
 have hsz:=szOf_le s
 have h1:=srt_len (N:=szOf s) (lo:=0) h.so (fun w hw=>⟨(h.ok w hw).1,(h.ok w hw).2.1⟩) hsz.1
 have hch:=chips_le h.cd
 refine⟨by omega,by have:=h.fl;omega,fun w hw=>?_⟩
 have:=(h.ok w hw).2.2.1
 unfold room
 omega
theorem mem_take_drop {w v:DT0} (h:v∈putW ws w):v∈ws∨v=w∧blank w=false:=by
 rw[putW_eq]at h
 rcases List.mem_append.1 h with h|h
 ·rcases List.mem_append.1 h with h|h
  ·exact .inl (List.mem_of_mem_take h)
  ·unfold nb at h
   cases hb:blank w
   ·rw[hb,cond_false,List.mem_singleton]at h
    exact .inr ⟨h,rfl⟩
   ·rw[hb]at h
    cases h
 ·exact .inl (List.mem_of_mem_drop h)
theorem cut_lt {ws:List DT0} (hs:Srt ws) (t:Int):(∀a∈ws.take (lb t ws),a.1<t)∧ ∀b∈ws.drop (skp t ws),t<b.1:=by
 refine⟨fun a ha=>?_,fun b hb=>?_⟩
 ·obtain⟨i,hi,rfl⟩:=List.mem_iff_getElem.1 ha
  have hi2:i<lb t ws:=by rw[List.length_take]at hi;omega
  have:=lb_lt hi2
  rw[List.getElem_take]
  rwa[List.getD_eq_getElem?_getD,List.getElem?_eq_getElem (by have:=lb_le t ws;omega)]at this
 obtain⟨k1,k2,k3⟩:=skp_le t ws
 obtain⟨i,hi,rfl⟩:=List.mem_iff_getElem.1 hb
 rw[List.length_drop]at hi
 rw[List.getElem_drop]
 have hge:=lb_ge hs (show lb t ws≤skp t ws+i by omega) (by omega)
 have e:(ws.getD (skp t ws+i) zT0).1=ws[skp t ws+i].1:=by
  rw[List.getD_eq_getElem?_getD,List.getElem?_eq_getElem (by omega)]
  rfl
 rw[e]at hge
 by_cases h0:lb t ws=skp t ws+i
 ·
  have hf:fnd t ws=false:=by
   unfold skp at h0 k1
   cases h:fnd t ws
   ·rfl
   ·rw[h]at h0
    simp at h0
    omega
  unfold fnd at hf
  rw[decide_eq_true (show lb t ws<ws.length by omega),Bool.true_and,beq_eq_false_iff_ne,h0,e]at hf
  omega
 ·have h3:=lb_ge hs (Nat.le_refl (lb t ws)) (by omega)
  have h4:=List.pairwise_iff_getElem.1 hs (lb t ws) (skp t ws+i) (by omega) (by omega) (by omega)
  rw[List.getD_eq_getElem?_getD,List.getElem?_eq_getElem (show lb t ws<ws.length by omega)]at h3
  have h3:t≤ws[lb t ws].1:=h3
  omega
theorem putW_srt {w:DT0} (hs:Srt ws):Srt (putW ws w):=by
 rw[putW_eq]
 have h1:Srt (ws.take (lb w.1 ws)):=hs.sublist (List.take_sublist _ _)
 have h2:Srt (ws.drop (skp w.1 ws)):=hs.sublist (List.drop_sublist _ _)
 obtain⟨ht,hd⟩:=cut_lt hs w.1
 have hnb: ∀b∈nb w,b=w:=fun b hb=>by
  unfold nb at hb
  cases h:blank w<;>rw[h]at hb
  ·simpa using hb
  ·cases hb
 refine List.pairwise_append.2 ⟨List.pairwise_append.2 ⟨h1,?_,fun a ha b hb=>?_⟩,h2,fun a ha b hb=>?_⟩
 ·unfold nb
  cases blank w
  ·exact List.pairwise_singleton _ _
  ·exact List.Pairwise.nil
 ·rw[hnb b hb]
  exact ht a ha
 ·have h5:=hd b hb
  rcases List.mem_append.1 ha with h|h
  ·have:=ht a h
   omega
  ·rw[hnb a h]
   exact h5
theorem VM.put (h:VM s c ws fs) {w:DT0} (h0:0≤w.1) (h1:w.1<szOf s) (h2:((List.length w.2.1:Nat):Int)=chips c) (h3:Byt w.2.1):VM s c (putW ws w) fs:=
 ⟨h.sh,h.cd,h.fl,fun v hv=>by
  rcases mem_take_drop hv with hv|⟨rfl,hb⟩
  ·exact h.ok v hv
  ·exact⟨h0,h1,h2,hb,h3⟩,putW_srt h.so,h.ft⟩
theorem VM.lk (h:VM s c ws fs) (t:Int):(lkW t (chips c).toNat ws).1=t∧((List.length (lkW t (chips c).toNat ws).2.1:Nat):Int)=chips c∧Byt (lkW t (chips c).toNat ws).2.1:=by
 have hch:=chips_le h.cd
 unfold lkW
 cases hf:fnd t ws
 ·refine⟨rfl,?_,Byt.rep _⟩
  show((List.length (List.replicate _ _):Nat):Int)=_
  rw[List.length_replicate]
  omega
 ·unfold fnd at hf
  simp only[Bool.and_eq_true,decide_eq_true_eq,beq_iff_eq]at hf
  obtain⟨_,_,a3,_,a5⟩:=h.ok _ (getD_mem zT0 hf.1)
  exact⟨hf.2,a3,a5⟩
end
def flt (f:DT1) (w:DT0):DT0:=(w.1,List.set w.2.1 (chipOf f).toNat (bitI .or .u8 (bitI .andNot .u8 (List.getD w.2.1 (chipOf f).toNat 0) f.2.2.2.2.2.2.2.2.1) f.2.2.2.2.2.2.2.2.2.1),w.2.2)
def seenW (fs:List DT1) (p:DT4) (w:DT0):DT0:=run (fun i w=>bif cov (fs.getD i zT1) p then flt (fs.getD i zT1) w else w) 0 fs.length w
theorem seenW_ok (fs:List DT1) (p:DT4) (w:DT0) (hb:Byt w.2.1):(seenW fs p w).1=w.1∧List.length (seenW fs p w).2.1=List.length w.2.1∧Byt (seenW fs p w).2.1∧(seenW fs p w).2.2=w.2.2:=
 run_inv (fun _ (v:DT0)=>v.1=w.1∧List.length v.2.1=List.length w.2.1∧Byt v.2.1∧v.2.2=w.2.2) _ _ _ ⟨rfl,rfl,hb,rfl⟩ fun j v _ _ ⟨h1,h2,h3,h4⟩=>by
  cases cov (fs.getD j zT1) p
  ·exact⟨h1,h2,h3,h4⟩
  ·exact⟨h1,by show List.length (List.set _ _ _)=_;rw[List.length_set,h2],h3.set _ (or_byt _ _),h4⟩
section
variable {α:Type} {k:Nat} {s:DT4} {c:DT5} {ws:List DT0} {fs:List DT1}
theorem f76_eq (hk:10000≤k) (h:VM s c ws fs) (t:Int) (h0:0≤t) (h1:t<szOf s) (K:DT0→Option α):f76 k (mk s c ws fs) t K=K (seenW fs (atP4 s t) (lkW t (chips c).toNat ws)):=by
 simp only[f76,s76,SumT.leaf,SumT.pre,SumT.seq,SumT.cond,SumT.block,SumT.blockP,SumT.loop,zB]
 obtain⟨l1,l2,l3⟩:=h.lk t
 have hfl:=h.fl
 rw[f100_eq hk s c ws fs t h.so h.mb h.cd]
 simp only[mk,peta]
 rw[f101_eq hk s t h.sh h0 h1]
 generalize lkW t (chips c).toNat ws=w at l1 l2 l3
 generalize atP4 s t=p
 refine lp_run2 (fun i w=>(zT0,w,p,fs,(fs.length:Int),(i:Int))) fs.length (fun i w=>bif cov (fs.getD i zT1) p then flt (fs.getD i zT1) w else w) (fun _ v=>((List.length v.2.1:Nat):Int)=chips c) (by omega) (a:=w) l2 ?_ ?_
 ·intro i v n hi hI
  have hch:=vfault_chip (vfs_all h.ft _ (getD_mem zT1 hi))
  simp only[chipOf]at hch
  simp only[]
  rw[dlt (by omega),cond_true,gd (by omega),Int.toNat_natCast,f102_eq hk]
  cases hcv:cov (fs.getD i zT1) p
  ·rw[cond_false,cond_false,w64_id (by omega) (by omega)]
   exact⟨rfl,hI⟩
  ·rw[cond_true,cond_true,gd (by omega),gd (by omega),w64_id (by omega) (by omega)]
   exact⟨rfl,by show((List.length (List.set _ _ _):Nat):Int)=_;rw[List.length_set,hI]⟩
 ·intro n _
  simp only[]
  rw[dge (by omega),cond_false]
  rfl
theorem f88_eq (hk:10000≤k) (h:VM s c ws fs) (t:Int) (h0:0≤t) (h1:t<szOf s) (K:DT0→Option α):f88 k (mk s c ws fs) t K=K (seenW fs (atP4 s t) (lkW t (chips c).toNat ws)):=by
 simp only[f88,s88,SumT.leaf,SumT.pre,SumT.seq,SumT.cond,SumT.block,SumT.blockP,SumT.loop,zB]
 obtain⟨l1,l2,l3⟩:=h.lk t
 have hfl:=h.fl
 rw[f51_eq hk s c ws fs t h.so h.mb h.cd]
 simp only[mk,peta]
 rw[f83_eq hk s t h.sh h0 h1]
 generalize lkW t (chips c).toNat ws=w at l1 l2 l3
 generalize atP4 s t=p
 refine lp_run2 (fun i w=>(mk s c ws fs,zT0,w,p,(i:Int))) fs.length (fun i w=>bif cov (fs.getD i zT1) p then flt (fs.getD i zT1) w else w) (fun _ v=>((List.length v.2.1:Nat):Int)=chips c) (by omega) (a:=w) l2 ?_ ?_
 ·intro i v n hi hI
  have hch:=vfault_chip (vfs_all h.ft _ (getD_mem zT1 hi))
  simp only[chipOf]at hch
  simp only[]
  rw[dlt (by omega),cond_true,gd (by omega),Int.toNat_natCast,f84_eq hk]
  cases hcv:cov (fs.getD i zT1) p
  ·rw[cond_false,cond_false,w64_id (by omega) (by omega)]
   exact⟨rfl,hI⟩
  ·rw[cond_true,cond_true,gd (by omega),gd (by omega),w64_id (by omega) (by omega)]
   exact⟨rfl,by show((List.length (List.set _ _ _):Nat):Int)=_;rw[List.length_set,hI]⟩
 ·intro n _
  simp only[]
  rw[dge (by omega),cond_false]
  rfl
def ascI (E:List Int):Nat→Nat→Bool
 | _,0=>true
 | i,n+1=>bif decide (E.getD (i-1) 0≥E.getD i 0)then false else ascI E (i+1) n
def oob (n p:Int):Bool:=decide (p<0)||decide (p≥n)
def eok (c:DT5) (E:List Int):Int:=bif E.any (oob (chips c))then 2 else bif !ascI E 1 (E.length-1)then 17 else bif decide (((E.length:Nat):Int)>bif c.1==1 then 0 else c.2.2.1)then 3 else 0
theorem f71_eq (hk:10000≤k) (E:List Int) (n:Int) (hl:E.length≤100) (K:Bool→Option α):f71_72 k E n K=K (E.any (oob n)):=by
 simp only[f71_72,s71_72,SumT.leaf,SumT.pre,SumT.seq,SumT.cond,SumT.block,SumT.blockP,SumT.loop,zB]
 simp only[f97_72,s97_72,SumT.leaf,SumT.pre,SumT.seq,SumT.cond,SumT.block,SumT.blockP,SumT.loop,zB]
 refine lp_rule (fun m x=> ∃i:Nat,i+m=E.length∧x=(E,n,(E.length:Int),(i:Int))∧(E.drop i).any (oob n)=E.any (oob n)) ?_ (m:=E.length) ⟨0,by omega,rfl,rfl⟩ (by omega)
 rintro m x n' ⟨i,hi,rfl,hc⟩ hn
 cases m with
 | zero=>
  simp only[]
  rw[←hc,dge (by omega),cond_false,List.drop_eq_nil_of_le (by omega)]
  rfl
 | succ m=>
  have hi':i<E.length:=by omega
  rw[drop_getD 0 hi',List.any_cons]at hc
  simp only[]
  rw[dlt (by omega),cond_true,gd (by omega),Int.toNat_natCast]
  simp only[f72,s72,SumT.leaf,SumT.pre,SumT.seq,SumT.cond,SumT.block,SumT.blockP,SumT.loop,zB]
  have e: ∀A:Bool→Option α,(bif decide (E.getD i 0<0)then A true else A (decide (E.getD i 0≥n)))=A (oob n (E.getD i 0)):=fun A=>by
   unfold oob
   cases decide (E.getD i 0<0)<;>rfl
  rw[e (fun t=>bif t then K (decide ((i:Int)≥0))else n' (E,n,(E.length:Int),w64 ((i:Int)+1)))]
  cases he:oob n (E.getD i 0)
  ·rw[he,Bool.false_or]at hc
   rw[cond_false,w64_id (by omega) (by omega)]
   exact hn m _ (by omega) ⟨i+1,by omega,rfl,hc⟩
  ·rw[he,Bool.true_or]at hc
   rw[cond_true, ←hc,decide_eq_true (by omega)]
theorem f73_eq (hk:10000≤k) (E:List Int) (hl:E.length≤100) (K:Bool→Option α):f73 k E K=K (ascI E 1 (E.length-1)):=by
 simp only[f73,s73,SumT.leaf,SumT.pre,SumT.seq,SumT.cond,SumT.block,SumT.blockP,SumT.loop,zB]
 by_cases h0:E.length=0
 ·obtain⟨k',rfl⟩: ∃k',k=k'+1:=⟨k-1,by omega⟩
  rw[lpF]
  simp only[]
  rw[dge (by omega),cond_false,h0]
  rfl
 refine lp_rule (fun m x=> ∃i:Nat,1≤i∧i+m=E.length∧x=(E,(i:Int))∧ascI E i m=ascI E 1 (E.length-1)) ?_ (m:=E.length-1) ⟨1,Nat.le_refl _,by omega,rfl,rfl⟩ (by omega)
 rintro m x n ⟨i,hi1,hi,rfl,hc⟩ hn
 cases m with
 | zero=>
  simp only[]
  rw[←hc,dge (by omega),cond_false]
  rfl
 | succ m=>
  have e1:w64 ((i:Int)-1)=((i-1:Nat):Int):=by
   rw[w64_id (by omega) (by omega)]
   omega
  rw[ascI]at hc
  simp only[e1]
  rw[dlt (by omega),cond_true,gd (by omega),gd (by omega),Int.toNat_natCast,Int.toNat_natCast]
  cases he:decide (E.getD (i-1) 0≥E.getD i 0)
  ·rw[he,cond_false]at hc
   rw[cond_false,w64_id (by omega) (by omega)]
   exact hn m _ (by omega) ⟨i+1,by omega,by omega,rfl,hc⟩
  ·rw[he,cond_true]at hc
   rw[cond_true, ←hc]
theorem f42_eq (hk:10000≤k) (c:DT5) (E:List Int) (hl:E.length≤100) (K:Int→Option α):f42 k c E K=K (eok c E):=by
 simp only[f42,s42,SumT.leaf,SumT.pre,SumT.seq,SumT.cond,SumT.block,SumT.blockP,SumT.loop,zB]
 rw[f66_eq]
 unfold eok
 simp only[f71_eq hk _ _ hl,f73_eq hk _ hl]
 cases c.1==1<;>cases E.any (oob (chips c))<;>cases ascI E 1 (E.length-1)<;>simp only[cond_true,cond_false,Bool.not_true,Bool.not_false]
 ·cases decide (((E.length:Nat):Int)>c.2.2.1)<;>rfl
 ·cases decide (((E.length:Nat):Int)>0)<;>rfl
theorem f86_eq (hk:10000≤k) (c:DT5) (hc:vcode c=true) (E:List Int) (hl:E.length≤100) (K:Int→Option α):f86 k c E K=K (eok c E):=by
 simp only[f86,s86,SumT.leaf,SumT.pre,SumT.seq,SumT.cond,SumT.block,SumT.blockP,SumT.loop,zB]
 show lpF _ k (E,c,chips c,(0:Int))=_
 unfold eok
 generalize hn:chips c=n
 refine lp_rule (fun m x=> ∃i:Nat,i+m=E.length∧x=(E,c,n,(i:Int))∧(E.drop i).any (oob n)=E.any (oob n)) ?_ (m:=E.length) ⟨0,by omega,rfl,rfl⟩ (by omega)
 rintro m x n' ⟨i,hi,rfl,hany⟩ hn'
 cases m with
 | zero=>
  rw[List.drop_eq_nil_of_le (by omega),List.any_nil]at hany
  rw[←hany,cond_false]
  simp only[]
  rw[dge (by omega),cond_false]
  have hend:(bif decide ((E.length:Int)>c.2.2.1)then K 3 else bif c.1==1 then(bif decide ((E.length:Int)>0)then K 3 else K 0)else K 0)=K (bif decide (((E.length:Nat):Int)>bif c.1==1 then 0 else c.2.2.1)then 3 else 0):=by
   by_cases h1:c.1=2
   ·rw[h1,show((2:Int)==1)=false from rfl,cond_false,cond_false]
    cases decide (((E.length:Nat):Int)>c.2.2.1)<;>rfl
   ·rw[vcode_bit hc h1]
    show(bif decide ((E.length:Int)>1)then K 3 else(bif decide ((E.length:Int)>0)then K 3 else K 0))=K (bif decide ((E.length:Int)>0)then 3 else 0)
    by_cases h2:(E.length:Int)>0
    ·rw[decide_eq_true h2]
     cases decide ((E.length:Int)>1)<;>rfl
    ·rw[decide_eq_false h2,decide_eq_false (by omega)]
     rfl
  by_cases h0:E.length=0
  ·obtain⟨k',rfl⟩: ∃k',k=k'+1:=⟨k-1,by omega⟩
   rw[lpF]
   simp only[]
   rw[dge (by omega),cond_false,hend,h0]
   rfl
  refine lp_rule (fun m x=> ∃i:Nat,1≤i∧i+m=E.length∧x=(E,c,(i:Int))∧ascI E i m=ascI E 1 (E.length-1)) ?_ (m:=E.length-1) ⟨1,Nat.le_refl _,by omega,rfl,rfl⟩ (by omega)
  rintro m x n2 ⟨j,hj1,hj,rfl,hcj⟩ hn2
  cases m with
  | zero=>
   simp only[]
   rw[←hcj,dge (by omega),cond_false,hend]
   rfl
  | succ m=>
   have e1:w64 ((j:Int)-1)=((j-1:Nat):Int):=by
    rw[w64_id (by omega) (by omega)]
    omega
   rw[ascI]at hcj
   simp only[e1]
   rw[dlt (by omega),cond_true,gd (by omega),gd (by omega),Int.toNat_natCast,Int.toNat_natCast]
   cases he:decide (E.getD (j-1) 0≥E.getD j 0)
   ·rw[he,cond_false]at hcj
    rw[cond_false,w64_id (by omega) (by omega)]
    exact hn2 m _ (by omega) ⟨j+1,by omega,by omega,rfl,hcj⟩
   ·rw[he,cond_true]at hcj
    rw[cond_true, ←hcj]
    rfl
 | succ m=>
  have hi':i<E.length:=by omega
  rw[drop_getD 0 hi',List.any_cons]at hany
  simp only[]
  rw[dlt (by omega),cond_true,gd (by omega),Int.toNat_natCast,gd (by omega)]
  cases h1:decide (E.getD i 0<0)
  ·rw[cond_false]
   cases h2:decide (E.getD i 0≥n)
   ·have he:oob n (E.getD i 0)=false:=by
     unfold oob
     rw[h1,h2]
     rfl
    rw[he,Bool.false_or]at hany
    rw[cond_false,w64_id (by omega) (by omega)]
    exact hn' m _ (by omega) ⟨i+1,by omega,rfl,hany⟩
   ·have he:oob n (E.getD i 0)=true:=by
     unfold oob
     rw[h1,h2]
     rfl
    rw[he,Bool.true_or]at hany
    rw[←hany]
    rfl
  ·have he:oob n (E.getD i 0)=true:=by
    unfold oob
    rw[h1]
    rfl
   rw[he,Bool.true_or]at hany
   rw[←hany]
   rfl
theorem ascI_spec {E:List Int}: ∀{m i:Nat},ascI E i m=true→ ∀j,i≤j→j<i+m→E.getD (j-1) 0<E.getD j 0
 | 0,_,_,_,_,_=>by omega
 | m+1,i,h,j,h1,h2=>by
  rw[ascI]at h
  cases he:decide (E.getD (i-1) 0≥E.getD i 0)<;>rw[he]at h
  ·have:=of_decide_eq_false he
   by_cases e:i=j
   ·subst e
    omega
   ·exact ascI_spec h j (by omega) (by omega)
  ·cases h
theorem eok_zero {c:DT5} {E:List Int} (h:eok c E=0): ∃E':List Nat,E=zs E'∧E'.Pairwise (· < ·)∧(∀p∈E',(p:Int)<chips c)∧((E'.length:Nat):Int)≤bif c.1==1 then 0 else c.2.2.1:=by
 unfold eok at h
 cases h1:E.any (oob (chips c))<;>rw[h1]at h
 case true=>cases h
 cases h2:ascI E 1 (E.length-1)<;>rw[h2]at h
 case false=>cases h
 cases h3:decide (((E.length:Nat):Int)>bif c.1==1 then 0 else c.2.2.1)<;>rw[h3]at h
 case true=>cases h
 have h3:=of_decide_eq_false h3
 have hr: ∀p∈E,0≤p∧p<chips c:=fun p hp=>by
  have:=List.any_eq_false.1 h1 p hp
  unfold oob at this
  simp only[Bool.or_eq_true,decide_eq_true_eq]at this
  omega
 have hE:E=zs (E.map Int.toNat):=by
  unfold zs
  rw[List.map_map]
  conv=>lhs;rw[←List.map_id E]
  exact List.map_congr_left fun p hp=>by
   show p=((p.toNat:Nat):Int)
   have:=hr p hp
   omega
 have hasc: ∀j,1≤j→j<E.length→E.getD (j-1) 0<E.getD j 0:=fun j h4 h5=>ascI_spec h2 j h4 (by omega)
 have hlt: ∀d i,i+d<E.length→0<d→E.getD i 0<E.getD (i+d) 0:=by
  intro d
  induction d with
  | zero=>intro i _ h;omega
  | succ d ih=>
   intro i hi _
   have:=hasc (i+(d+1)) (by omega) hi
   rw[show i+(d+1)-1=i+d by omega]at this
   rcases Nat.eq_zero_or_pos d with h0|h0
   ·subst h0
    exact this
   ·have:=ih i (by omega) h0
    omega
 refine⟨E.map Int.toNat,hE,?_,fun p hp=>?_,by rw[List.length_map];omega⟩
 ·rw[List.pairwise_iff_getElem]
  intro i j hi hj hij
  rw[List.length_map]at hi hj
  have:=hlt (j-i) i (by omega) (by omega)
  rw[show i+(j-i)=j by omega,List.getD_eq_getElem?_getD,List.getD_eq_getElem?_getD,List.getElem?_eq_getElem hi,List.getElem?_eq_getElem hj]at this
  have this:E[i]<E[j]:=this
  rw[List.getElem_map,List.getElem_map]
  have a:=hr E[i] (List.getElem_mem hi)
  omega
 ·obtain⟨q,hq,rfl⟩:=List.mem_map.1 hp
  have:=hr q hq
  omega
end
theorem z0:((0:Int) !=0)=false:=rfl
theorem z1:((1:Int)==1)=true:=rfl
theorem z2:((1:Int)==2)=false:=rfl
theorem z3:((1:Int) !=1)=false:=rfl
structure RdOk (n:Int) (r:DT8):Prop where
 oc:r.1=0∨r.1=1∨r.1=2
 wd:r.1≠2→Byt r.2.1∧((List.length r.2.1:Nat):Int)=n
 ps:List.length r.2.2≤100
theorem refDec_ok {n most:Nat} {s w:List F8} {E:List Nat} (hn:n≤40) (hw:w.length=n):RdOk n (refDec n most s w E):=by
 unfold refDec
 cases refFind (refTry n s (U n s E) E) 0 (most+1)with
 | none=>exact⟨.inr (.inr rfl),fun h=>absurd rfl h,Nat.zero_le _⟩
 | some p=>
  refine⟨?_,fun _=>⟨Byt.bs _,?_⟩,?_⟩
  ·by_cases h:appl w p.1 p.2=w
   ·exact .inl (if_pos h)
   ·exact .inr (.inl (if_neg h))
  ·show(((bs _).length:Nat):Int)=n
   rw[bs_len,appl_len,hw]
  ·show(zs _).length≤100
   rw[zs_len]
   refine Nat.le_trans (List.length_filter_le _ _) ?_
   rw[List.length_range]
   omega
theorem hdec_ok {w:List F8} (hw:w.length=9):RdOk 9 (hdec w).1:=by
 unfold hdec
 split
 ·exact⟨.inl rfl,fun _=>⟨Byt.bs _,by show(((bs w).length:Nat):Int)=9;rw[bs_len,hw];rfl⟩,Nat.zero_le _⟩
 ·cases hfind (hsyn w) 0 72 with
  | none=>exact⟨.inr (.inr rfl),fun h=>absurd rfl h,Nat.zero_le _⟩
  | some b=>exact⟨.inr (.inl rfl),fun _=>⟨Byt.bs _,by show(((bs _).length:Nat):Int)=9;rw[bs_len,List.length_set,hw];rfl⟩,by show 1≤100;decide⟩
theorem eok_len {c:DT5} (hc:vcode c=true) {E:List Int} (h:eok c E=0):E.length≤100:=by
 obtain⟨E',rfl,_,_,h3⟩:=eok_zero h
 rw[zs_len]
 by_cases h2:c.1=2
 ·obtain⟨d,ch,f,rfl,a1,a2,a3,a4,a5⟩:=vcode_sym hc h2
  have h3:((E'.length:Nat):Int)≤(ch:Int):=h3
  omega
 ·rw[vcode_bit hc h2]at h3
  have h3:((E'.length:Nat):Int)≤0:=h3
  omega
section
variable {α:Type} {k:Nat} {s:DT4} {c:DT5} {ws:List DT0} {fs:List DT1}
theorem dec_both (hk:10000≤k) (hc:vcode c=true) {w:List Int} (hb:Byt w) (hl:((w.length:Nat):Int)=chips c) {E:List Int} (he:eok c E=0):
  ∃r:DT8,(∀K:DT8→Int→Option α,f77 k c w E K=K r 0)∧(∀K:DT8→Int→Option α,f105 k c w E K=K r 0)∧RdOk (chips c) r:=by
 have hEl:=eok_len hc he
 obtain⟨w,rfl⟩:=exists_bs hb
 simp only[f77,s77,SumT.leaf,SumT.pre,SumT.seq,SumT.cond,SumT.block,SumT.blockP,SumT.loop,zB]
 simp only[f105,s105,SumT.leaf,SumT.pre,SumT.seq,SumT.cond,SumT.block,SumT.blockP,SumT.loop,zB]
 simp only[f65_eq,f78_eq,hc,Bool.not_true,cond_false,f66_eq,f42_eq hk _ _ hEl,f86_eq hk _ hc _ hEl,he]
 have hch:w64 (c.2.1+c.2.2.1)=chips c:=rfl
 rw[hch,hl]
 simp only[bne_self_eq_false,cond_false]
 rw[bs_len]at hl
 obtain⟨E',rfl,e1,e2,e3⟩:=eok_zero he
 by_cases h2:c.1=2
 ·obtain⟨d,ch,f,rfl,a1,a2,a3,a4,a5⟩:=vcode_sym hc h2
  have hcs:chips (2,(d:Int),(ch:Int),(f:Int))=((d+ch:Nat):Int):=w64_id (by simp only[];omega) (by simp only[];omega)
  rw[hcs]at hl e2 ⊢
  have hw:w.length=d+ch:=by omega
  have hE:ErOk E' (d+ch) ch:=⟨e1,fun p hp=>by have:=e2 p hp;omega,by have e3:((E'.length:Nat):Int)≤(ch:Int):=e3;omega⟩
  refine⟨_,fun K=>f104_eq hk d ch f a1 a2 a3 a4 a5 hc w hw E' hE K,fun K=>?_,?_⟩
  ·rw[dec_same d ch f a2 a4 w hw E' hE]
   exact f128_eq hk d ch f a1 a2 a3 a4 a5 hc w hw E' hE K
  ·rw[dec_same d ch f a2 a4 w hw E' hE]
   exact refDec_ok (by omega) hw
 ·have:=vcode_bit hc h2
  subst this
  have hw:w.length=9:=by
   have:chips (1,8,1,1)=9:=rfl
   omega
  simp only[z1,z2,z3,cond_true,cond_false]
  exact⟨(hdec w).1,fun K=>f103_eq hk w hw _,fun K=>f129_eq hk w hw _,hdec_ok hw⟩
theorem enc_both (hk:10000≤k) (hc:vcode c=true) {x:List Int} (hb:Byt x) (hl:((x.length:Nat):Int)=c.2.1):
  ∃o:List Int,(∀K:List Int→Int→Option α,f98 k c x K=K o 0)∧(∀K:List Int→Int→Option α,f58 k c x K=K o 0)∧Byt o∧((o.length:Nat):Int)=chips c:=by
 obtain⟨x,rfl⟩:=exists_bs hb
 simp only[f98,s98,SumT.leaf,SumT.pre,SumT.seq,SumT.cond,SumT.block,SumT.blockP,SumT.loop,zB]
 simp only[f58,s58,SumT.leaf,SumT.pre,SumT.seq,SumT.cond,SumT.block,SumT.blockP,SumT.loop,zB]
 simp only[f65_eq,f78_eq,hc,Bool.not_true,cond_false]
 rw[hl]
 simp only[bne_self_eq_false,cond_false]
 rw[bs_len]at hl
 by_cases h2:c.1=2
 ·obtain⟨d,ch,f,rfl,a1,a2,a3,a4,a5⟩:=vcode_sym hc h2
  have hcs:chips (2,(d:Int),(ch:Int),(f:Int))=((d+ch:Nat):Int):=w64_id (by simp only[];omega) (by simp only[];omega)
  have hl:((x.length:Nat):Int)=(d:Int):=hl
  have hw:x.length=d:=by omega
  refine⟨_,fun K=>f113_eq hk d ch f a1 a2 a3 a4 a5 x hw _,fun K=>f89_eq hk d ch f a1 a2 a3 a4 a5 x hw _,Byt.bs _,?_⟩
  rw[hcs,bs_len,show(enc x ch).length=d+ch by unfold enc;rw[List.length_append,List.length_map,List.length_range,hw]]
 ·have:=vcode_bit hc h2
  subst this
  have hw:x.length=8:=by
   have hl:((x.length:Nat):Int)=8:=hl
   omega
  have hlen:(bs x).length=8:=by rw[bs_len,hw]
  simp only[z1,z2,z3,cond_true,cond_false]
  refine⟨bs x++[ofG (hsyn x)],fun K=>?_,fun K=>?_,fun y hy=>?_,?_⟩
  ·rw[f114_eq hk x hw,z0,cond_false]
   unfold cloneF
   rw[gd (by rw[hlen];unfold room;omega)]
   simp only[]
   rw[gd (by rw[hlen];unfold room;simp)]
  ·rw[f90_eq hk x hw,gd (by rw[hlen];unfold room;omega),gd (by rw[hlen];unfold room;simp)]
  ·rcases List.mem_append.1 hy with h|h
   ·exact Byt.bs _ y h
   ·rw[List.mem_singleton.1 h]
    exact⟨ofG_nn _,ofG_lt _⟩
  ·rw[List.length_append,hlen]
   rfl
theorem VM.data (h:VM s c ws fs):0≤c.2.1∧c.2.1≤chips c:=by
 have hc:=h.cd
 by_cases h2:c.1=2
 ·obtain⟨d,ch,f,rfl,a1,a2,a3,a4,a5⟩:=vcode_sym hc h2
  have hcs:chips (2,(d:Int),(ch:Int),(f:Int))=((d+ch:Nat):Int):=w64_id (by simp only[];omega) (by simp only[];omega)
  rw[hcs]
  simp only[]
  omega
 ·have:=vcode_bit hc h2
  subst this
  exact⟨show(0:Int)≤8 by decide,show(8:Int)≤9 by decide⟩
structure LkOk (r:DT8):Prop where
 wd:List.length r.2.1≤100
 ps:List.length r.2.2≤100
theorem f57_eq (hk:10000≤k) (h:VM s c ws fs) (t:Int) (h0:0≤t) (h1:t<szOf s) (K:DT0→Int→Option α):f57 k (mk s c ws fs) t K=K (lkW t (chips c).toNat ws) 0:=by
 simp only[f57,s57,SumT.leaf,SumT.pre,SumT.seq,SumT.cond,SumT.block,SumT.blockP,SumT.loop,zB]
 rw[f47_eq hk s c ws fs h.mb,h.mem,Bool.not_true,cond_false,decide_eq_false (by omega),cond_false,f13_eq hk,decide_eq_false (show¬t≥szOf s by omega),cond_false,f51_eq hk s c ws fs t h.so h.mb h.cd]
theorem look_both (hk:10000≤k) (h:VM s c ws fs) (t:Int) (h0:0≤t) (h1:t<szOf s) {E:List Int} (he:eok c E=0):
  ∃(ws':List DT0) (r:DT8),VM s c ws' fs∧LkOk r∧(∀K:DT2→DT8→Option α,f43w k (mk s c ws fs) t E K=K (mk s c ws' fs) r)∧(∀K:DT2→DT8→Option α,f54 k (mk s c ws fs) t E K=K (mk s c ws' fs) r)∧(∀K:DT8→Option α,f87 k (mk s c ws fs) (seenW fs (atP4 s t) (lkW t (chips c).toNat ws)) E K=K r):=by
 have hch:=chips_le h.cd
 have hda:=h.data
 obtain⟨l1,l2,l3⟩:=h.lk t
 have hst:=h.so
 have hmb:=h.mb
 obtain⟨q1,q2,q3,q4⟩:=seenW_ok fs (atP4 s t) (lkW t (chips c).toNat ws) l3
 simp only[f43w,s43w,SumT.leaf,SumT.pre,SumT.seq,SumT.cond,SumT.block,SumT.blockP,SumT.loop,zB]
 simp only[f46,s46,SumT.leaf,SumT.pre,SumT.seq,SumT.cond,SumT.block,SumT.blockP,SumT.loop,zB]
 simp only[f54,s54,SumT.leaf,SumT.pre,SumT.seq,SumT.cond,SumT.block,SumT.blockP,SumT.loop,zB]
 simp only[f87,s87,SumT.leaf,SumT.pre,SumT.seq,SumT.cond,SumT.block,SumT.blockP,SumT.loop,zB]
 simp only[f76_eq hk h t h0 h1,f88_eq hk h t h0 h1]
 generalize hv:seenW fs (atP4 s t) (lkW t (chips c).toNat ws)=v at q1 q2 q3 q4
 cases hp:v.2.2
 case true=>exact⟨ws,(3,[],[]),h,⟨Nat.zero_le _,Nat.zero_le _⟩,fun K=>rfl,fun K=>rfl,fun K=>rfl⟩
 simp only[cond_false]
 obtain⟨r,d1,d2,d3⟩:=dec_both (α:=α) hk h.cd q3 (by rw[q2,l2]) he
 have pc:((mk s c ws fs).2.2.2.2.2.2.1,(mk s c ws fs).2.2.2.2.2.2.2.1,(mk s c ws fs).2.2.2.2.2.2.2.2.1,(mk s c ws fs).2.2.2.2.2.2.2.2.2.1)=c:=rfl
 simp only[pc,d1,d2]
 by_cases hr2:r.1=2
 ·rw[hr2]
  refine⟨putW ws (t,(lkW t (chips c).toNat ws).2.1,true),(2,[],[]),h.put h0 h1 l2 l3,⟨Nat.zero_le _,Nat.zero_le _⟩,fun K=>?_,fun K=>?_,fun K=>rfl⟩
  ·show f75w k (mk s c ws fs) t _=_
   simp only[f75w,s75w,SumT.leaf,SumT.pre,SumT.seq,SumT.cond,SumT.block,SumT.blockP,SumT.loop,zB]
   rw[f100_eq hk s c ws fs t hst hmb h.cd,l1,f99w_eq hk s c ws fs _ hst hmb.hw (by show List.length (lkW t (chips c).toNat ws).2.1<1000;omega)]
  ·show f51 k (mk s c ws fs) t _=_
   rw[f51_eq hk s c ws fs t hst hmb h.cd,l1,f52_eq hk s c ws fs _ hst hmb (by show List.length (lkW t (chips c).toNat ws).2.1<1000;omega)]
 ·obtain⟨b1,b2⟩:=d3.wd hr2
  have hps:=d3.ps
  have ht:List.length (r.2.1.take c.2.1.toNat)=c.2.1.toNat:=by rw[List.length_take];omega
  have hbt:Byt (r.2.1.take c.2.1.toNat):=fun y hy=>b1 y (List.mem_of_mem_take hy)
  have pd:(mk s c ws fs).2.2.2.2.2.2.2.1=c.2.1:=rfl
  have e2:(r.1==2)=false:=beq_eq_false_iff_ne.2 hr2
  have g1:(0:Int)≤0∧(0:Int)≤c.2.1∧c.2.1≤((List.length r.2.1:Nat):Int):=⟨by omega,by omega,by omega⟩
  have g2:c.2.1≤c.2.1∧c.2.1≤((List.length r.2.1:Nat):Int):=⟨by omega,by omega⟩
  have g3:List.length (r.2.1.take c.2.1.toNat)*1≤room:=by rw[ht];unfold room;omega
  simp only[pd,e2,cond_false,if_pos g1,if_pos g2,if_pos g3]
  rcases d3.oc with h3|h3|h3
  ·rw[h3]
   exact⟨ws,(0,r.2.1.take c.2.1.toNat,r.2.2),h,⟨by show List.length (r.2.1.take c.2.1.toNat)≤100;omega,hps⟩,fun K=>rfl,fun K=>rfl,fun K=>rfl⟩
  ·rw[h3]
   obtain⟨o,o1,o2,o3,o4⟩:=enc_both (α:=α) hk h.cd hbt (by rw[ht];omega)
   refine⟨putW ws (t,o,false),(1,r.2.1.take c.2.1.toNat,r.2.2),h.put h0 h1 o4 o3,⟨by show List.length (r.2.1.take c.2.1.toNat)≤100;omega,hps⟩,fun K=>?_,fun K=>?_,fun K=>rfl⟩
   ·show f74ww k (mk s c ws fs) t (r.2.1.take c.2.1.toNat) _=_
    simp only[f74ww,s74ww,SumT.leaf,SumT.pre,SumT.seq,SumT.cond,SumT.block,SumT.blockP,SumT.loop,zB]
    rw[pc,o1,f99w_eq hk s c ws fs _ hst hmb.hw (by show o.length<1000;omega)]
   ·show f33 k (mk s c ws fs) t (r.2.1.take c.2.1.toNat) _=_
    simp only[f33,s33,SumT.leaf,SumT.pre,SumT.seq,SumT.cond,SumT.block,SumT.blockP,SumT.loop,zB]
    rw[f57_eq hk h t h0 h1,show((0:Int) !=0)=false from rfl,cond_false,pc,o2,show((0:Int) !=0)=false from rfl,cond_false,f52_eq hk s c ws fs _ hst hmb (by show o.length<1000;omega)]
  ·exact absurd h3 hr2
end
theorem eqI_self (a:Int) (b:Bool):eqI a a b=b:=by
 unfold eqI
 rw[beq_self_eq_true]
 rfl
theorem eqB_self (a b:Bool):eqB a a b=b:=by
 unfold eqB
 rw[beq_self_eq_true]
 rfl
structure Ok (k:Nat) (ws:List DT0) (fs:List DT1):Prop where
 mb:MB ws fs
 sm: ∀w∈ws,List.length w.2.1<k
abbrev rdOf (x:DT6):DT8:=(x.2.1,x.2.2.1,x.2.2.2)
structure FoOk (l:List DT6):Prop where
 ln:l.length≤5000
 al: ∀x∈l,LkOk (rdOf x)
section
variable {α:Type} {k:Nat} {s:DT4} {c:DT5} {ws:List DT0} {fs:List DT1}
theorem f22_eq (p:List Int) (h:p.length<k) (hr:p.length≤room) (K:Bool→Option α):f22 k p p K=K true:=by
 simp only[f22,s22,SumT.leaf,SumT.pre,SumT.seq,SumT.cond,SumT.block,SumT.blockP,SumT.loop,zB]
 rw[bne_self_eq_false,cond_false]
 unfold room at hr
 refine lp_run2 (fun i (_:Unit)=>(p,p,(i:Int))) p.length (fun _ a=>a) (fun _ _=>True) (by omega) (a:=()) trivial ?_ ?_
 ·intro i _ n hi _
  refine⟨?_,trivial⟩
  simp only[]
  rw[dlt (by omega),cond_true,gd (by omega),gd (by omega),bne_self_eq_false,cond_false,w64_id (by omega) (by omega)]
  rfl
 ·intro n _
  simp only[]
  rw[dge (by omega),cond_false]
theorem f20_eq (hk:10000≤k) (r:DT8) (h:LkOk r) (K:Bool→Option α):f20 k r r K=K true:=by
 have h1:=h.wd
 have h2:=h.ps
 simp only[f20,s20,SumT.leaf,SumT.pre,SumT.seq,SumT.cond,SumT.block,SumT.blockP,SumT.loop,zB]
 rw[bne_self_eq_false,cond_false,f22_eq _ (by omega) (by unfold room;omega),bne_self_eq_false,Bool.not_true,cond_false,cond_false]
 refine lp_run2 (fun i (_:Unit)=>(r,r,(i:Int))) (List.length r.2.2) (fun _ a=>a) (fun _ _=>True) (by omega) (a:=()) trivial ?_ ?_
 ·intro i _ n hi _
  refine⟨?_,trivial⟩
  simp only[]
  rw[dlt (by omega),cond_true,gd (by omega),gd (by omega),bne_self_eq_false,cond_false,w64_id (by omega) (by omega)]
  rfl
 ·intro n _
  simp only[]
  rw[dge (by omega),cond_false]
theorem f44_eq (w:DT0) (h:List.length w.2.1<k) (hr:List.length w.2.1≤room) (K:Bool→Option α):f44 k w w K=K true:=by
 simp only[f44,s44,SumT.leaf,SumT.pre,SumT.seq,SumT.cond,SumT.block,SumT.blockP,SumT.loop,zB]
 rw[beq_self_eq_true,beq_self_eq_true,cond_true,cond_true,f22_eq _ h hr]
theorem f29_eq (hk:10000≤k) (l:List DT6) (h:FoOk l) (K:Bool→Option α):f29 k l l K=K true:=by
 have h1:=h.ln
 simp only[f29,s29,SumT.leaf,SumT.pre,SumT.seq,SumT.cond,SumT.block,SumT.blockP,SumT.loop,zB]
 rw[bne_self_eq_false,cond_false]
 refine lp_run2 (fun i (_:Unit)=>(l,l,(i:Int))) l.length (fun _ a=>a) (fun _ _=>True) (by omega) (a:=()) trivial ?_ ?_
 ·intro i _ n hi _
  refine⟨?_,trivial⟩
  simp only[]
  rw[dlt (by omega),cond_true,gd (by omega),gd (by omega),Int.toNat_natCast,bne_self_eq_false,cond_false,gd (by omega),gd (by omega),f20_eq hk _ (h.al _ (getD_mem zT6 hi)),Bool.not_true,cond_false,w64_id (by omega) (by omega)]
  rfl
 ·intro n _
  simp only[]
  rw[dge (by omega),cond_false]
theorem f19_eq (hk:10000≤k) (h:Ok k ws fs) (K:Bool→Option α):f19 k (mk s c ws fs) (mk s c ws fs) K=K true:=by
 have h1:=h.mb.hw
 have h2:=h.mb.hf
 simp only[f19,s19,SumT.leaf,SumT.pre,SumT.seq,SumT.cond,SumT.block,SumT.blockP,SumT.loop,zB,mk]
 simp only[eqI_self,eqB_self,Bool.not_true,cond_false,bne_self_eq_false]
 refine lp_run2 (fun i (_:Unit)=>(mk s c ws fs,mk s c ws fs,(i:Int))) ws.length (fun _ a=>a) (fun _ _=>True) (by omega) (a:=()) trivial ?_ ?_
 ·intro i _ n hi _
  refine⟨?_,trivial⟩
  have hm:=getD_mem zT0 hi
  simp only[]
  rw[dlt (by omega),cond_true,gd (by omega),gd (by omega),Int.toNat_natCast,f44_eq _ (h.sm _ hm) (h.mb.hs _ hm),Bool.not_true,cond_false,w64_id (by omega) (by omega)]
  rfl
 ·intro n _
  simp only[]
  rw[dge (by omega),cond_false]
  refine lp_run2 (fun i (_:Unit)=>(mk s c ws fs,mk s c ws fs,(i:Int))) fs.length (fun _ a=>a) (fun _ _=>True) (by omega) (a:=()) trivial ?_ ?_
  ·intro i _ n hi _
   refine⟨?_,trivial⟩
   simp only[eqI_self,eqB_self,Bool.not_true,cond_false]
   rw[dlt (by omega),cond_true,gd (by omega),gd (by omega),w64_id (by omega) (by omega)]
   rfl
  ·intro n _
   simp only[]
   rw[dge (by omega),cond_false]
end
end Go.Proofs.YtkeiedikiiccpaaGreatDoor.Am
