/- A part of the proof of ScrubMade: lemmas. No conditions beyond those of each lemma. -/
import Derived.Test.YtkeiedikiiccpaaGreatDoorK5
set_option linter.all false
namespace Go.Proofs.YtkeiedikiiccpaaGreatDoor.Am
open Go
section
variable {P:Program} {E:Env} {gv:Nat→AV} {Z Z':Nat→Prop} {w w':World} {σ σ':Nat→Sh} {hp hp':Nat→Ob}
def idsL (ids:Option (List Nat)) (n:Nat):List Nat:=match ids with
 | none=>List.range n
 | some l=>l
theorem ZF_nil (Z:Nat→Prop) (σ:Nat→Sh) (hp:Nat→Ob):ZF Z σ hp []=Z:=by
 funext b
 simp[ZF]
theorem Own.nz {p:Pl} {e:Ty} {xs:List e.den} (h:Own Z w p e xs): ∀b,plB p b→ ¬Z b:=fun b hb=>by
 match p,h,hb with
 | some (b',s,m),⟨_,_,h3,_⟩,hb=>cases hb;exact h3
theorem rows_put {e:Ty} {st:List (List e.den)} {pd:Option (Nat×List e.den)} {r:NI} {b s m:Nat} (h:Rws Z w e none st pd (some (b,s,m)) r) {i:Nat} (hi:i<st.length) {q:Pl} {ys:List e.den} {u:Value} (hq:Own Z w q e ys) (hh:Hdr e.sz q 0 ys.length u)
  (hqp: ∀b',plB q b'→b'≠b) (hqr: ∀b' j,plB q b'→j<st.length→plB (r.row j).1 b'→j=i) (hne: ∀b',b'≠b→w'.heap[b']?=w.heap[b']?) (hc:w'.cell? ⟨b,s+i,none⟩=some u) (hc2: ∀k,k≠i→w'.cell? ⟨b,s+k,none⟩=w.cell? ⟨b,s+k,none⟩) (hbk: ∀k,Blk w b k→Blk w' b k) (v':Nat):
  Rws Z w' e none (st.set i ys) none (some (b,s,m)) { v:=v',sz:=r.sz,row:=fun j=>if j=i then(q,ys.length)else r.row j,pd:=none }:=by
 obtain⟨b1,b2,b3⟩:=h.blk b s m rfl
 have hk:Kept Z w Z w':=⟨fun _ h=>h,fun b' hb'=>hne b' fun e=>b3 (e▸hb')⟩
 have hoff: ∀j b',j<st.length→plB (r.row j).1 b'→b'≠b:=fun j b' hj hb' e=>h.off b j rfl hj (e▸hb')
 refine { sz:=h.sz,out:=fun j hj=>?_,len:=fun j xs hx=>?_,own:=fun j xs hx=>?_,head:=fun j hj=>?_,blk:=fun b' s' m' e=>?_,off:=fun b' j hb' hj hx=>?_,sep:=fun b' j k hj hk h1 h2=>?_,pd0:=fun _=>rfl,pd1:=fun _ _ h=>(by cases h) }
 ·rw[List.length_set]at hj
  simp only[if_neg (show j≠i by omega)]
  exact h.out j hj
 ·by_cases hji:j=i
  ·subst hji
   rw[List.getElem?_set_self hi]at hx
   cases hx
   simp
  ·rw[List.getElem?_set_ne (Ne.symm hji)]at hx
   simp only[if_neg hji]
   exact h.len j xs hx
 ·by_cases hji:j=i
  ·subst hji
   rw[List.getElem?_set_self hi]at hx
   cases hx
   simp only[if_true]
   exact hq.kept hk (fun b' hb'=>hne b' (hqp b' hb')) hq.nz
  ·rw[List.getElem?_set_ne (Ne.symm hji)]at hx
   simp only[if_neg hji]
   have hjl:=(List.getElem?_eq_some_iff.1 hx).1
   exact(h.own j xs hx).kept hk (fun b' hb'=>hne b' (hoff j b' hjl hb')) (h.own j xs hx).nz
 ·simp only[numOf,List.length_set]at hj
  obtain⟨b',s',m',x,e1,e2,e3⟩:=h.head j hj
  cases e1
  by_cases hji:j=i
  ·subst hji
   refine⟨b,s,m,u,rfl,hc,?_⟩
   show Hdr e.sz (if j=j then(q,ys.length)else r.row j).1 0 (if j=j then(q,ys.length)else r.row j).2 u
   rw[if_pos rfl]
   exact hh
  ·refine⟨b,s,m,x,rfl,by rw[hc2 j hji];exact e2,?_⟩
   show Hdr e.sz (if j=i then(q,ys.length)else r.row j).1 0 (if j=i then(q,ys.length)else r.row j).2 x
   rw[if_neg hji]
   exact e3
 ·cases e
  exact⟨by simpa[numOf]using b1,hbk _ b2,b3⟩
 ·rw[List.length_set]at hj
  have hbb:b'=b:=by simpa[plB]using hb'
  simp only at hx
  split at hx
  ·exact hqp b' hx hbb
  ·exact hoff j b' hj hx hbb
 ·rw[List.length_set]at hj hk
  simp only at h1 h2
  split at h1<;>split at h2
  ·omega
  ·have:=hqr b' k h1 hk h2
   omega
  ·have:=hqr b' j h2 hj h1
   omega
  ·exact h.sep b' j k hj hk h1 h2
theorem rows_swap {e:Ty} {ids:Option (List Nat)} {st:List (List e.den)} {pd:Option (Nat×List e.den)} {r:NI} {b s m:Nat} (h:Rws Z w e ids st pd (some (b,s,m)) r) {i id:Nat} {u:Value} {l:List Nat} (hl:l=idsL ids st.length) (hi:i<numOf ids st)
  (hh:Hdr e.sz (r.row id).1 0 (r.row id).2 u) (hne: ∀b',b'≠b→w'.heap[b']?=w.heap[b']?) (hc:w'.cell? ⟨b,s+i,none⟩=some u) (hc2: ∀k,k≠i→w'.cell? ⟨b,s+k,none⟩=w.cell? ⟨b,s+k,none⟩) (hbk: ∀k,Blk w b k→Blk w' b k):
  Rws Z w' e (some (l.set i id)) st none (some (b,s,m)) { r with pd:=none }∧numOf (some (l.set i id)) st=numOf ids st:=by
 have hnum:numOf (some (l.set i id)) st=numOf ids st:=by
  subst hl
  cases ids<;>simp[numOf,idsL]
 have hat: ∀j,j<numOf ids st→idAt (some (l.set i id)) j=if j=i then id else idAt ids j:=fun j hj=>by
  have hll:l.length=numOf ids st:=by
   subst hl
   cases ids<;>simp[numOf,idsL]
  by_cases hji:j=i
  ·subst hji
   simp only[idAt,if_true]
   rw[List.getD_eq_getElem?_getD,List.getElem?_set_self (by omega)]
   rfl
  ·simp only[if_neg hji,idAt]
   rw[List.getD_eq_getElem?_getD,List.getElem?_set_ne (Ne.symm hji)]
   subst hl
   cases ids with
   | none=>
    simp only[numOf]at hj
    simp[hj,idAt,idsL]
   | some l'=>simp[idAt,idsL]
 obtain⟨b1,b2,b3⟩:=h.blk b s m rfl
 have hk:Kept Z w Z w':=⟨fun _ h=>h,fun b' hb'=>hne b' fun e=>b3 (e▸hb')⟩
 have hoff: ∀j b',j<st.length→plB (r.row j).1 b'→b'≠b:=fun j b' hj hb' e=>h.off b j rfl hj (e▸hb')
 refine⟨{ sz:=h.sz,out:=h.out,len:=h.len,own:=fun j xs hx=>?_,head:=fun j hj=>?_,blk:=fun b' s' m' e=>?_,off:=h.off,sep:=h.sep,pd0:=fun _=>rfl,pd1:=fun _ _ h=>(by cases h) },hnum⟩
 ·have hjl:=(List.getElem?_eq_some_iff.1 hx).1
  exact(h.own j xs hx).kept hk (fun b' hb'=>hne b' (hoff j b' hjl hb')) (h.own j xs hx).nz
 ·rw[hnum]at hj
  obtain⟨b',s',m',x,e1,e2,e3⟩:=h.head j hj
  cases e1
  rw[hat j hj]
  by_cases hji:j=i
  ·subst hji
   rw[if_pos rfl]
   exact⟨b,s,m,u,rfl,hc,hh⟩
  ·rw[if_neg hji]
   exact⟨b,s,m,x,rfl,by rw[hc2 j hji];exact e2,e3⟩
 ·cases e
  rw[hnum]
  exact⟨b1,hbk _ b2,b3⟩
end
section
variable {P:Program} {E:Env} {gv:Nat→AV} {hp:Nat→Ob} {o:Oper} {tm:Nat→AV} {n:Nat} {K:Eff→Option FRes} {r:FRes}
theorem head_write (hE:EnvOk P E) {t:Nat} (ht:(E.ti t).ok=true) (hsz:(E.ti t).size=1) {w:World} {b s i m:Nat} {u:Value} (hu:u.oneCell'=true) (hb:Blk w b (s+m)) (hi:i<m):
  ∃w',(Instr.storeAt t (.pointer (some ⟨b,s+i,none⟩)) u).run P w= .ok () w'∧(∀b',b'≠b→w'.heap[b']?=w.heap[b']?)∧w'.heap.size=w.heap.size∧w'.os=w.os∧w'.tape=w.tape∧w'.output=w.output∧w'.cell? ⟨b,s+i,none⟩=some u∧
   (∀k,k≠i→w'.cell? ⟨b,s+k,none⟩=w.cell? ⟨b,s+k,none⟩)∧ ∀k,Blk w b k→Blk w' b k:=by
 obtain⟨cur,el,h1,h2⟩:=hb
 have hc:=cells_one hu
 have hr:=run_storeAt (P:=P) (w:=w) (q:=s+i) (x:=u) hE ht (by rw[hc,hsz];rfl) h1 (by rw[hc];simp;omega) (by rw[hc];simpa using hu)
 obtain⟨f1,f2,f3,f4,f5⟩:=setRow_facts w b (cur.toList.take (s+i)++u.cells.toList++cur.toList.drop (s+i+u.cells.size)).toArray
 have hcell: ∀j,(w.setRow b (cur.toList.take (s+i)++u.cells.toList++cur.toList.drop (s+i+u.cells.size)).toArray).cell? ⟨b,j,none⟩=if j=s+i then some u else w.cell? ⟨b,j,none⟩:=fun j=>by
  rw[setRow_cell h1,List.getElem?_toArray]
  have:=splice_get cur.toList u.cells.toList (s+i) j (by rw[hc];simp;omega)
  rw[Array.length_toList]at this
  rw[this,hc]
  by_cases hj:j=s+i
  ·subst hj
   simp
  ·rw[if_neg (by simp;omega),if_neg hj]
   simp[World.cell?,h1]
 refine⟨_,hr,f1,f2,f3,f4,f5,by rw[hcell,if_pos rfl],fun k hk=>by rw[hcell,if_neg (by omega)],fun k hk=>?_⟩
 obtain⟨c,el',e1,e2⟩:=hk
 rw[h1]at e1
 cases e1
 refine⟨_,el,setRow_heap w b cur _ el (0,0) h1,?_⟩
 rw[List.size_toArray,hc]
 simp only[List.length_append,List.length_take,List.length_drop,Array.length_toList,List.size_toArray,List.length_cons,List.length_nil]
 omega
theorem store_pap (hE:EnvOk P E) (hg:E.gl=gv) {t:Nat} {x y:Operand} (ho:o.op= .store t x y) (ht:(E.ti t).ok=true) (hsz:(E.ti t).size=1) {g i:Nat} (hx:evA E tm x= .ptr g i 0) {e:Ty} {st:List (List e.den)} {v:Nat} {ys:List e.den} (hgo:hp g= .N e none st v (some (i,ys)))
  (hy:evA E tm y= .pap g v):OpSnd P gv o tm hp n { v:= .any,rd:=[g],wr:=[(g, .N e none (st.set i ys) (v+1) none)] }:=by
 refine OpSnd.store (fs:=[]) (ds:=[]) (.inl ⟨rfl,rfl⟩) rfl (by simp) (by simp) (by simp) rfl fun tm' hp' Z w σ a ht' hh hs=>⟨by simp,?_⟩
 rw[ZF_nil]
 have hxv:VR Z w σ (evA E tm x) [a.eval x]:=evA_op hg hs ht' (by simp[ho,Op.operands])
 have hyv:VR Z w σ (evA E tm y) [a.eval y]:=evA_op hg hs ht' (by simp[ho,Op.operands])
 have hgo':hp' g=_:=(hh g (by simp)).trans hgo
 obtain⟨p,q,h1,h2,h3⟩:=hs.mem.N hgo'
 rw[hx]at hxv
 obtain⟨v0,e1,hv⟩:=hxv
 simp only[List.cons.injEq,and_true]at e1
 rw[←e1,h1]at hv
 obtain⟨b,s,m,rfl,e2,hi⟩:=hv
 rw[hy]at hyv
 obtain⟨u0,e3,hyv⟩:=hyv
 simp only[List.cons.injEq,and_true]at e3
 rw[←e3]at hyv
 have hone:=hyv.one
 rw[h1]at hyv
 obtain⟨_,hyv⟩:=hyv
 obtain⟨qp,d1,d2,d3,d4⟩:=h3.pd1 i ys rfl
 have hyv:=hyv (by rw[h2]) qp ys.length d1
 obtain⟨b1,b2,b3⟩:=h3.blk b s m rfl
 obtain⟨w',r1,r2,r3,r4,r5,r6,r7,r8,r9⟩:=head_write (P:=P) (w:=w) (i:=i) hE ht hsz hone b2 (by omega)
 have hst:i<st.length:=hi
 refine⟨w',b, .S 1 (numOf none (st.set i ys)) (some (b,s,m)) (some { v:=v+1,sz:=q.sz,row:=fun j=>if j=i then(qp,ys.length)else q.row j,pd:=none }),by rw[run_store_op ho,e2];simp only[Nat.mul_one,Nat.add_zero];rw[r1];rfl,by rw[hgo',h1];exact .inl rfl,r2,r3,r4,r5,r6,by simp,
  by rw[h1];simp only[numOf,List.length_set];exact .rows _ _ _ _ _ (.inl (by simp[h2])),fun b' hb'=> .inl ?_,fun Z' hZ' hk hnz σ' hsl=>?_⟩
 ·rw[hgo',h1]
  rcases hb' with hb'|⟨j,hj,hb'⟩|⟨hp0,_⟩
  ·exact .inl hb'
  ·rw[List.length_set]at hj
   simp only at hb'
   split at hb'
   ·exact .inr (.inr ⟨rfl,qp,_,d1,hb'⟩)
   ·exact .inr (.inl ⟨j,hj,hb'⟩)
  ·cases hp0
 ·subst hZ'
  exact⟨_,_,rfl,rfl,rows_put h3 hst d2 (by rw[←h3.sz];exact hyv) (fun b' hb' e=>d3 b' hb' (by rw[e];rfl)) (fun b' j h1 h2 h3=>d4 b' j h1 h2 h3) r2 r7 r8 r9 _⟩
theorem store_sl (hE:EnvOk P E) (hg:E.gl=gv) {t:Nat} {x y:Operand} (ho:o.op= .store t x y) (ht:(E.ti t).ok=true) (hsz:(E.ti t).size=1) {g i g2:Nat} (hx:evA E tm x= .ptr g i 0) {e:Ty} {st:List (List e.den)} {v:Nat} {pd:Option (Nat×List e.den)} {ys:List e.den} (hgo:hp g= .N e none st v pd)
  (hy:evA E tm y= .sl g2 none none) (hg2:hp g2= .L e ys) (hne:g2≠g):OpSnd P gv o tm hp n { v:= .any,rd:=[g,g2],wr:=[(g, .N e none (st.set i ys) (v+1) none),(g2, .dead)] }:=by
 refine OpSnd.store (fs:=[]) (ds:=[g2]) (.inr ⟨rfl,rfl⟩) rfl (by simp) (by simp) (by simp[hg2];exact hne) rfl fun tm' hp' Z w σ a ht' hh hs=>⟨by simp,?_⟩
 rw[ZF_nil]
 have hxv:VR Z w σ (evA E tm x) [a.eval x]:=evA_op hg hs ht' (by simp[ho,Op.operands])
 have hyv:VR Z w σ (evA E tm y) [a.eval y]:=evA_op hg hs ht' (by simp[ho,Op.operands])
 have hgo':hp' g=_:=(hh g (by simp)).trans hgo
 have hg2':hp' g2=_:=(hh g2 (by simp)).trans hg2
 obtain⟨p,q,h1,h2,h3⟩:=hs.mem.N hgo'
 rw[hx]at hxv
 obtain⟨v0,e1,hv⟩:=hxv
 simp only[List.cons.injEq,and_true]at e1
 rw[←e1,h1]at hv
 obtain⟨b,s,m,rfl,e2,hi⟩:=hv
 rw[hy]at hyv
 have hone:=oneA_VR hyv rfl
 obtain⟨p2,k1,k2,k3⟩:=hs.mem.whole hg2' hyv
 obtain⟨b1,b2,b3⟩:=h3.blk b s m rfl
 obtain⟨w',r1,r2,r3,r4,r5,r6,r7,r8,r9⟩:=head_write (P:=P) (w:=w) (i:=i) hE ht hsz hone b2 (by omega)
 have hst:i<st.length:=hi
 have hbl2: ∀b',plB p2 b'→blks (hp' g2) (σ g2) b':=fun b' hb'=>by rw[hg2',k1];exact hb'
 have hblg:blks (hp' g) (σ g) b:=by rw[hgo',h1];exact .inl rfl
 refine⟨w',b, .S 1 (numOf none (st.set i ys)) (some (b,s,m)) (some { v:=v+1,sz:=q.sz,row:=fun j=>if j=i then(p2,ys.length)else q.row j,pd:=none }),by rw[run_store_op ho,e2];simp only[Nat.mul_one,Nat.add_zero];rw[r1];rfl,hblg,r2,r3,r4,r5,r6,by simp,
  by rw[h1];simp only[numOf,List.length_set];exact .rows _ _ _ _ _ (.inl (by simp[h2])),fun b' hb'=>?_,fun Z' hZ' hk hnz σ' hsl=>?_⟩
 ·rcases hb' with hb'|⟨j,hj,hb'⟩|⟨hp0,_⟩
  ·exact .inl (by rw[hgo',h1];exact .inl hb')
  ·rw[List.length_set]at hj
   simp only at hb'
   split at hb'
   ·exact .inr ⟨g2,by simp,hbl2 b' hb'⟩
   ·exact .inl (by rw[hgo',h1];exact .inr (.inl ⟨j,hj,hb'⟩))
  ·cases hp0
 ·subst hZ'
  refine⟨_,_,rfl,rfl,rows_put h3 hst k2 k3 (fun b' hb' e=>hne (hs.mem.sep g2 g b (e▸hbl2 b' hb') hblg)) (fun b' j h1' h2' h3'=>?_) r2 r7 r8 r9 _⟩
  exact absurd (hs.mem.sep g2 g b' (hbl2 b' h1') (by rw[hgo',h1];exact .inr (.inl ⟨j,h2',h3'⟩))) hne
theorem store_row (hE:EnvOk P E) (hg:E.gl=gv) {t:Nat} {x y:Operand} (ho:o.op= .store t x y) (ht:(E.ti t).ok=true) (hsz:(E.ti t).size=1) {g i id:Nat} (hx:evA E tm x= .ptr g i 0) {e:Ty} {ids:Option (List Nat)} {st:List (List e.den)} {v:Nat} {pd:Option (Nat×List e.den)} (hgo:hp g= .N e ids st v pd)
  (hy:evA E tm y= .row g id none none v) {l:List Nat} (hl:l=idsL ids st.length):OpSnd P gv o tm hp n { v:= .any,rd:=[g],wr:=[(g, .N e (some (l.set i id)) st v none)] }:=by
 refine OpSnd.store (fs:=[]) (ds:=[]) (.inl ⟨rfl,rfl⟩) rfl (by simp) (by simp) (by simp) rfl fun tm' hp' Z w σ a ht' hh hs=>⟨by simp,?_⟩
 rw[ZF_nil]
 have hxv:VR Z w σ (evA E tm x) [a.eval x]:=evA_op hg hs ht' (by simp[ho,Op.operands])
 have hyv:VR Z w σ (evA E tm y) [a.eval y]:=evA_op hg hs ht' (by simp[ho,Op.operands])
 have hgo':hp' g=_:=(hh g (by simp)).trans hgo
 obtain⟨p,q,h1,h2,h3⟩:=hs.mem.N hgo'
 rw[hx]at hxv
 obtain⟨v0,e1,hv⟩:=hxv
 simp only[List.cons.injEq,and_true]at e1
 rw[←e1,h1]at hv
 obtain⟨b,s,m,rfl,e2,hi⟩:=hv
 rw[hy]at hyv
 have hone:=oneA_VR hyv rfl
 obtain⟨u0,e3,hyv⟩:=hyv
 simp only[List.cons.injEq,and_true]at e3
 rw[←e3,h1]at hyv
 obtain⟨_,hyv⟩:=hyv
 have hyv:Hdr q.sz (q.row id).1 0 (q.row id).2 (a.eval y):=by simpa[ofs,slenN]using (hyv (by rw[h2])).1
 obtain⟨b1,b2,b3⟩:=h3.blk b s m rfl
 obtain⟨w',r1,r2,r3,r4,r5,r6,r7,r8,r9⟩:=head_write (P:=P) (w:=w) (i:=i) hE ht hsz hone b2 (by omega)
 obtain⟨t1,t2⟩:=rows_swap (id:=id) h3 hl hi (by rw[←h3.sz];exact hyv) r2 r7 r8 r9
 refine⟨w',b, .S 1 (numOf (some (l.set i id)) st) (some (b,s,m)) (some { q with pd:=none }),by rw[run_store_op ho,e2];simp only[Nat.mul_one,Nat.add_zero];rw[r1];rfl,by rw[hgo',h1];exact .inl rfl,r2,r3,r4,r5,r6,by simp,
  by rw[h1,t2];exact .rows _ _ _ _ _ (.inr ⟨rfl,rfl,rfl, .inr rfl⟩),fun b' hb'=> .inl ?_,fun Z' hZ' hk hnz σ' hsl=>?_⟩
 ·rw[hgo',h1]
  rcases hb' with hb'|hb'|⟨hp0,_⟩
  ·exact .inl hb'
  ·exact .inr (.inl hb')
  ·cases hp0
 ·subst hZ'
  exact⟨_,_,rfl,h2,t1⟩
theorem store_prw (hE:EnvOk P E) (hg:E.gl=gv) {t:Nat} {x y:Operand} (ho:o.op= .store t x y) (ht:(E.ti t).ok=true) {g id j of:Nat} {v:Nat} (hx:evA E tm x= .prw g id j of v) {e:Ty} {ids:Option (List Nat)} {st:List (List e.den)} {pd:Option (Nat×List e.den)} (hgo:hp g= .N e ids st v pd) {v':AV} (hfz:frz hp (evA E tm y)=some (v',[]))
  (hc:v'.cells.len=(E.ti t).size∧of+(E.ti t).size≤e.sz∧cellsOk v'=true) {x':e.den} (hof:ofC e ((toC e (rdE e (rowOf st id) j)).put of v'.cells)=some (x', .e0)):
  OpSnd P gv o tm hp n { v:= .any,rd:=[g],wr:=[(g, .N e ids (st.set id (List.set (rowOf st id) j x')) v none)] }:=by
 refine OpSnd.store (fs:=[]) (ds:=[]) (.inl ⟨rfl,rfl⟩) rfl (by simp) (by simp) (by simp) rfl fun tm' hp' Z w σ a ht' hh hs=>⟨by simp,?_⟩
 rw[ZF_nil]
 have hxv:VR Z w σ (evA E tm x) [a.eval x]:=evA_op hg hs ht' (by simp[ho,Op.operands])
 have hyv:VR Z w σ (evA E tm y) [a.eval y]:=evA_op hg hs ht' (by simp[ho,Op.operands])
 have hgo':hp' g=_:=(hh g (by simp)).trans hgo
 obtain⟨p,q,h1,h2,h3⟩:=hs.mem.N hgo'
 obtain⟨k1,_,_,_⟩:=frz_VR (σ':=σ) hs.mem (Kept.refl Z w) hfz (by simp) (by simp) hyv
 rw[hx]at hxv
 obtain⟨v0,e1,hv⟩:=hxv
 simp only[List.cons.injEq,and_true]at e1
 rw[←e1,h1]at hv
 obtain⟨_,hv⟩:=hv
 obtain⟨b,s,m,e3,e2,hj⟩:=hv (by rw[h2])
 rw[h3.lenOf]at hj
 have hid:id<st.length:=by
  rcases Nat.lt_or_ge id st.length with hi|hi
  ·exact hi
  ·simp[rowOf,List.getElem?_eq_none hi]at hj
 have hro:st[id]?=some (rowOf st id):=by simp[rowOf,hid]
 have hown:=h3.own id _ hro
 rw[e3]at hown
 obtain⟨o1,⟨cur,el,o2,o3⟩,o4,o5⟩:=hown
 have hcl:s+(rowOf st id).length*e.sz≤cur.size:=by
  have:(rowOf st id).length*e.sz≤m*e.sz:=Nat.mul_le_mul_right _ o1
  omega
 obtain⟨c1,c2⟩:=cells_VR k1 hc.2.2
 have hcl2:=c1.len c2
 rw[Array.length_toList]at hcl2
 obtain⟨f1,f2,f3,f4,f5⟩:=setRow_facts w b (cur.toList.take (s+j*e.sz+of)++(a.eval y).cells.toList++cur.toList.drop (s+j*e.sz+of+(a.eval y).cells.size)).toArray
 obtain⟨q1,q2,q3,q4⟩:=elem_write o5 hj o2 hcl (Kept.refl Z w) o4 k1 hc.2.2 (by omega) hof rfl
 have hr:=run_storeAt (P:=P) (w:=w) (q:=s+j*e.sz+of) (x:=a.eval y) hE ht (by omega) o2 q1 q2
 have hbr:blks (hp' g) (σ g) b:=by rw[hgo',h1];exact .inr (.inl ⟨id,hid,by rw[e3];rfl⟩)
 rw[h3.sz]at e2
 refine⟨_,b, .S 1 (numOf ids (st.set id (List.set (rowOf st id) j x'))) p (some { q with pd:=none }),by rw[run_store_op ho,e2,hr];rfl,hbr,f1,f2,f3,f4,f5,by simp,
  by rw[h1];have:numOf ids (st.set id (List.set (rowOf st id) j x'))=numOf ids st:=(by cases ids<;>simp[numOf]);rw[this];exact .rows _ _ _ _ _ (.inr ⟨rfl,rfl,rfl, .inr rfl⟩),fun b' hb'=> .inl ?_,fun Z' hZ' hk hnz σ' hsl=>?_⟩
 ·rw[hgo',h1]
  rcases hb' with hb'|⟨k,hk,hb'⟩|⟨hp0,_⟩
  ·exact .inl hb'
  ·exact .inr (.inl ⟨k,by simpa using hk,hb'⟩)
  ·cases hp0
 ·subst hZ'
  have hnum:numOf ids (st.set id (List.set (rowOf st id) j x'))=numOf ids st:=by cases ids<;>simp[numOf]
  have hpne: ∀b',plB p b'→b'≠b:=fun b' hb' e=>h3.off b' id hb' hid (by rw[e3,e];rfl)
  have hrne: ∀k b',k<st.length→k≠id→plB (q.row k).1 b'→b'≠b:=fun k b' hk hne hb' e=>hne (h3.sep b k id hk hid (e▸hb') (by rw[e3];rfl))
  refine⟨p,_,rfl,h2,{ sz:=h3.sz,out:=fun k hk'=>h3.out k (by simpa using hk'),len:=fun k xs hx=>?_,own:=fun k xs hx=>?_,head:=fun k hk'=>?_,blk:=fun b' s' m' e=>?_,off:=fun b' k hb' hk'=>h3.off b' k hb' (by simpa using hk'),sep:=fun b' k k' hk1 hk2=>h3.sep b' k k' (by simpa using hk1) (by simpa using hk2),pd0:=fun _=>rfl,pd1:=fun _ _ h=>(by cases h) }⟩
  ·by_cases hki:id=k
   ·subst hki
    rw[List.getElem?_set_self hid]at hx
    cases hx
    rw[List.length_set]
    exact h3.len id _ hro
   ·rw[List.getElem?_set_ne hki]at hx
    exact h3.len k xs hx
  ·by_cases hki:id=k
   ·subst hki
    rw[List.getElem?_set_self hid]at hx
    cases hx
    show Own _ _ (q.row id).1 e _
    rw[e3]
    exact⟨by rw[List.length_set];exact o1,q4 _ ⟨cur,el,o2,o3⟩,o4,q3⟩
   ·rw[List.getElem?_set_ne hki]at hx
    have hkl:=(List.getElem?_eq_some_iff.1 hx).1
    exact(h3.own k xs hx).kept hk (fun b' hb'=>f1 b' (hrne k b' hkl (Ne.symm hki) hb')) (h3.own k xs hx).nz
  ·rw[hnum]at hk'
   obtain⟨b',s',m',x0,g1,g2,g3⟩:=h3.head k hk'
   refine⟨b',s',m',x0,g1,?_,g3⟩
   rw[World.cell?_of_block (w:=w) (a:=⟨b',s'+k,none⟩) (f1 b' (hpne b' (by simp[g1,plB])))]
   exact g2
  ·obtain⟨g1,g2,g3⟩:=h3.blk b' s' m' e
   exact⟨by rw[hnum];exact g1,g2.kept (f1 b' (hpne b' (by simp[e,plB]))),g3⟩
theorem snd_store (hE:EnvOk P E) (hg:E.gl=gv) {t:Nat} {x y:Operand} (ho:o.op= .store t x y) (h:storeE E hp t (evA E tm x) (evA E tm y) K=some r):Snd P gv o tm hp n K r:=by
 unfold storeE at h
 cases ht:(E.ti t).ok
 ·rw[ht]at h;cases h
 rw[ht]at h
 simp only[Bool.not_true,cond_false]at h
 split at h
 ·rename_i g i of hx
  split at h
  ·rename_i cs hgo
   split at h
   case isFalse=>cases h
   rename_i hc
   exact⟨_,h,store_B hE hg ho ht hx hgo hc rfl⟩
  ·rename_i e xs hgo
   split at h
   case h_2=>cases h
   rename_i v' fs hfz
   split at h
   case isTrue=>cases h
   rename_i hc
   simp only[Bool.or_eq_true,not_or,Bool.not_eq_true,Bool.not_eq_false',Bool.not_eq_true']at hc
   exact store_L hE hg ho ht hx hgo hfz hc.1 (by simpa using hc.2) h
  ·rename_i e ids st v pd hgo
   split at h
   case isFalse=>cases h
   rename_i hc
   obtain⟨rfl,hsz⟩:=hc
   split at h
   ·rename_i g2 v2 hy
    split at h
    ·rename_i id ys
     split at h
     case isFalse=>cases h
     rename_i hc2
     obtain⟨rfl,rfl⟩:=hc2
     split at h
     case isFalse=>cases h
     rename_i hii
     subst hii
     exact⟨_,h,store_pap hE hg ho ht hsz hx hgo hy⟩
    ·cases h
   ·rename_i g2 hy
    split at h
    ·split at h
     ·rename_i e' xs hg2
      split at h
      case h_2=>cases h
      rename_i ys hcast
      obtain⟨he,hzz⟩:=cast_list hcast
      subst he
      have hzz:xs=ys:=hzz
      subst hzz
      split at h
      case isTrue=>cases h
      rename_i hne
      exact⟨_,h,store_sl hE hg ho ht hsz hx hgo hy hg2 hne⟩
     ·cases h
    ·cases h
   ·rename_i g2 id v2 hy
    split at h
    case isFalse=>cases h
    rename_i hc2
    obtain⟨rfl,rfl⟩:=hc2
    exact⟨_,h,store_row hE hg ho ht hsz hx hgo hy (by cases ids<;>rfl)⟩
   ·cases h
  ·cases h
 ·rename_i g id j of u hx
  split at h
  case h_2=>cases h
  rename_i e ids st v pd hgo
  split at h
  case isFalse=>cases h
  rename_i huv
  subst huv
  split at h
  case h_2=>cases h
  rename_i v' hfz
  split at h
  case isFalse=>cases h
  rename_i hc
  split at h
  case h_2=>cases h
  rename_i x' hof
  exact⟨_,h,store_prw hE hg ho ht hx hgo hfz hc hof⟩
 ·cases h
end
section
variable {P:Program} {E:Env} {gv:Nat→AV} {Z Z':Nat→Prop} {w w':World} {σ σ':Nat→Sh} {hp hp':Nat→Ob}
theorem VR.live: ∀{v:AV} {l:List Value},VR Z w σ v l→ ∀h∈hs v,σ h≠ .un
 | .any,_,_,h,hm=>by cases hm
 | .nil,_,_,h,hm=>by cases hm
 | .k _,_,_,h,hm=>by cases hm
 | .e0,_,_,h,hm=>by cases hm
 | .p _ _,_,_,h,hm=>by cases hm
 | .rl _ _ _ _,_,_,h,hm=>by cases hm
 | .sl _ _ _,_,hv,h,hm=>fun e=>by
  obtain⟨v,_,hv⟩:=hv
  simp only[hs,List.mem_singleton]at hm
  rw[←hm,e]at hv
  exact hv.elim
 | .ptr _ _ _,_,hv,h,hm=>fun e=>by
  obtain⟨v,_,hv⟩:=hv
  simp only[hs,List.mem_singleton]at hm
  rw[←hm,e]at hv
  exact hv.elim
 | .row _ _ _ _ _,_,hv,h,hm=>fun e=>by
  obtain⟨v,_,hv⟩:=hv
  simp only[hs,List.mem_singleton]at hm
  rw[←hm,e]at hv
  exact hv.elim
 | .prw _ _ _ _ _,_,hv,h,hm=>fun e=>by
  obtain⟨v,_,hv⟩:=hv
  simp only[hs,List.mem_singleton]at hm
  rw[←hm,e]at hv
  exact hv.elim
 | .pap _ _,_,hv,h,hm=>fun e=>by
  obtain⟨v,_,hv⟩:=hv
  simp only[hs,List.mem_singleton]at hm
  rw[←hm,e]at hv
  exact hv.elim
 | .agg _,_,hv,h,hm=>by
  obtain⟨c,_,hv,_⟩:=hv
  exact VR.live hv h hm
 | .tup _,_,hv,h,hm=>by
  obtain⟨c,_,hv,_⟩:=hv
  exact VR.live hv h hm
 | .clo _ _,_,hv,h,hm=>by
  obtain⟨c,_,hv,_⟩:=hv
  exact VR.live hv h hm
 | .rp _ _,_,hv,h,hm=>by
  obtain⟨b,s,c,_,_,_,hv,_⟩:=hv
  exact VR.live hv h hm
 | .cn a b,_,hv,h,hm=>by
  obtain⟨v,r,_,h1,h2,_⟩:=hv
  rcases List.mem_append.1 hm with hm|hm
  ·exact VR.live h1 h hm
  ·exact VR.live h2 h hm
theorem VR.free {v:AV} {l:List Value} (h:VR Z w σ v l) (hf:hs v=[]) (k:Kept Z w Z' w'):VR Z' w' σ' v l:=h.mono k fun g hg=>by rw[hf]at hg;cases hg
structure RenOk (c:Nat) (s s2:Sh):Prop where
 sl: ∀h h' off len v,HV s (.sl h off len) v→HV s2 (.sl h' off len) v
 ptr: ∀h h' i o v,HV s (.ptr h i o) v→HV s2 (.ptr h' i o) v
 row: ∀h h' id off len v,HV s (.row h id off len c) v→HV s2 (.row h' id off len 0) v
 prw: ∀h h' id j o v,HV s (.prw h id j o c) v→HV s2 (.prw h' id j o 0) v
def shC:Sh→Sh
 | .S sz n p (some r)=> .S sz n p (some { r with v:=0,pd:=none })
 | s=>s
def shB (v:Nat):Sh→Sh
 | .S sz n p (some r)=> .S sz n p (some { r with v:=v+1,pd:=none })
 | s=>s
def shCo (o:Ob) (s:Sh):Sh:=match o with
 | .dead=> .no
 | _=>shC s
def shBo (o:Ob) (v:Nat) (s:Sh):Sh:=match o with
 | .dead=> .no
 | _=>shB v s
theorem renOk_no (c:Nat) (s:Sh):RenOk c s .no:=⟨fun _ _ _ _ _ h=>h.one,fun _ _ _ _ _ h=>h.one,fun _ _ _ _ _ _ h=>h.one,fun _ _ _ _ _ _ h=>h.one⟩
theorem renOk_C {c:Nat} {s:Sh} (h: ∀sz n p r,s= .S sz n p (some r)→c=r.v):RenOk c s (shC s):=by
 cases s with
 | un=>exact⟨fun _ _ _ _ _ h=>h,fun _ _ _ _ _ h=>h,fun _ _ _ _ _ _ h=>h,fun _ _ _ _ _ _ h=>h⟩
 | no=>exact⟨fun _ _ _ _ _ h=>h,fun _ _ _ _ _ h=>h,fun _ _ _ _ _ _ h=>h,fun _ _ _ _ _ _ h=>h⟩
 | B b m=>exact⟨fun _ _ _ _ _ h=>h,fun _ _ _ _ _ h=>h,fun _ _ _ _ _ _ h=>h,fun _ _ _ _ _ _ h=>h⟩
 | S sz n p r=>
  cases r with
  | none=>exact⟨fun _ _ _ _ _ h=>h,fun _ _ _ _ _ h=>h,fun _ _ _ _ _ _ h=>h,fun _ _ _ _ _ _ h=>h⟩
  | some r=>
   have hc:=h sz n p r rfl
   exact⟨fun _ _ _ _ _ h=>h,fun _ _ _ _ _ h=>h,fun _ _ _ _ _ _ h=>⟨⟨Nat.le_refl _,h.1.2⟩,fun _=>h.2 hc⟩,fun _ _ _ _ _ _ h=>⟨⟨Nat.le_refl _,h.1.2⟩,fun _=>h.2 hc⟩⟩
theorem renOk_B (c v:Nat) (s:Sh):RenOk c s (shB v s):=by
 cases s with
 | un=>exact⟨fun _ _ _ _ _ h=>h,fun _ _ _ _ _ h=>h,fun _ _ _ _ _ _ h=>h,fun _ _ _ _ _ _ h=>h⟩
 | no=>exact⟨fun _ _ _ _ _ h=>h,fun _ _ _ _ _ h=>h,fun _ _ _ _ _ _ h=>h,fun _ _ _ _ _ _ h=>h⟩
 | B b m=>exact⟨fun _ _ _ _ _ h=>h,fun _ _ _ _ _ h=>h,fun _ _ _ _ _ _ h=>h,fun _ _ _ _ _ _ h=>h⟩
 | S sz n p r=>
  cases r with
  | none=>exact⟨fun _ _ _ _ _ h=>h,fun _ _ _ _ _ h=>h,fun _ _ _ _ _ _ h=>h,fun _ _ _ _ _ _ h=>h⟩
  | some r=>exact⟨fun _ _ _ _ _ h=>h,fun _ _ _ _ _ h=>h,fun _ _ _ _ _ _ h=>⟨⟨Nat.zero_le _,h.1.2⟩,fun e=>by cases e⟩,fun _ _ _ _ _ _ h=>⟨⟨Nat.zero_le _,h.1.2⟩,fun e=>by cases e⟩⟩
theorem renOk_Co {c:Nat} {o:Ob} {s:Sh} (h:o≠ .dead→ ∀sz n p r,s= .S sz n p (some r)→c=r.v):RenOk c s (shCo o s):=by
 cases o with
 | dead=>exact renOk_no c s
 | _=>exact renOk_C (h (by simp))
theorem renOk_Bo (c v:Nat) (o:Ob) (s:Sh):RenOk c s (shBo o v s):=by
 cases o with
 | dead=>exact renOk_no c s
 | _=>exact renOk_B c v s
theorem isL_ren (f:Nat→Option Nat) (c:Nat→Nat) {v:AV} (h:isL v=true):isL (ren f c v)=true:=by
 cases v<;>first|rfl|cases h
theorem len_ren (f:Nat→Option Nat) (c:Nat→Nat): ∀(v:AV),isL v=true→prL v→(ren f c v).len=v.len
 | .e0,_,_=>rfl
 | .cn a b,_,h=>by
  simp only[ren,AV.len]
  rw[len_ren f c b (prL_isL (a:=b) h) h]
theorem VR.prL: ∀{cs:AV} {l:List Value},VR Z w σ cs l→isL cs=true→Am.prL cs
 | .e0,_,_,_=>trivial
 | .cn a b,_,h,_=>by
  obtain⟨v,r,rfl,_,h2,il⟩:=h
  exact VR.prL (cs:=b) h2 il
theorem ren_VR {f:Nat→Option Nat} {c:Nat→Nat}: ∀{v:AV} {l:List Value},VR Z w σ v l→(∀h∈hs v, ∀j,f h=some j→RenOk (c h) (σ h) (σ' j))→VR Z w σ' (ren f c v) l
 | .any,_,h,_=>h
 | .nil,_,h,_=>h
 | .k _,_,h,_=>h
 | .e0,_,h,_=>h
 | .p _ _,_,h,_=>h
 | .rl _ _ _ _,_,h,_=>h
 | .sl h off len,_,hv,hr=>by
  obtain⟨v,rfl,hv⟩:=hv
  simp only[ren]
  split
  ·rename_i j hj
   exact⟨v,rfl,(hr h (by simp[hs]) j hj).sl _ _ _ _ _ hv⟩
  ·exact⟨v,rfl⟩
 | .ptr h i o,_,hv,hr=>by
  obtain⟨v,rfl,hv⟩:=hv
  simp only[ren]
  split
  ·rename_i j hj
   exact⟨v,rfl,(hr h (by simp[hs]) j hj).ptr _ _ _ _ _ hv⟩
  ·exact⟨v,rfl⟩
 | .row h id off len u,_,hv,hr=>by
  obtain⟨v,rfl,hv⟩:=hv
  simp only[ren]
  split
  ·rename_i j hj
   split
   ·rename_i hu
    subst hu
    exact⟨v,rfl,(hr h (by simp[hs]) j hj).row _ _ _ _ _ _ hv⟩
   ·exact⟨v,rfl⟩
  ·exact⟨v,rfl⟩
 | .prw h id i o u,_,hv,hr=>by
  obtain⟨v,rfl,hv⟩:=hv
  simp only[ren]
  split
  ·rename_i j hj
   split
   ·rename_i hu
    subst hu
    exact⟨v,rfl,(hr h (by simp[hs]) j hj).prw _ _ _ _ _ _ hv⟩
   ·exact⟨v,rfl⟩
  ·exact⟨v,rfl⟩
 | .pap h u,_,hv,hr=>by
  obtain⟨v,rfl,hv⟩:=hv
  exact⟨v,rfl⟩
 | .agg cs,_,hv,hr=>by
  obtain⟨c',rfl,h1,il⟩:=hv
  exact⟨c',rfl,ren_VR h1 hr,isL_ren f c il⟩
 | .tup cs,_,hv,hr=>by
  obtain⟨c',rfl,h1,il⟩:=hv
  exact⟨c',rfl,ren_VR h1 hr,isL_ren f c il⟩
 | .clo g cs,_,hv,hr=>by
  obtain⟨c',rfl,h1,il⟩:=hv
  exact⟨c',rfl,ren_VR h1 hr,isL_ren f c il⟩
 | .rp cs o,_,hv,hr=>by
  obtain⟨b,s,c',rfl,h1,h2,h3,il⟩:=hv
  exact⟨b,s,c',rfl,h1,h2,ren_VR h3 hr,isL_ren f c il⟩
 | .cn a b,_,hv,hr=>by
  obtain⟨v,r,rfl,h1,h2,il⟩:=hv
  exact⟨v,r,rfl,ren_VR h1 fun h hm=>hr h (by simp[hs,hm]),ren_VR h2 fun h hm=>hr h (by simp[hs,hm]),isL_ren f c il⟩
theorem Rws.reset {e:Ty} {ids:Option (List Nat)} {st:List (List e.den)} {pd:Option (Nat×List e.den)} {p:Pl} {r:NI} (h:Rws Z w e ids st pd p r) (v:Nat):Rws Z w e ids st none p { r with v:=v,pd:=none }:=
 { sz:=h.sz,out:=h.out,len:=h.len,own:=h.own,head:=h.head,blk:=h.blk,off:=h.off,sep:=h.sep,pd0:=fun _=>rfl,pd1:=fun _ _ h=>by cases h }
theorem renO_OR {f:Nat→Option Nat} {c:Nat→Nat} {o:Ob} {s:Sh} (h:OR Z w σ o s) (hr: ∀h∈obHs o, ∀j,f h=some j→RenOk (c h) (σ h) (σ' j)):
  OR Z w σ' (renO f c o) (shCo o s)∧(∀v,OR Z w σ' (bump v (renO f c o)) (shBo o v s))∧(∀b,blks (renO f c o) (shCo o s) b→blks o s b)∧(∀v b,blks (bump v (renO f c o)) (shBo o v s) b→blks o s b):=by
 cases o with
 | dead=>exact⟨by simp[shCo,OR,renO],fun _=>by simp[shBo,OR,renO,bump],fun _ h=>h.elim,fun _ _ h=>h.elim⟩
 | L e xs=>
  obtain⟨p,rfl,h⟩:=h
  exact⟨⟨p,rfl,h⟩,fun _=>⟨p,rfl,h⟩,fun _ h=>h,fun _ _ h=>h⟩
 | F e xs=>
  obtain⟨p,rfl,h⟩:=h
  exact⟨⟨p,rfl,h⟩,fun _=>⟨p,rfl,h⟩,fun _ h=>h,fun _ _ h=>h⟩
 | B cs=>
  obtain⟨b,c',el,rfl,h1,h2,h3,il⟩:=h
  have hl:=len_ren f c cs il (h3.prL il)
  have h4:=ren_VR h3 hr
  exact⟨⟨b,c',el,by simp[shCo,shC,hl],h1,h2,h4,isL_ren f c il⟩,fun v=>⟨b,c',el,by simp[shBo,shB,hl],h1,h2,h4,isL_ren f c il⟩,fun _ h=>h,fun _ _ h=>h⟩
 | N e ids st v pd=>
  obtain⟨p,r,rfl,hv,h⟩:=h
  refine⟨⟨p,_,rfl,rfl,h.reset 0⟩,fun v'=>⟨p,_,rfl,rfl,h.reset (v'+1)⟩,fun b hb=>?_,fun v' b hb=>?_⟩
  ·rcases hb with hb|hb|⟨hb,_⟩
   ·exact .inl hb
   ·exact .inr (.inl hb)
   ·cases hb
  ·rcases hb with hb|hb|⟨hb,_⟩
   ·exact .inl hb
   ·exact .inr (.inl hb)
   ·cases hb
theorem PV.noSl: ∀(t:Ty) {x:t.den} {l:List Value},noSlT t=true→PV Z w t x l→PV Z' w t x l
 | .int _,_,_,_,h=>h
 | .bool,_,_,_,h=>h
 | .str,_,_,_,h=>h
 | .un,_,_,_,h=>h
 | .sl _,_,_,hn,_=>by cases hn
 | .pr a b,_,_,hn,h=>by
  simp only[noSlT,Bool.and_eq_true]at hn
  obtain⟨l1,l2,e,h1,h2⟩:=h
  exact⟨l1,l2,e,PV.noSl a hn.1 h1,PV.noSl b hn.2 h2⟩
theorem VR.noSl: ∀{v:AV} {l:List Value},noSl v=true→VR Z w σ v l→VR Z' w σ v l
 | .any,_,_,h=>h
 | .nil,_,_,h=>h
 | .k _,_,_,h=>h
 | .e0,_,_,h=>h
 | .p t _,_,hn,h=>⟨h.1,PV.noSl t hn h.2⟩
 | .sl _ _ _,_,_,h=>h
 | .ptr _ _ _,_,_,h=>h
 | .row _ _ _ _ _,_,_,h=>h
 | .prw _ _ _ _ _,_,_,h=>h
 | .pap _ _,_,_,h=>h
 | .rp _ _,_,hn,_=>by cases hn
 | .rl _ _ _ _,_,hn,_=>by cases hn
 | .agg _,_,hn,h=>by
  obtain⟨c,e,h1,il⟩:=h
  exact⟨c,e,VR.noSl hn h1,il⟩
 | .tup _,_,hn,h=>by
  obtain⟨c,e,h1,il⟩:=h
  exact⟨c,e,VR.noSl hn h1,il⟩
 | .clo _ _,_,hn,h=>by
  obtain⟨c,e,h1,il⟩:=h
  exact⟨c,e,VR.noSl hn h1,il⟩
 | .cn a b,_,hn,h=>by
  simp only[Am.noSl,Bool.and_eq_true]at hn
  obtain⟨v,r,e,h1,h2,il⟩:=h
  exact⟨v,r,e,VR.noSl hn.1 h1,VR.noSl hn.2 h2,il⟩
theorem Own.noSl {p:Pl} {e:Ty} {xs:List e.den} (h:Own Z w p e xs) (hn:noSlT e=true) (hz: ∀b,Z' b→Z b):Own Z' w p e xs:=by
 match p,h with
 | none,h=>exact h
 | some (b,s,m),⟨h1,h2,h3,h4⟩=>exact⟨h1,h2,fun h=>h3 (hz b h),fun i x hx=>by
   obtain⟨l,h5,h6⟩:=h4 i x hx
   exact⟨l,PV.noSl e hn h5,h6⟩⟩
theorem OR.noSl {o:Ob} {s:Sh} (h:OR Z w σ o s) (hn:noSlO o=true) (hz: ∀b,Z' b→Z b):OR Z' w σ o s:=by
 cases o with
 | dead=>exact h
 | L e xs=>
  obtain⟨p,e1,h⟩:=h
  exact⟨p,e1,h.noSl hn hz⟩
 | F e xs=>cases hn
 | B cs=>
  obtain⟨b,c,el,e1,h1,h2,h3,il⟩:=h
  exact⟨b,c,el,e1,h1,fun h=>h2 (hz b h),VR.noSl hn h3,il⟩
 | N e ids st v pd=>
  obtain⟨p,r,e1,hv,h⟩:=h
  refine⟨p,r,e1,hv,{ sz:=h.sz,out:=h.out,len:=h.len,own:=fun i xs hx=>(h.own i xs hx).noSl hn hz,head:=h.head,blk:=fun b s m e=>⟨(h.blk b s m e).1,(h.blk b s m e).2.1,fun hb=>(h.blk b s m e).2.2 (hz b hb)⟩,off:=h.off,sep:=h.sep,pd0:=h.pd0,pd1:=fun id xs e=>?_ }⟩
  obtain⟨q,h1,h2,h3,h4⟩:=h.pd1 id xs e
  exact⟨q,h1,h2.noSl hn hz,h3,h4⟩
theorem snapW_VR (m:MR gv Z w σ hp') (k:Kept Z w Z' w) {bx:AV→Option (AV×List Nat)}
  (hbx: ∀{cs c:AV} {l:List Nat} {vs:List Value},bx cs=some (c,l)→(∀h∈l,hp' h=hp h)→(∀h∈l, ∀b,blks (hp' h) (σ h) b→Z' b)→VR Z w σ cs vs→isL cs=true→VR Z' w σ c vs∧isL c=true∧ ∀h∈l,hp' h≠ .dead):
  ∀{v v':AV} {l:List Nat} {vs:List Value},snapW bx hp v=some (v',l)→(∀h∈l,hp' h=hp h)→(∀h∈l, ∀b,blks (hp' h) (σ h) b→Z' b)→VR Z w σ v vs→VR Z' w σ v' vs∧(isL v=true→isL v'=true)∧ ∀h∈l,hp' h≠ .dead
 | .sl g off len,v',l,vs,h,hh,hz,hv=>by
  simp only[snapW]at h
  split at h
  ·rename_i e xs hg
   cases h
   have h1:=hh g (by simp)
   obtain⟨h2,h3⟩:=(m.sl_data k hv (hz g (by simp))).1 e xs (.inl (h1.trans hg))
   exact⟨⟨h3,h2⟩,(fun h=>by cases h),fun h hh=>by simp at hh;subst hh;rw[h1,hg];simp⟩
  ·rename_i e xs hg
   cases h
   have h1:=hh g (by simp)
   obtain⟨h2,h3⟩:=(m.sl_data k hv (hz g (by simp))).1 e xs (.inr (h1.trans hg))
   exact⟨⟨h3,h2⟩,(fun h=>by cases h),fun h hh=>by simp at hh;subst hh;rw[h1,hg];simp⟩
  ·rename_i e st u pd hg
   cases h
   have h1:=hh g (by simp)
   obtain⟨h2,h3⟩:=(m.sl_data k hv (hz g (by simp))).2 e st u pd (h1.trans hg)
   exact⟨⟨h3,h2⟩,(fun h=>by cases h),fun h hh=>by simp at hh;subst hh;rw[h1,hg];simp⟩
  ·cases h
 | .row g id off len u,v',l,vs,h,hh,hz,hv=>by
  simp only[snapW]at h
  split at h
  ·rename_i e ids st u' pd hg
   split at h
   case isFalse=>cases h
   rename_i hu
   cases h
   have h1:=hh g (by simp)
   obtain⟨p,r,e1,e2,hn⟩:=m.N (h1.trans hg)
   obtain⟨v,rfl,hv⟩:=hv
   rw[e1]at hv
   obtain⟨_,hv⟩:=hv
   obtain⟨hv,hle⟩:=hv (by rw[e2,hu])
   rw[hn.lenOf,hn.sz]at hv
   rw[hn.lenOf]at hle
   have hfr:=hn.rowFrz k id fun b hi hb=>hz g (by simp) b (by rw[h1,hg,e1];exact .inr (.inl ⟨id,hi,hb⟩))
   exact⟨⟨rfl,PV_hdr hfr hv hle⟩,(fun h=>by cases h),fun h hh=>by simp at hh;subst hh;rw[h1,hg];simp⟩
  ·cases h
 | .ptr g i o,v',l,vs,h,hh,hz,hv=>by
  simp only[snapW]at h
  split at h
  ·rename_i e xs hg
   cases h
   have h1:=hh g (by simp)
   obtain⟨p,e1,ho⟩:=m.L (h1.trans hg)
   obtain⟨v,rfl,hv⟩:=hv
   have hzb:=hz g (by simp)
   rw[h1,hg,e1]at hzb
   rw[e1]at hv
   obtain⟨b,s,m',rfl,rfl,hi⟩:=hv
   exact⟨⟨b,s,rfl,hzb b rfl,hi,ho.2.2.2.kept k rfl⟩,(fun h=>by cases h),fun h hh=>by simp at hh;subst hh;rw[h1,hg];simp⟩
  ·rename_i e xs hg
   cases h
   have h1:=hh g (by simp)
   obtain⟨p,e1,ho⟩:=m.F (h1.trans hg)
   obtain⟨v,rfl,hv⟩:=hv
   rw[e1]at hv
   obtain⟨b,s,m',rfl,rfl,hi⟩:=hv
   rcases ho with ho|⟨b',s',m'',e2,hzz,ho⟩
   ·subst ho
    simp at hi
   ·cases e2
    exact⟨⟨b,s,rfl,k.z b hzz,hi,ho.kept k rfl⟩,(fun h=>by cases h),fun h hh=>by simp at hh;subst hh;rw[h1,hg];simp⟩
  ·rename_i cs hg
   split at h
   case h_2=>cases h
   rename_i c l' hb
   split at h
   case isFalse=>cases h
   rename_i hi
   cases h
   have h1:=hh g (by simp)
   obtain⟨b,c0,el,e1,e2,e3,e4,il⟩:=m.B (h1.trans hg)
   obtain⟨v,rfl,hv⟩:=hv
   have hzb:=hz g (by simp)
   rw[h1,hg,e1]at hzb
   rw[e1]at hv
   obtain⟨_,rfl⟩:=hv
   obtain⟨k1,k2,k3⟩:=hbx hb (fun h hm=>hh h (by simp[hm])) (fun h hm=>hz h (by simp[hm])) e4 il
   refine⟨⟨b,0,c0.toList,by rw[Nat.zero_add],hzb b rfl,fun j v hj=>?_,k1,k2⟩,(fun h=>by cases h),fun h hm=>?_⟩
   ·simpa[World.cell?,e2]using hj
   ·rcases List.mem_cons.1 hm with rfl|hm
    ·rw[h1,hg];simp
    ·exact k3 h hm
  ·cases h
 | .agg cs,v',l,vs,h,hh,hz,hv=>by
  simp only[snapW]at h
  split at h
  case h_2=>cases h
  rename_i c' l' hc
  cases h
  obtain⟨c,rfl,h1,il⟩:=hv
  obtain⟨k1,k2,k3⟩:=snapW_VR m k hbx hc hh hz h1
  exact⟨⟨c,rfl,k1,k2 il⟩,(fun h=>by cases h),k3⟩
 | .clo f cs,v',l,vs,h,hh,hz,hv=>by
  simp only[snapW]at h
  split at h
  case h_2=>cases h
  rename_i c' l' hc
  cases h
  obtain⟨c,rfl,h1,il⟩:=hv
  obtain⟨k1,k2,k3⟩:=snapW_VR m k hbx hc hh hz h1
  exact⟨⟨c,rfl,k1,k2 il⟩,(fun h=>by cases h),k3⟩
 | .cn a b,v',l,vs,h,hh,hz,hv=>by
  simp only[snapW]at h
  split at h
  case h_2=>cases h
  rename_i a' l1 ha
  split at h
  case h_2=>cases h
  rename_i b' l2 hb
  cases h
  obtain⟨u,r,rfl,h1,h2,il⟩:=hv
  obtain⟨k1,k2,k3⟩:=snapW_VR m k hbx ha (fun h hm=>hh h (by simp[hm])) (fun h hm=>hz h (by simp[hm])) h1
  obtain⟨k4,k5,k6⟩:=snapW_VR m k hbx hb (fun h hm=>hh h (by simp[hm])) (fun h hm=>hz h (by simp[hm])) h2
  exact⟨⟨u,r,rfl,k1,k4,k5 il⟩,fun _=>rfl,fun h hm=>by rcases List.mem_append.1 hm with hm|hm;exact k3 h hm;exact k6 h hm⟩
 | .any,v',l,vs,h,hh,hz,hv=>by cases h;exact⟨hv,id,by simp⟩
 | .nil,v',l,vs,h,hh,hz,hv=>by cases h;exact⟨hv,id,by simp⟩
 | .p t x,v',l,vs,h,hh,hz,hv=>by cases h;exact⟨hv.mono k fun _ _=> .same _,id,by simp⟩
 | .k _,v',l,vs,h,hh,hz,hv=>by cases h;exact⟨hv,id,by simp⟩
 | .rp c o,v',l,vs,h,hh,hz,hv=>by cases h;exact⟨hv.mono k fun _ _=> .same _,id,by simp⟩
 | .rl _ _ _ _,v',l,vs,h,hh,hz,hv=>by cases h;exact⟨hv.mono k fun _ _=> .same _,id,by simp⟩
 | .e0,v',l,vs,h,hh,hz,hv=>by cases h;exact⟨hv,id,by simp⟩
 | .tup _,_,_,_,h,_,_,_=>by cases h
 | .prw _ _ _ _ _,_,_,_,h,_,_,_=>by cases h
 | .pap _ _,_,_,_,h,_,_,_=>by cases h
theorem snap_VR (m:MR gv Z w σ hp') (k:Kept Z w Z' w): ∀(d:Nat) {v v':AV} {l:List Nat} {vs:List Value},snap hp d v=some (v',l)→(∀h∈l,hp' h=hp h)→(∀h∈l, ∀b,blks (hp' h) (σ h) b→Z' b)→VR Z w σ v vs→
  VR Z' w σ v' vs∧(isL v=true→isL v'=true)∧ ∀h∈l,hp' h≠ .dead
 | 0,_,_,_,_,h,hh,hz,hv=>snapW_VR m k (bx:=fun _=>none) (fun h=>by cases h) h hh hz hv
 | d+1,_,_,_,_,h,hh,hz,hv=>snapW_VR m k (bx:=snap hp d) (fun h hh hz hv il=>by
   obtain⟨k1,k2,k3⟩:=snap_VR m k d h hh hz hv
   exact⟨k1,k2 il,k3⟩) h hh hz hv
theorem argsE_VR (m:MR gv Z w σ hp') (k:Kept Z w Z' w): ∀{own:List Bool} {args args':AV} {l:List Nat} {vs:List Value},argsE hp own args=some (args',l)→(∀h∈l,hp' h=hp h)→(∀h∈l, ∀b,blks (hp' h) (σ h) b→Z' b)→VR Z w σ args vs→
  VR Z' w σ args' vs∧isL args'=true∧ ∀h∈l,hp' h≠ .dead
 | own, .cn a b,args',l,vs,h,hh,hz,hv=>by
  unfold argsE at h
  split at h
  case h_2=>cases h
  rename_i a' l1 ha
  split at h
  case h_2=>cases h
  rename_i b' l2 hb
  cases h
  obtain⟨u,r,rfl,h1,h2,il⟩:=hv
  obtain⟨k4,k5,k6⟩:=argsE_VR m k hb (fun h hm=>hh h (by simp[hm])) (fun h hm=>hz h (by simp[hm])) h2
  have ka:VR Z' w σ a' [u]∧ ∀h∈l1,hp' h≠ .dead:=by
   split at ha
   ·cases ha
    exact⟨h1.mono k fun _ _=> .same _,by simp⟩
   ·obtain⟨k1,_,k3⟩:=snap_VR m k 3 ha (fun h hm=>hh h (by simp[hm])) (fun h hm=>hz h (by simp[hm])) h1
    exact⟨k1,k3⟩
  exact⟨⟨u,r,rfl,ka.1,k4,k5⟩,rfl,fun h hm=>by rcases List.mem_append.1 hm with hm|hm;exact ka.2 h hm;exact k6 h hm⟩
 | _, .e0,args',l,vs,h,hh,hz,hv=>by
  unfold argsE at h
  cases h
  exact⟨hv,rfl,by simp⟩
 | _, .any,_,_,_,h,_,_,_=>by unfold argsE at h;cases h
 | _, .nil,_,_,_,h,_,_,_=>by unfold argsE at h;cases h
 | _, .p _ _,_,_,_,h,_,_,_=>by unfold argsE at h;cases h
 | _, .k _,_,_,_,h,_,_,_=>by unfold argsE at h;cases h
 | _, .sl _ _ _,_,_,_,h,_,_,_=>by unfold argsE at h;cases h
 | _, .ptr _ _ _,_,_,_,h,_,_,_=>by unfold argsE at h;cases h
 | _, .row _ _ _ _ _,_,_,_,h,_,_,_=>by unfold argsE at h;cases h
 | _, .prw _ _ _ _ _,_,_,_,h,_,_,_=>by unfold argsE at h;cases h
 | _, .pap _ _,_,_,_,h,_,_,_=>by unfold argsE at h;cases h
 | _, .agg _,_,_,_,h,_,_,_=>by unfold argsE at h;cases h
 | _, .tup _,_,_,_,h,_,_,_=>by unfold argsE at h;cases h
 | _, .clo _ _,_,_,_,h,_,_,_=>by unfold argsE at h;cases h
 | _, .rp _ _,_,_,_,h,_,_,_=>by unfold argsE at h;cases h
 | _, .rl _ _ _ _,_,_,_,h,_,_,_=>by unfold argsE at h;cases h
end
abbrev obsF (l:List Ob):Nat→Ob:=fun i=>l.getD i .dead
inductive SleW:Sh→Sh→Prop
 | dead (s:Sh) (h:s≠ .un):SleW .no s
 | same (s:Sh):SleW s s
 | rows (sz n:Nat) (p:Pl) (r:NI) (r':Option NI):SleW (.S sz n p r') (.S sz n p (some r))
theorem Sle.w {a b:Sh} (h:Sle a b) (hb:b≠ .un):SleW a b:=by
 cases h with
 | new=>exact absurd rfl hb
 | dead s h=>exact .dead _ h
 | same=>exact .same _
 | flat=>exact .rows _ _ _ _ _
 | rows=>exact .rows _ _ _ _ _
theorem SleW.trans {a b c:Sh} (h:SleW a b) (k:SleW b c):SleW a c:=by
 cases k with
 | same=>exact h
 | dead s hs=>
  cases h with
  | dead=>exact .dead _ hs
  | same=>exact .dead _ hs
 | rows sz n p r r'=>
  cases h with
  | dead=>exact .dead _ (by simp)
  | same=>exact .rows _ _ _ _ _
  | rows=>exact .rows _ _ _ _ _
theorem SleW.un {a b:Sh} (h:SleW a b) (hb:b≠ .un):a≠ .un:=by
 cases h with
 | dead=>simp
 | same=>exact hb
 | rows=>simp
def RetOk (gv:Nat→AV) (Z:Nat→Prop) (w:World) (σ:Nat→Sh) (ins:List Ob) (R:Nat) (fr:FRes):Ending→World→Prop
 | .returned v,w'=> ∃Z' σ',VR Z' w' σ' fr.ret [v]∧MR gv Z' w' σ' (obsF fr.objs)∧Ext Z w σ (obsF ins) Z' w' σ' (obsF fr.objs)∧(∀h,h<R→SleW (σ' h) (σ h))∧(∀i,σ' i= .un↔fr.objs.length≤i)
 | _,_=>False
structure Impl (P:Program) (gv:Nat→AV) (f:FuncId) (sp:Spec):Prop where
 fn: ∃fn,P.funcs[f]?=some fn∧(fn.name== "runtime.NumGoroutine")=false∧fn.body.isNone=false
 run: ∀(args:AV) (ins:List Ob) (K:FRes→Option FRes) (r:FRes),sp.run args ins K=some r→ ∃fr,K fr=some r∧(addNew [] (hs args)).length≤fr.objs.length∧
  ∀(Z:Nat→Prop) (w:World) (σ:Nat→Sh) (vs:Array Value),VR Z w σ args vs.toList→isL args=true→MR gv Z w σ (obsF ins)→(∀i,σ i= .un↔ins.length≤i)→Calls P f vs w (RetOk gv Z w σ ins (addNew [] (hs args)).length fr)
theorem nodupB_iff: ∀{l:List Nat},nodupB l=true→l.Nodup
 | [],_=>List.nodup_nil
 | x::r,h=>by
  simp only[nodupB,Bool.and_eq_true,Bool.not_eq_true']at h
  refine List.nodup_cons.2 ⟨fun hm=>?_,nodupB_iff h.2⟩
  rw[List.contains_iff_mem.2 hm]at h
  cases h.1
theorem nodup_get: ∀{l:List Nat},l.Nodup→ ∀{i j:Nat} {x:Nat},l[i]?=some x→l[j]?=some x→i=j
 | [],_,i,_,_,hi,_=>by simp at hi
 | a::l,h,0,0,_,_,_=>rfl
 | a::l,h,0,j+1,x,hi,hj=>by
  simp only[List.getElem?_cons_zero,Option.some.injEq,List.getElem?_cons_succ]at hi hj
  subst hi
  exact absurd (List.mem_of_getElem? hj) (List.nodup_cons.1 h).1
 | a::l,h,i+1,0,x,hi,hj=>by
  simp only[List.getElem?_cons_zero,Option.some.injEq,List.getElem?_cons_succ]at hi hj
  subst hj
  exact absurd (List.mem_of_getElem? hi) (List.nodup_cons.1 h).1
 | a::l,h,i+1,j+1,x,hi,hj=>by
  have:=nodup_get (List.nodup_cons.1 h).2 (i:=i) (j:=j) (x:=x) (by simpa using hi) (by simpa using hj)
  omega
theorem idxOf_some {h:Nat}: ∀{l:List Nat} {i k:Nat},idxOf h l i=some k→ ∃j,k=i+j∧l[j]?=some h
 | [],_,_,e=>by cases e
 | x::r,i,k,e=>by
  simp only[idxOf]at e
  cases hb:Nat.beq x h
  ·rw[hb]at e
   obtain⟨j,h1,h2⟩:=idxOf_some (l:=r) e
   exact⟨j+1,by omega,by simpa using h2⟩
  ·rw[hb]at e
   have:=Nat.eq_of_beq_eq_true hb
   simp only[cond_true,Option.some.injEq]at e
   exact⟨0,by omega,by simp[this]⟩
theorem idxOf_none {h:Nat}: ∀{l:List Nat} {i:Nat},idxOf h l i=none→h∉l
 | [],_,_=>by simp
 | x::r,i,e=>by
  simp only[idxOf]at e
  cases hb:Nat.beq x h
  ·rw[hb]at e
   have h1:=idxOf_none (l:=r) e
   intro hm
   rcases List.mem_cons.1 hm with rfl|hm
   ·rw[Nat.beq_refl]at hb;cases hb
   ·exact h1 hm
  ·rw[hb]at e
   cases e
theorem mem_addNew {h:Nat}: ∀{xs l:List Nat},h∈addNew l xs↔h∈l∨h∈xs
 | [],l=>by simp[addNew]
 | x::xs,l=>by
  have:addNew l (x::xs)=addNew (if l.contains x then l else l++[x]) xs:=rfl
  rw[this,mem_addNew (xs:=xs)]
  split
  ·rename_i hc
   have hc:=List.contains_iff_mem.1 hc
   simp only[List.mem_cons]
   constructor
   ·rintro (h|h)
    ·exact .inl h
    ·exact .inr (.inr h)
   ·rintro (h|rfl|h)
    ·exact .inl h
    ·exact .inl hc
    ·exact .inr h
  ·simp only[List.mem_append,List.mem_cons,List.not_mem_nil,or_false]
   constructor
   ·rintro ((h|h)|h)
    ·exact .inl h
    ·exact .inr (.inl h)
    ·exact .inr (.inr h)
   ·rintro (h|h|h)
    ·exact .inl (.inl h)
    ·exact .inl (.inr h)
    ·exact .inr h
theorem mem_clos {hp:Nat→Ob} {h:Nat}: ∀{f i:Nat} {l:List Nat},h∈l→h∈clos hp f i l
 | 0,_,_,hm=>hm
 | f+1,i,l,hm=>by
  simp only[clos]
  split
  ·exact mem_clos (mem_addNew.2 (.inl hm))
  ·exact hm
section
variable {gv:Nat→AV} {Z:Nat→Prop} {w:World} {σ:Nat→Sh} {hp hp':Nat→Ob}
theorem clos_live (m:MR gv Z w σ hp'): ∀{f i:Nat} {l:List Nat},(∀h∈l,σ h≠ .un)→(∀h∈clos hp f i l,hp' h=hp h)→ ∀h∈clos hp f i l,σ h≠ .un
 | 0,_,_,hl,_,h,hm=>hl h hm
 | f+1,i,l,hl,ha,h,hm=>by
  simp only[clos]at hm ha
  split at hm
  ·rename_i g hg
   rw[hg]at ha
   simp only at ha
   refine clos_live m (fun k hk=>?_) ha h hm
   rcases mem_addNew.1 hk with hk|hk
   ·exact hl k hk
   ·have hgl:g∈l:=List.mem_of_getElem? hg
    have e:=ha g (mem_clos (mem_addNew.2 (.inl hgl)))
    cases hob:hp g with
    | B cs=>
     rw[hob]at hk
     obtain⟨b,c,el,_,_,_,hv,_⟩:=m.B (e.trans hob)
     exact hv.live k hk
    | _=>rw[hob]at hk;cases hk
  ·exact hl h hm
theorem vers_ok (m:MR gv Z w σ hp') {g:Nat} (hh:hp' g=hp g) (hd:hp g≠ .dead) {sz n:Nat} {p:Pl} {r:NI} (hs:σ g= .S sz n p (some r)):vers hp g=r.v:=by
 have ho:=m.ob g (by rw[hs];simp)
 rw[hh,hs]at ho
 unfold vers
 cases hob:hp g with
 | dead=>exact absurd hob hd
 | L e xs=>rw[hob]at ho;obtain⟨p,e,_⟩:=ho;cases e
 | F e xs=>rw[hob]at ho;obtain⟨p,e,_⟩:=ho;cases e
 | B cs=>rw[hob]at ho;obtain⟨b,c,el,e,_⟩:=ho;cases e
 | N e ids st v pd=>
  rw[hob]at ho
  obtain⟨p',r',e,hv,_⟩:=ho
  cases e
  exact hv.symm
end
theorem nws_get: ∀(l:List Ob) (hp:Nat→Ob) (n h:Nat),nws hp n l h=if n≤h∧h<n+l.length then l.getD (h-n) .dead else hp h
 | [],hp,n,h=>by simp[nws]<;>omega
 | o::l,hp,n,h=>by
  simp only[nws]
  rw[nws_get l]
  by_cases h1:h=n
  ·subst h1
   rw[if_neg (by omega),if_pos (by simp),upd_same]
   simp
  ·by_cases h2:n+1≤h∧h<n+1+l.length
   ·rw[if_pos h2,if_pos (by simp;omega)]
    have:h-n=(h-(n+1))+1:=by omega
    rw[this]
    simp
   ·rw[if_neg h2,if_neg (by simp;omega),upd_ne _ _ h1]
theorem mem_news: ∀{l:List Ob} {n h:Nat},h∈news n l↔n≤h∧h<n+l.length
 | [],n,h=>by simp[news]<;>omega
 | o::l,n,h=>by
  simp only[news,List.mem_cons,List.length_cons]
  rw[mem_news]
  omega
theorem wrs_app: ∀(A B:List (Nat×Ob)) (hp:Nat→Ob),wrs hp (A++B)=wrs (wrs hp A) B
 | [],B,hp=>rfl
 | a::A,B,hp=>wrs_app A B _
theorem roots_no {hp:Nat→Ob} {f:Nat→Option Nat} {c:Nat→Nat} {h:Nat}: ∀{r:Nat} {ord:List Nat} {objs:List Ob} {hp0:Nat→Ob},h∉ord.take r→wrs hp0 (roots hp ord f c r objs) h=hp0 h
 | 0,_,_,_,_=>by simp[roots,wrs]
 | r+1,ord,[],_,_=>by simp[roots,wrs]
 | r+1,[],o::os,_,_=>by simp[roots,wrs]
 | r+1,g::t,o::os,hp0,hn=>by
  simp only[List.take_succ_cons,List.mem_cons,not_or]at hn
  simp only[roots,wrs]
  rw[roots_no hn.2,upd_ne _ _ hn.1]
theorem roots_at {hp:Nat→Ob} {f:Nat→Option Nat} {c:Nat→Nat} {h:Nat} {o:Ob}: ∀{r j:Nat} {ord:List Nat} {objs:List Ob} {hp0:Nat→Ob},ord.Nodup→ord[j]?=some h→j<r→objs[j]?=some o→wrs hp0 (roots hp ord f c r objs) h=bump (vers hp h) (renO f c o)
 | 0,_,_,_,_,_,_,hj,_=>by omega
 | r+1,j,ord,[],_,_,_,_,ho=>by simp at ho
 | r+1,j,[],o'::os,_,_,hg,_,_=>by simp at hg
 | r+1,0,g::t,o'::os,hp0,hn,hg,_,ho=>by
  simp only[List.getElem?_cons_zero,Option.some.injEq]at hg ho
  subst hg ho
  simp only[roots,wrs]
  rw[roots_no,upd_same]
  intro hm
  exact(List.nodup_cons.1 hn).1 (List.mem_of_mem_take hm)
 | r+1,j+1,g::t,o'::os,hp0,hn,hg,hj,ho=>by
  simp only[roots,wrs]
  exact roots_at (List.nodup_cons.1 hn).2 (by simpa using hg) (by omega) (by simpa using ho)
theorem sle_B {v:Nat} {s s2:Sh} (h:SleW s2 (shC s)) (hv: ∀sz n p r,s= .S sz n p (some r)→v=r.v) (hs:s≠ .un):Sle (shB v s2) s:=by
 cases s with
 | un=>exact absurd rfl hs
 | no=>
  cases h with
  | dead=>exact .same _
  | same=>exact .same _
 | B b m=>
  cases h with
  | dead=>exact .dead _ (by simp)
  | same=>exact .same _
 | S sz n p r=>
  cases r with
  | none=>
   cases h with
   | dead=>exact .dead _ (by simp)
   | same=>exact .same _
  | some r=>
   have hv:=hv sz n p r rfl
   cases h with
   | dead=>exact .dead _ (by simp)
   | same=>exact .rows _ _ _ _ _ (.inl (by simp[hv]))
   | rows _ _ _ _ r'=>
    cases r' with
    | none=>exact .flat _ _ _ _
    | some r'=>exact .rows _ _ _ _ _ (.inl (by simp[hv]))
theorem sle_Bo {v:Nat} {o o2:Ob} {s s2:Sh} (h:SleW s2 (shCo o s)) (hv:o≠ .dead→ ∀sz n p r,s= .S sz n p (some r)→v=r.v) (hs:s≠ .un):Sle (shBo o2 v s2) s:=by
 have hn:s2= .no→Sle (shBo o2 v s2) s:=fun e=>by
  subst e
  cases o2<;>exact .dead _ hs
 cases o2 with
 | dead=>exact .dead _ hs
 | _=>
  cases o with
  | dead=>
   refine hn ?_
   cases h<;>rfl
  | _=>exact sle_B h (hv (by simp)) hs
theorem shCo_ne {o:Ob} {s:Sh} (h:s≠ .un):shCo o s≠ .un:=by
 cases o<;>cases s<;>first|exact absurd rfl h|(simp[shCo,shC];done)|skip
 all_goals
  rename_i r
  cases r<;>simp[shCo,shC]
theorem shBo_ne {o:Ob} {v:Nat} {s:Sh} (h:s≠ .un):shBo o v s≠ .un:=by
 cases o<;>cases s<;>first|exact absurd rfl h|(simp[shBo,shB];done)|skip
 all_goals
  rename_i r
  cases r<;>simp[shBo,shB]
theorem disj_spec {a b:List Nat} (h:disj a b=true): ∀x∈a,x∉b:=by
 intro x hx hb
 simp only[disj,List.all_eq_true,Bool.not_eq_true']at h
 have:=h x hx
 rw[List.contains_iff_mem.2 hb]at this
 cases this
section
variable {P:Program} {gv:Nat→AV} {hp:Nat→Ob} {n:Nat}
def CallOk (gv:Nat→AV) (Z:Nat→Prop) (w:World) (σ:Nat→Sh) (hp':Nat→Ob) (n:Nat) (e:Eff):Ending→World→Prop
 | .returned v,w'=> ∃Z' σ',VR Z' w' σ' e.v [v]∧MR gv Z' w' σ' (nws (wrs hp' e.wr) n e.nw)∧Ext Z w σ hp' Z' w' σ' (nws (wrs hp' e.wr) n e.nw)∧(∀h,Sle (σ' h) (σ h))∧Nw n e.nw σ σ'∧Kept Z w Z' w'∧(∀h,h∉e.rd→h∉news n e.nw→σ' h=σ h)
 | _,_=>False
theorem callS_snd {f:FuncId} {sp:Spec} (hI:Impl P gv f sp) (hgv: ∀g,hs (gv g)=[]) {args:AV} {K:Eff→Option FRes} {r0:FRes} (h:callS sp hp n args K=some r0): ∃e,K e=some r0∧
  ∀(hp':Nat→Ob) (Z:Nat→Prop) (w:World) (σ:Nat→Sh) (vs:Array Value),MR gv Z w σ hp'→(∀h∈e.rd,hp' h=hp h)→(∀h∈news n e.nw,σ h= .un)→VR Z w σ args vs.toList→Calls P f vs w (CallOk gv Z w σ hp' n e):=by
 unfold callS at h
 split at h
 case h_2=>cases h
 rename_i args' bs hargs
 simp only at h
 split at h
 case isFalse=>cases h
 rename_i hc
 generalize hord:clos hp 20 0 (addNew [] (hs args'))=ord at h hc
 generalize hr:(addNew [] (hs args')).length=r at h hc
 simp only[Bool.and_eq_true]at hc
 obtain⟨hdis,hnd,hrr⟩:=hc
 have hdis:=disj_spec hdis
 have hnd:=nodupB_iff hnd
 have hrr:=Nat.eq_of_beq_eq_true hrr
 obtain⟨fr,hK,hlen,hrun⟩:=hI.run _ _ _ _ h
 rw[hrr]at hlen hrun
 refine⟨_,hK,fun hp' Z w σ vs m hrd hnw hvs=>?_⟩
 generalize hkeep:(noSl fr.ret&&fr.objs.all noSlO)=keep at hrd hnw ⊢
 have hao: ∀h∈ord,hp' h=hp h:=fun h hh=>hrd h (by simp[hh])
 have hab: ∀h∈bs,hp' h=hp h:=fun h hh=>hrd h (by simp[hh])
 obtain⟨v1,v2,v3⟩:=argsE_VR m (ZF_kept m bs) hargs hab (fun h hh b hb=> .inr ⟨h,hh,hb⟩) hvs
 have hlive: ∀h∈ord,σ h≠ .un:=by
  subst hord
  refine clos_live m (fun h hh=>?_) hao
  rcases mem_addNew.1 hh with hh|hh
  ·cases hh
  ·exact v1.live h hh
 have hidx: ∀h j,idxOf h ord 0=some j↔ord[j]?=some h:=fun h j=>by
  constructor
  ·intro e
   obtain⟨k,e1,e2⟩:=idxOf_some e
   have:j=k:=by omega
   rw[this]
   exact e2
  ·intro e
   cases hi:idxOf h ord 0 with
   | none=>exact absurd (List.mem_of_getElem? e) (idxOf_none hi)
   | some k=>
    obtain⟨k',e1,e2⟩:=idxOf_some hi
    have:k'=j:=nodup_get hnd e2 e
    rw[e1,this,Nat.zero_add]
 have hver: ∀h∈ord,hp h≠ .dead→ ∀sz k p q,σ h= .S sz k p (some q)→vers hp h=q.v:=fun h hh hd sz k p q e=>vers_ok m (hao h hh) hd e
 obtain⟨σc,hσcd⟩: ∃σc:Nat→Sh,(fun i=>match ord[i]? with|some h=>shCo (hp h) (σ h)|none=>Sh.un)=σc:=⟨_,rfl⟩
 have hσc: ∀i h,ord[i]?=some h→σc i=shCo (hp h) (σ h):=fun i h e=>by rw[←hσcd];simp only[e]
 have hσcn: ∀i,ord[i]?=none→σc i= .un:=fun i e=>by rw[←hσcd];simp only[e]
 have hrenc: ∀g j,idxOf g ord 0=some j→RenOk (vers hp g) (σ g) (σc j):=fun g j e=>by
  have e2:=(hidx g j).1 e
  rw[hσc j g e2]
  exact renOk_Co (hver g (List.mem_of_getElem? e2))
 have hins: ∀i h,ord[i]?=some h→obsF (ord.map fun h=>renO (fun h=>idxOf h ord 0) (vers hp) (hp h)) i=renO (fun h=>idxOf h ord 0) (vers hp) (hp h):=fun i h e=>by
  simp only[obsF,List.getD_eq_getElem?_getD,List.getElem?_map,e]
  rfl
 have hinn: ∀i,ord[i]?=none→obsF (ord.map fun h=>renO (fun h=>idxOf h ord 0) (vers hp) (hp h)) i= .dead:=fun i e=>by
  simp only[obsF,List.getD_eq_getElem?_getD,List.getElem?_map,e]
  rfl
 have hshne: ∀(o:Ob) (s:Sh),s≠ .un→shCo o s≠ .un:=fun o s hs=>shCo_ne hs
 have hzf: ∀h,h∉bs→ ∀b,blks (hp' h) (σ h) b→ ¬ZF Z σ hp' bs b:=fun h hh b hb hz=>by
  rcases hz with hz|⟨g,hg,hz⟩
  ·exact(m.olt ⟨h,hb⟩).2 hz
  ·exact hh (m.sep h g b hb hz▸hg)
 have hobc: ∀i h,ord[i]?=some h→OR (ZF Z σ hp' bs) w σc (renO (fun h=>idxOf h ord 0) (vers hp) (hp h)) (shCo (hp h) (σ h))∧ ∀b,blks (renO (fun h=>idxOf h ord 0) (vers hp) (hp h)) (shCo (hp h) (σ h)) b→blks (hp' h) (σ h) b:=fun i h e=>by
  have hm:=List.mem_of_getElem? e
  have h1:=m.ob h (hlive h hm)
  have h2:=h1.kept (ZF_kept m bs) (fun _ _=> .same _) (fun _ _=>rfl) (hzf h fun hb=>hdis h hb hm)
  rw[hao h hm]at h2
  obtain⟨h3,_,h4,_⟩:=renO_OR (f:=fun h=>idxOf h ord 0) (c:=vers hp) (σ':=σc) h2 fun g _ j hj=>hrenc g j hj
  exact⟨h3,fun b hb=>by rw[hao h hm];exact h4 b hb⟩
 have hzl1: ∀b,ZF Z σ hp' bs b→b<w.heap.size:=fun b hb=>by
  rcases hb with hb|⟨g,_,hb⟩
  ·exact m.zlt b hb
  ·exact(m.olt ⟨g,hb⟩).1
 have mc:MR gv (ZF Z σ hp' bs) w σc (obsF (ord.map fun h=>renO (fun h=>idxOf h ord 0) (vers hp) (hp h))):=by
  refine⟨fun i hi=>?_,fun i hi=>?_,fun i i' b h1 h2=>?_,hzl1,fun g=>(m.gl g).free (hgv g) (ZF_kept m bs)⟩
  ·cases e:ord[i]? with
   | none=>exact absurd (hσcn i e) hi
   | some h=>
    rw[hins i h e,hσc i h e]
    exact(hobc i h e).1
  ·cases e:ord[i]? with
   | none=>exact hinn i e
   | some h=>
    rw[hσc i h e]at hi
    exact absurd hi (hshne _ _ (hlive h (List.mem_of_getElem? e)))
  ·cases e:ord[i]? with
   | none=>rw[hinn i e]at h1;cases hs:σc i<;>rw[hs]at h1<;>exact h1.elim
   | some h=>
    cases e':ord[i']? with
    | none=>rw[hinn i' e']at h2;cases hs:σc i'<;>rw[hs]at h2<;>exact h2.elim
    | some h'=>
     rw[hins i h e,hσc i h e]at h1
     rw[hins i' h' e',hσc i' h' e']at h2
     have:=m.sep h h' b ((hobc i h e).2 b h1) ((hobc i' h' e').2 b h2)
     subst this
     exact nodup_get hnd e e'
 have hvc:VR (ZF Z σ hp' bs) w σc (ren (fun h=>idxOf h ord 0) (vers hp) args') vs.toList:=ren_VR v1 fun h _ j hj=>hrenc h j hj
 have hunc: ∀i,σc i= .un↔(ord.map fun h=>renO (fun h=>idxOf h ord 0) (vers hp) (hp h)).length≤i:=fun i=>by
  rw[List.length_map]
  cases e:ord[i]? with
  | none=>exact⟨fun _=>List.getElem?_eq_none_iff.1 e,fun _=>hσcn i e⟩
  | some h=>
   have hi:=(List.getElem?_eq_some_iff.1 e).1
   rw[hσc i h e]
   exact⟨fun e2=>absurd e2 (hshne _ _ (hlive h (List.mem_of_getElem? e))),fun e2=>by omega⟩
 refine Calls.mono (hrun _ w σc vs hvc (isL_ren _ _ v2) mc hunc) fun en w' hen=>?_
 cases en with
 | panicked _=>exact hen.elim
 | outgrown=>exact hen.elim
 | returned v=>
 obtain⟨Z',σ2,w1,m2,x2,s2,u2⟩:=hen
 have hown: ∀b,owned σc (obsF (ord.map fun h=>renO (fun h=>idxOf h ord 0) (vers hp) (hp h))) b→ ∃g∈ord,blks (hp' g) (σ g) b:=fun b ⟨i,hb⟩=>by
  cases e:ord[i]? with
  | none=>rw[hinn i e]at hb;cases hs:σc i<;>rw[hs]at hb<;>exact hb.elim
  | some h=>
   rw[hins i h e,hσc i h e]at hb
   exact⟨h,List.mem_of_getElem? e,(hobc i h e).2 b hb⟩
 have hsame: ∀b,b<w.heap.size→(∀g∈ord, ¬blks (hp' g) (σ g) b)→w'.heap[b]?=w.heap[b]?:=fun b hb hno=>x2.same b hb fun ho=>by
  obtain⟨g,hg,hgb⟩:=hown b ho
  exact hno g hg hgb
 have hZ'Z: ∀b,Z b→Z' b:=fun b hb=>x2.z b (.inl hb)
 have hZ'n: ∀b,Z' b→Z b∨(∃g,(g∈ord∨g∈bs)∧blks (hp' g) (σ g) b)∨w.heap.size≤b:=fun b hb=>by
  rcases x2.zn b hb with (hz|⟨g,hg,hz⟩)|ho|hs
  ·exact .inl hz
  ·exact .inr (.inl ⟨g, .inr hg,hz⟩)
  ·obtain⟨g,hg,hgb⟩:=hown b ho
   exact .inr (.inl ⟨g, .inl hg,hgb⟩)
  ·exact .inr (.inr hs)
 obtain⟨Zf,hZfd⟩: ∃Zf:Nat→Prop,(fun b=>if keep=true then Z b else Z' b)=Zf:=⟨_,rfl⟩
 have hZf1:keep=true→Zf=Z:=fun e=>by rw[←hZfd];funext b;simp[e]
 have hZf2:keep=false→Zf=Z':=fun e=>by rw[←hZfd];funext b;simp[e]
 have hZZf: ∀b,Z b→Zf b:=fun b hb=>by
  cases hk:keep
  ·rw[hZf2 hk];exact hZ'Z b hb
  ·rw[hZf1 hk];exact hb
 have hZfZ': ∀b,Zf b→Z' b:=fun b hb=>by
  cases hk:keep
  ·rw[←hZf2 hk];exact hb
  ·rw[hZf1 hk]at hb;exact hZ'Z b hb
 have hkept:Kept Z w Zf w':=⟨hZZf,fun b hb=>hsame b (m.zlt b hb) fun g _ hgb=>(m.olt ⟨g,hgb⟩).2 hb⟩
 have hret:VR Zf w' σ2 fr.ret [v]:=by
  cases hk:keep
  ·rw[hZf2 hk];exact w1
  ·rw[hk]at hkeep
   simp only[Bool.and_eq_true]at hkeep
   exact VR.noSl hkeep.1 w1
 have hobj: ∀j o,fr.objs[j]?=some o→OR Zf w' σ2 o (σ2 j):=fun j o ho=>by
  have hjl:=(List.getElem?_eq_some_iff.1 ho).1
  have h1:=m2.ob j fun e=>by have:=(u2 j).1 e;omega
  have h2:obsF fr.objs j=o:=by simp only[obsF,List.getD_eq_getElem?_getD,ho];rfl
  rw[h2]at h1
  cases hk:keep
  ·rw[hZf2 hk];exact h1
  ·rw[hk]at hkeep
   simp only[Bool.and_eq_true,List.all_eq_true]at hkeep
   exact h1.noSl (hkeep.2 o (List.mem_of_getElem? ho)) hZfZ'
 have hnews: ∀h,n≤h→h<n+(fr.objs.length-r)→σ h= .un:=fun h h1 h2=>hnw h (mem_news.2 ⟨h1,by simpa using h2⟩)
 obtain⟨σf,hσfd⟩: ∃σf:Nat→Sh,(fun h=>match idxOf h ord 0 with
  | some j=>if j<r then shBo (fr.objs.getD j .dead) (vers hp h) (σ2 j)else Sh.no
  | none=>if n≤h∧h<n+(fr.objs.length-r)then shCo (fr.objs.getD (r+(h-n)) .dead) (σ2 (r+(h-n)))else if keep=false∧h∈bs then shF (hp' h) (σ h)else σ h)=σf:=⟨_,rfl⟩
 generalize hhpf:nws (wrs hp' (roots hp ord (fun j=>if j<r then ord[j]? else some (n+(j-r))) (fun j=>if j<r then 1 else ver (fr.objs.getD j .dead)) r fr.objs++(ord.drop r).map (fun h=>(h,Ob.dead))++(if keep=true then []else bs.map (toF hp)))) n
  ((fr.objs.drop r).map (renO (fun j=>if j<r then ord[j]? else some (n+(j-r))) (fun j=>if j<r then 1 else ver (fr.objs.getD j .dead))))=hpf
 have hnotnew: ∀h,σ h≠ .un→ ¬(n≤h∧h<n+(fr.objs.length-r)):=fun h hh hc=>hh (hnews h hc.1 hc.2)
 have hbslive: ∀h∈bs,σ h≠ .un:=fun h hh e=>v3 h hh (m.un h e)
 have hob2: ∀j o,fr.objs[j]?=some o→fr.objs.getD j .dead=o:=fun j o ho=>by simp only[List.getD_eq_getElem?_getD,ho];rfl
 have hob3: ∀j o,fr.objs[j]?=some o→obsF fr.objs j=o:=hob2
 have hcase: ∀h,(∃j o,ord[j]?=some h∧j<r∧fr.objs[j]?=some o∧hpf h=bump (vers hp h) (renO (fun j=>if j<r then ord[j]? else some (n+(j-r))) (fun j=>if j<r then 1 else ver (fr.objs.getD j .dead)) o)∧σf h=shBo o (vers hp h) (σ2 j))∨
   (h∈ord∧hpf h= .dead∧σf h= .no)∨
   (∃j o,r≤j∧h=n+(j-r)∧fr.objs[j]?=some o∧σ h= .un∧hpf h=renO (fun j=>if j<r then ord[j]? else some (n+(j-r))) (fun j=>if j<r then 1 else ver (fr.objs.getD j .dead)) o∧σf h=shCo o (σ2 j))∨
   (h∉ord∧keep=false∧h∈bs∧hpf h=(toF hp' h).2∧σf h=shF (hp' h) (σ h))∨
   (h∉ord∧ ¬(n≤h∧h<n+(fr.objs.length-r))∧hpf h=hp' h∧σf h=σ h∧(keep=true∨h∉bs)):=by
  intro h
  have hpfh:hpf h=if n≤h∧h<n+(fr.objs.length-r)then((fr.objs.drop r).map (renO (fun j=>if j<r then ord[j]? else some (n+(j-r))) (fun j=>if j<r then 1 else ver (fr.objs.getD j .dead)))).getD (h-n) .dead
   else if keep=false∧h∈bs then(toF hp' h).2 else if h∈ord.drop r then .dead else wrs hp' (roots hp ord (fun j=>if j<r then ord[j]? else some (n+(j-r))) (fun j=>if j<r then 1 else ver (fr.objs.getD j .dead)) r fr.objs) h:=by
   rw[←hhpf,nws_get]
   simp only[List.length_map,List.length_drop]
   split
   ·rfl
   ·rw[wrs_app,wrs_app]
    cases hk:keep
    ·simp only[Bool.false_eq_true,if_false,true_and]
     rw[wrs_F,wrs_dead]
     split
     ·rename_i hb
      simp only[toF,hab h hb]
     ·rfl
    ·simp only[if_true,Bool.true_eq_false,false_and,if_false]
     show wrs (wrs hp' (roots hp ord (fun j=>if j<r then ord[j]? else some (n+(j-r))) (fun j=>if j<r then 1 else ver (fr.objs.getD j .dead)) r fr.objs)) ((ord.drop r).map fun h=>(h,Ob.dead)) h=_
     rw[wrs_dead]
  have hσfh:σf h=match idxOf h ord 0 with
    | some j=>if j<r then shBo (fr.objs.getD j .dead) (vers hp h) (σ2 j)else Sh.no
    | none=>if n≤h∧h<n+(fr.objs.length-r)then shCo (fr.objs.getD (r+(h-n)) .dead) (σ2 (r+(h-n)))else if keep=false∧h∈bs then shF (hp' h) (σ h)else σ h:=by rw[←hσfd]
  cases hi:idxOf h ord 0 with
  | some j=>
   have hj:=(hidx h j).1 hi
   have hm:=List.mem_of_getElem? hj
   have hnb:h∉bs:=fun hb=>hdis h hb hm
   rw[hi]at hσfh
   simp only at hσfh
   rw[if_neg (hnotnew h (hlive h hm)),if_neg (fun hc=>hnb hc.2)]at hpfh
   by_cases hjr:j<r
   ·rw[if_pos hjr]at hσfh
    have hnd2:h∉ord.drop r:=fun hd=>by
     obtain⟨k,hk⟩:=List.mem_iff_getElem?.1 hd
     rw[List.getElem?_drop]at hk
     have:=nodup_get hnd hj hk
     omega
    rw[if_neg hnd2]at hpfh
    have ho:fr.objs[j]?=some (fr.objs[j]'(by omega)):=by simp[show j<fr.objs.length by omega]
    exact .inl ⟨j,_,hj,hjr,ho,by rw[hpfh,roots_at hnd hj hjr ho],by rw[hσfh,hob2 j _ ho]⟩
   ·rw[if_neg hjr]at hσfh
    have hd2:h∈ord.drop r:=List.mem_iff_getElem?.2 ⟨j-r,by rw[List.getElem?_drop, ←hj];congr 1;omega⟩
    rw[if_pos hd2]at hpfh
    exact .inr (.inl ⟨hm,hpfh,hσfh⟩)
  | none=>
   have hno:=idxOf_none hi
   rw[hi]at hσfh
   simp only at hσfh
   have hd:h∉ord.drop r:=fun hm=>hno (List.mem_of_mem_drop hm)
   have ht:h∉ord.take r:=fun hm=>hno (List.mem_of_mem_take hm)
   by_cases hnew:n≤h∧h<n+(fr.objs.length-r)
   ·rw[if_pos hnew]at hpfh hσfh
    have hjl:r+(h-n)<fr.objs.length:=by omega
    refine .inr (.inr (.inl ⟨r+(h-n),fr.objs[r+(h-n)],by omega,by omega,by simp[hjl],hnews h hnew.1 hnew.2,?_,by rw[hσfh,hob2 _ _ (List.getElem?_eq_getElem hjl)]⟩))
    rw[hpfh,List.getD_eq_getElem?_getD,List.getElem?_map,List.getElem?_drop,List.getElem?_eq_getElem hjl]
    rfl
   ·rw[if_neg hnew]at hpfh hσfh
    by_cases hb:keep=false∧h∈bs
    ·rw[if_pos hb]at hpfh hσfh
     exact .inr (.inr (.inr (.inl ⟨hno,hb.1,hb.2,hpfh,hσfh⟩)))
    ·rw[if_neg hb]at hpfh hσfh
     rw[if_neg hd,roots_no ht]at hpfh
     refine .inr (.inr (.inr (.inr ⟨hno,hnew,hpfh,hσfh,?_⟩)))
     cases hk:keep
     ·exact .inr fun hm=>hb ⟨hk,hm⟩
     ·exact .inl rfl
 have hback: ∀g j',σ2 g≠ .un→(if g<r then ord[g]? else some (n+(g-r)))=some j'→RenOk (if g<r then 1 else ver (fr.objs.getD g .dead)) (σ2 g) (σf j'):=fun g j' hg e=>by
  have hgl:g<fr.objs.length:=Nat.lt_of_not_le fun hle=>hg ((u2 g).2 hle)
  by_cases hgr:g<r
  ·rw[if_pos hgr]at e ⊢
   have hm:=List.mem_of_getElem? e
   have:σf j'=shBo (fr.objs.getD g .dead) (vers hp j') (σ2 g):=by
    rw[←hσfd]
    simp only[(hidx j' g).2 e,if_pos hgr]
   rw[this]
   exact renOk_Bo _ _ _ _
  ·rw[if_neg hgr]at e ⊢
   simp only[Option.some.injEq]at e
   have hun:σ j'= .un:=hnews j' (by omega) (by omega)
   have hi:idxOf j' ord 0=none:=by
    cases hi:idxOf j' ord 0 with
    | none=>rfl
    | some k=>exact absurd hun (hlive j' (List.mem_of_getElem? ((hidx j' k).1 hi)))
   have:σf j'=shCo (fr.objs.getD g .dead) (σ2 g):=by
    rw[←hσfd]
    simp only[hi]
    rw[if_pos (by omega)]
    have:r+(j'-n)=g:=by omega
    rw[this]
   rw[this]
   refine renOk_Co fun hd sz k p q hs=>?_
   have:=vers_ok (hp:=obsF fr.objs) m2 rfl hd hs
   exact this
 have hOR: ∀j o,fr.objs[j]?=some o→_:=fun j o ho=>renO_OR (f:=fun j=>if j<r then ord[j]? else some (n+(j-r))) (c:=fun j=>if j<r then 1 else ver (fr.objs.getD j .dead)) (σ':=σf) (hobj j o ho) (by
  intro g hg j' hj'
  refine hback g j' ?_ hj'
  have:=hobj j o ho
  cases o with
  | B cs=>
   obtain⟨b,c,el,_,_,_,hv,_⟩:=this
   exact hv.live g hg
  | _=>cases hg)
 have hsrc: ∀h b,blks (hpf h) (σf h) b→(∃j o,fr.objs[j]?=some o∧blks o (σ2 j) b∧((j<r∧ord[j]?=some h)∨(r≤j∧h=n+(j-r))))∨(h∉ord∧blks (hp' h) (σ h) b∧(keep=true∨h∉bs)∧σf h=σ h∧hpf h=hp' h):=by
  intro h b hb
  rcases hcase h with ⟨j,o,a1,a2,a3,a4,a5⟩|⟨a1,a2,a3⟩|⟨j,o,a1,a2,a3,a4,a5,a6⟩|⟨a1,a2,a3,a4,a5⟩|⟨a1,a2,a3,a4,a5⟩
  ·rw[a4,a5]at hb
   exact .inl ⟨j,o,a3,(hOR j o a3).2.2.2 _ b hb, .inl ⟨a2,a1⟩⟩
  ·rw[a2,a3]at hb
   exact hb.elim
  ·rw[a5,a6]at hb
   exact .inl ⟨j,o,a3,(hOR j o a3).2.2.1 b hb, .inr ⟨a1,a2⟩⟩
  ·rw[a4,a5]at hb
   exact absurd hb ((toF_OR (σ':=σ) m (ZF_kept m bs) (v3 h a3) (fun b hb=> .inr ⟨h,a3,hb⟩)).2.1 b)
  ·rw[a3,a4]at hb
   exact .inr ⟨a1,hb,a5,a4,a3⟩
 have howned2: ∀j o b,fr.objs[j]?=some o→blks o (σ2 j) b→(∃g∈ord,blks (hp' g) (σ g) b)∨w.heap.size≤b:=fun j o b ho hb=>by
  rcases x2.own b ⟨j,by rw[hob3 j o ho];exact hb⟩with hx|hx
  ·exact .inl (hown b hx)
  ·exact .inr hx
 have hsle: ∀h,Sle (σf h) (σ h):=by
  intro h
  rcases hcase h with ⟨j,o,a1,a2,a3,a4,a5⟩|⟨a1,a2,a3⟩|⟨j,o,a1,a2,a3,a4,a5,a6⟩|⟨a1,a2,a3,a4,a5⟩|⟨a1,a2,a3,a4,a5⟩
  ·rw[a5]
   have hm:=List.mem_of_getElem? a1
   refine sle_Bo ?_ (hver h hm) (hlive h hm)
   have:=s2 j a2
   rwa[hσc j h a1]at this
  ·rw[a3]
   exact .dead _ (hlive h a1)
  ·rw[a4]
   exact .new _
  ·rw[a5]
   exact(toF_OR (σ':=σ) m (ZF_kept m bs) (v3 h a3) (fun b hb=> .inr ⟨h,a3,hb⟩)).2.2.1
  ·rw[a4]
   exact .same _
 have hσfne: ∀j,j<fr.objs.length→σ2 j≠ .un:=fun j hj e=>by have:=(u2 j).1 e;omega
 have hun: ∀h,σf h= .un↔(σ h= .un∧ ¬(n≤h∧h<n+(fr.objs.length-r))):=by
  intro h
  rcases hcase h with ⟨j,o,a1,a2,a3,a4,a5⟩|⟨a1,a2,a3⟩|⟨j,o,a1,a2,a3,a4,a5,a6⟩|⟨a1,a2,a3,a4,a5⟩|⟨a1,a2,a3,a4,a5⟩
  ·rw[a5]
   exact⟨fun e=>absurd e (shBo_ne (hσfne j (List.getElem?_eq_some_iff.1 a3).1)),fun e=>absurd e.1 (hlive h (List.mem_of_getElem? a1))⟩
  ·rw[a3]
   exact⟨fun e=>(by cases e),fun e=>absurd e.1 (hlive h a1)⟩
  ·rw[a6]
   have hjl:=(List.getElem?_eq_some_iff.1 a3).1
   exact⟨fun e=>absurd e (shCo_ne (hσfne j hjl)),fun e=>absurd ⟨by omega,by omega⟩ e.2⟩
  ·rw[a5]
   exact⟨fun e=>absurd e (toF_OR (σ':=σ) m (ZF_kept m bs) (v3 h a3) (fun b hb=> .inr ⟨h,a3,hb⟩)).2.2.2,fun e=>absurd e.1 (hbslive h a3)⟩
  ·rw[a4]
   exact⟨fun e=>⟨e,a2⟩,fun e=>e.1⟩
 have mf:MR gv Zf w' σf hpf:=by
  refine⟨fun h hh=>?_,fun h hh=>?_,fun h h' b h1 h2=>?_,fun b hb=>?_,fun g=>(m.gl g).free (hgv g) hkept⟩
  ·rcases hcase h with ⟨j,o,a1,a2,a3,a4,a5⟩|⟨a1,a2,a3⟩|⟨j,o,a1,a2,a3,a4,a5,a6⟩|⟨a1,a2,a3,a4,a5⟩|⟨a1,a2,a3,a4,a5⟩
   ·rw[a4,a5]
    exact(hOR j o a3).2.1 _
   ·rw[a2,a3]
    simp[OR]
   ·rw[a5,a6]
    exact(hOR j o a3).1
   ·rw[a4,a5]
    have ht:=toF_OR (σ':=σ) m (ZF_kept m bs) (v3 h a3) (fun b hb=> .inr ⟨h,a3,hb⟩)
    have hk1:Kept (ZF Z σ hp' bs) w Zf w':=⟨fun b hb=>by rw[hZf2 a2];exact x2.z b hb,fun b hb=>hsame b (hzl1 b hb) fun g hg hgb=>by
     rcases hb with hb|⟨k,hk,hb⟩
     ·exact(m.olt ⟨g,hgb⟩).2 hb
     ·exact hdis k hk (m.sep g k b hgb hb▸hg)⟩
    exact ht.1.kept hk1 (fun k _=>hsle k) (fun b hb=>absurd hb (ht.2.1 b)) (fun b hb=>absurd hb (ht.2.1 b))
   ·rw[a3,a4]
    rw[a4]at hh
    refine(m.ob h hh).kept hkept (fun k _=>hsle k) (fun b hb=>hsame b (m.olt ⟨h,hb⟩).1 fun g hg hgb=>a1 (m.sep h g b hb hgb▸hg)) (fun b hb hz=>?_)
    cases hk:keep
    ·rcases hZ'n b (hZfZ' b hz)with hz|⟨g,hg,hgb⟩|hz
     ·exact(m.olt ⟨h,hb⟩).2 hz
     ·have:=m.sep h g b hb hgb
      subst this
      rcases hg with hg|hg
      ·exact a1 hg
      ·rcases a5 with a5|a5
       ·rw[hk]at a5;cases a5
       ·exact a5 hg
     ·have:=(m.olt ⟨h,hb⟩).1
      omega
    ·rw[hZf1 hk]at hz
     exact(m.olt ⟨h,hb⟩).2 hz
  ·have hu:=(hun h).1 hh
   rcases hcase h with ⟨j,o,a1,a2,a3,a4,a5⟩|⟨a1,a2,a3⟩|⟨j,o,a1,a2,a3,a4,a5,a6⟩|⟨a1,a2,a3,a4,a5⟩|⟨a1,a2,a3,a4,a5⟩
   ·exact absurd hu.1 (hlive h (List.mem_of_getElem? a1))
   ·exact a2
   ·have hjl:=(List.getElem?_eq_some_iff.1 a3).1
    exact absurd ⟨by omega,by omega⟩ hu.2
   ·exact absurd hu.1 (hbslive h a3)
   ·rw[a3]
    exact m.un h hu.1
  ·rcases hsrc h b h1 with ⟨j,o,c1,c2,c3⟩|⟨c1,c2,c3⟩<;>rcases hsrc h' b h2 with ⟨j',o',d1,d2,d3⟩|⟨d1,d2,d3⟩
   ·have:j=j':=m2.sep j j' b (by rw[hob3 j o c1];exact c2) (by rw[hob3 j' o' d1];exact d2)
    subst this
    rcases c3 with ⟨c3,c4⟩|⟨c3,c4⟩<;>rcases d3 with ⟨d3,d4⟩|⟨d3,d4⟩
    ·rw[c4]at d4
     exact Option.some.inj d4
    ·omega
    ·omega
    ·omega
   ·rcases howned2 j o b c1 c2 with ⟨g,hg,hgb⟩|hx
    ·exact absurd (m.sep g h' b hgb d2▸hg) d1
    ·have:=(m.olt ⟨h',d2⟩).1
     omega
   ·rcases howned2 j' o' b d1 d2 with ⟨g,hg,hgb⟩|hx
    ·exact absurd (m.sep g h b hgb c2▸hg) c1
    ·have:=(m.olt ⟨h,c2⟩).1
     omega
   ·exact m.sep h h' b c2 d2
  ·cases hk:keep
   ·rw[hZf2 hk]at hb
    exact m2.zlt b hb
   ·rw[hZf1 hk]at hb
    exact Nat.lt_of_lt_of_le (m.zlt b hb) x2.size
 subst hhpf
 refine⟨Zf,σf,ren_VR hret fun g hg j' hj'=>hback g j' (hret.live g hg) hj',mf,⟨x2.os,x2.tape,x2.out,x2.size,fun b hb hno=>hsame b hb fun g _ hgb=>hno ⟨g,hgb⟩,hZZf,fun b hb=>?_,fun b ⟨h,hb⟩=>?_⟩,hsle,⟨fun h hh e=>hh ((hun h).1 e).1,fun h hh e=>?_,fun h hu hh=>(hun h).2 ⟨hu,fun hc=>hh (mem_news.2 ⟨hc.1,by simpa using hc.2⟩)⟩⟩,hkept,fun h h1 h2=>?_⟩
 ·rcases hZ'n b (hZfZ' b hb)with hz|⟨g,_,hgb⟩|hz
  ·exact .inl hz
  ·exact .inr (.inl ⟨g,hgb⟩)
  ·exact .inr (.inr hz)
 ·rcases hsrc h b hb with ⟨j,o,c1,c2,_⟩|⟨_,c2,_⟩
  ·rcases howned2 j o b c1 c2 with ⟨g,_,hgb⟩|hx
   ·exact .inl ⟨g,hgb⟩
   ·exact .inr hx
  ·exact .inl ⟨h,c2⟩
 ·have hm:=mem_news.1 hh
  exact((hun h).1 e).2 ⟨hm.1,by simpa using hm.2⟩
 ·have h1:h∉ord++bs:=h1
  rcases hcase h with ⟨j,o,a1,a2,a3,a4,a5⟩|⟨a1,a2,a3⟩|⟨j,o,a1,a2,a3,a4,a5,a6⟩|⟨a1,a2,a3,a4,a5⟩|⟨a1,a2,a3,a4,a5⟩
  ·exact absurd (List.mem_append.2 (.inl (List.mem_of_getElem? a1))) h1
  ·exact absurd (List.mem_append.2 (.inl a1)) h1
  ·have hjl:=(List.getElem?_eq_some_iff.1 a3).1
   exact absurd (mem_news.2 ⟨by omega,by simp;omega⟩) h2
  ·exact absurd (List.mem_append.2 (.inr a3)) h1
  ·exact a4
end
end Go.Proofs.YtkeiedikiiccpaaGreatDoor.Am
