/- A part of the proof of ScrubMade: lemmas. No conditions beyond those of each lemma. -/
import Derived.Test.YtkeiedikiiccpaaGreatDoorK4
set_option linter.all false
namespace Go.Proofs.YtkeiedikiiccpaaGreatDoor.Am
open Go
section
variable {P:Program} {E:Env} {gv:Nat→AV} {Z Z':Nat→Prop} {w w':World} {σ σ':Nat→Sh} {hp hp':Nat→Ob} {o:Oper} {tm tm':Nat→AV} {n:Nat} {K:Eff→Option FRes} {r:FRes} {a:Act}
def Src (Z:Nat→Prop) (w:World) (e:Ty) (ys:List e.den) (x:Value):Prop:= ∃base c,x= .slice base ys.length c∧ ∃news,CellsOf Z w e ys news∧ ∀j v,news[j]?=some v→ ∃a,base=some a∧w.cell? (a.add j)=some v
theorem Src.row {e:Ty} {ys:List e.den} {b o c:Nat} (h:RowAt Z w b o e ys):Src Z w e ys (.slice (some ⟨b,o,none⟩) ys.length c):=by
 obtain⟨news,h1,h2⟩:=h.cells
 exact⟨_,_,rfl,news,h1,fun j v hj=>⟨_,rfl,by rw[add_spot];exact h2 j v hj⟩⟩
theorem Src.none {e:Ty} {ys:List e.den} (h:ys.length=0) (base:Option Addr) (c:Nat):Src Z w e ys (.slice base ys.length c):=by
 cases List.eq_nil_of_length_eq_zero h
 exact⟨_,_,rfl,[],CellsOf.nil e,by simp⟩
theorem Src.hdr {p:Pl} {e:Ty} {xs:List e.den} (h:xs=[]∨ ∃b s m,p=some (b,s,m)∧RowAt Z w b s e xs) {off len:Option Nat} {v:Value} (hv:Hdr e.sz p (ofs off) (slenN xs.length off len) v) (hle:ofs off+slenN xs.length off len≤xs.length):
  Src Z w e (win xs off len) v:=by
 have hl:=win_len xs off len hle
 obtain⟨a,c,rfl,hn,hc⟩:=hv
 by_cases h0:(win xs off len).length=0
 ·have:=Src.none (Z:=Z) (w:=w) h0 a c
  rwa[hl]at this
 ·rcases h with h|⟨b,s,m,rfl,hr⟩
  ·subst h
   rw[hl]at h0
   have h9:([]:List e.den).length=0:=rfl
   omega
  ·rcases hc with hc|⟨b',s',m',e1,rfl,_⟩
   ·omega
   ·cases e1
    have h2:RowAt Z w b (s+ofs off*e.sz) e (win xs off len):=by
     rw[win_eq xs off len hle]
     exact hr.cut
    have:=Src.row (c:=c) h2
    rwa[hl]at this
theorem Own.src {p:Pl} {e:Ty} {xs:List e.den} (h:Own Z w p e xs):xs=[]∨ ∃b s m,p=some (b,s,m)∧RowAt Z w b s e xs:=by
 match p,h with
 | none,h=>exact .inl h
 | some (b,s,m),⟨_,_,_,h4⟩=>exact .inr ⟨b,s,m,rfl,h4⟩
theorem cast_list {e' e:Ty} {xs:List e'.den} {ys:List e.den} (h:cast (.sl e') (.sl e) xs=some ys): ∃he:e'=e,he▸xs=ys:=by
 unfold cast at h
 split at h
 ·rename_i e1
  cases e1
  exact⟨rfl,Option.some.inj h⟩
 ·cases h
theorem srcE_snd {e:Ty} {v:AV} {ys:List e.den} {rd:List Nat} (h:srcE hp e v=some (ys,rd)): ∀{hp':Nat→Ob} {Z:Nat→Prop} {w:World} {σ:Nat→Sh} {x:Value},MR gv Z w σ hp'→(∀h∈rd,hp' h=hp h)→VR Z w σ v [x]→Src Z w e ys x:=by
 intro hp' Z w σ x m hr hx
 unfold srcE at h
 split at h
 ·cases h
  cases hx
  exact Src.none rfl _ _
 ·cases h
  cases hx
  exact Src.none rfl _ _
 ·rename_i e' zs
  obtain⟨qs,h1,h2⟩:=Option.map_eq_some_iff.1 h
  cases h2
  obtain⟨he,h3⟩:=cast_list h1
  subst he
  cases h3
  obtain⟨b,c,rfl,hc,hz⟩:=hx.slp
  rcases hz with hz|⟨b',o,rfl,_,hrow⟩
  ·exact Src.none hz _ _
  ·exact Src.row hrow
 ·rename_i g off len
  split at h
  ·rename_i e' zs hg
   obtain⟨qs,h1,h2⟩:=Option.map_eq_some_iff.1 h
   cases h2
   obtain⟨he,h3⟩:=cast_list h1
   subst he
   cases h3
   obtain⟨p,hs,ho⟩:=m.L (h:=g) (by rw[hr g (by simp)];exact hg)
   obtain⟨v,e1,hv⟩:=hx
   cases e1
   rw[hs]at hv
   exact Src.hdr ho.src hv.1 hv.2
  ·rename_i e' zs hg
   obtain⟨qs,h1,h2⟩:=Option.map_eq_some_iff.1 h
   cases h2
   obtain⟨he,h3⟩:=cast_list h1
   subst he
   cases h3
   obtain⟨p,hs,ho⟩:=m.F (h:=g) (by rw[hr g (by simp)];exact hg)
   obtain⟨v,e1,hv⟩:=hx
   cases e1
   rw[hs]at hv
   refine Src.hdr ?_ hv.1 hv.2
   rcases ho with ho|⟨b,s,m,h1,_,h2⟩
   ·exact .inl ho
   ·exact .inr ⟨b,s,m,h1,h2⟩
  ·cases h
 ·rename_i g id off len u
  split at h
  ·rename_i e' ids st u' pd hg
   split at h
   case isFalse=>cases h
   rename_i hu
   obtain⟨qs,h1,h2⟩:=Option.map_eq_some_iff.1 h
   cases h2
   obtain⟨he,h3⟩:=cast_list h1
   subst he
   cases h3
   obtain⟨p,q,hs,hq,hn⟩:=m.N (h:=g) (by rw[hr g (by simp)];exact hg)
   obtain⟨v,e1,hv⟩:=hx
   cases e1
   rw[hs]at hv
   obtain⟨_,hv⟩:=hv
   obtain⟨hv,hle⟩:=hv (by rw[hq,hu])
   rw[hn.lenOf]at hv hle
   rw[hn.sz]at hv
   refine Src.hdr ?_ hv hle
   rcases Nat.lt_or_ge id st.length with hi|hi
   ·exact(hn.own id _ (by simp[rowOf,hi])).src
   ·exact .inl (by simp[rowOf,List.getElem?_eq_none hi])
  ·cases h
 ·cases h
def ASrcE (P:Program) (i:TypeInfo) (z:Value) (t2:TypeId) (Z:Nat→Prop) (w:World) (e:Ty) (ys:List e.den) (x:Value):Prop:= ∃news,ASrc P i z t2 x ys.length news w∧CellsOf Z w e ys news
theorem Src.asrc {e:Ty} {ys:List e.den} {x:Value} (h:Src Z w e ys x) {i:TypeInfo} {z:Value} {t2 e2:TypeId} (hs:i.size=e.sz) (hu:P.underlying t2=some (.slice e2)):ASrcE P i z t2 Z w e ys x:=by
 obtain⟨base,c,rfl,news,h1,h2⟩:=h
 refine⟨news, .inl ⟨e2,hu,fun w=>by simp[Builtin.lenOf],fun w2 hw=>?_⟩,h1⟩
 refine run_first (by rw[h1.1,hs]) fun j v hj=>?_
 obtain⟨a,e,h3⟩:=h2 j v hj
 refine⟨a,e,?_⟩
 rw[←h3]
 simp[World.cell?,hw]
theorem zeroCells_of {e:Ty} {z:Array Value} (hz:PV Z w e e.zero z.toList) (l:Nat):CellsOf Z w e (List.replicate l e.zero) (Builtin.zeroCells z l).toList:=by
 have hsz:=PV.length e hz
 rw[Array.length_toList]at hsz
 refine⟨by rw[Array.length_toList,size_zeroCells,List.length_replicate,hsz],fun i y hy=>?_,fun v hv=>?_⟩
 ·have hi:i<l:=by
   have:=(List.getElem?_eq_some_iff.1 hy).1
   simpa using this
  have hye:y=e.zero:=by
   rw[List.getElem?_replicate,if_pos hi]at hy
   exact(Option.some.inj hy).symm
  subst hye
  refine⟨_,hz,fun j v hj=>?_⟩
  have hjl:=(List.getElem?_eq_some_iff.1 hj).1
  rw[Array.length_toList]at hjl
  have:=madeCells_at z l i j hjl hi
  rw[←hsz,Array.getElem?_toList]
  have h2:Builtin.zeroCells z l=madeCells z (l*z.size):=rfl
  rw[h2,this, ←hj]
  simp[hjl]
 ·simp only[Builtin.zeroCells,Array.toList_map,List.mem_map,Array.mem_toList_iff,Array.mem_range]at hv
  obtain⟨k,hk,rfl⟩:=hv
  have hp:0<z.size:=by
   rcases Nat.eq_zero_or_pos z.size with h|h
   ·rw[h]at hk;simp at hk
   ·exact h
  have:k%z.size<z.size:=Nat.mod_lt _ hp
  rw[getElem!_pos z (k%z.size) this]
  exact PV.one e hz _ (by simp)
end
section
variable {P:Program} {E:Env} {gv:Nat→AV} {hp:Nat→Ob} {o:Oper} {tm:Nat→AV} {n:Nat} {K:Eff→Option FRes} {r:FRes}
theorem run_append_op {c:Call} (ho:o.op= .call c) (hcal:c.callee= .builtin .append) {t t2:Nat} (hats:c.argTypes= #[t,t2]) {x y:Operand} (hargs:c.args= #[x,y]) (a:Act) (w:World):
  (execOp a.eval o).run P w=((Builtin.append_ #[t,t2] o.type #[a.eval x,a.eval y]).run P w).andThen fun v w=> .ok (.value v) w:=by
 simp only[execOp,ho,resolve,hcal,invoke,builtin,hats,hargs,List.map_toArray,List.map_cons,List.map_nil,Sem.run_bind,Sem.run_pure,Result.andThen_ok]
theorem appY_snd (hE:EnvOk P E) (hg:E.gl=gv) {c:Call} (ho:o.op= .call c) (hcal:c.callee= .builtin .append) {t t2 et:Nat} (hats:c.argTypes= #[t,t2]) {x y:Operand} (hargs:c.args= #[x,y])
  (hu:(E.ti t).u= .sl et) (hek:(E.ti et).eok=true) (hby:(E.ti et).bytes≠0) {ys:List (E.ti et).ec.den} {rd:List Nat} (h:appY hp n (E.ti et).ec (E.ti et).bytes (evA E tm x) ys rd K=some r)
  (hsrc: ∀(tm':Nat→AV) (hp':Nat→Ob) (Z:Nat→Prop) (w:World) (σ:Nat→Sh) (a:Act),(∀t∈opT o,tm' t=tm t)→(∀h∈rd,hp' h=hp h)→SR gv Z w σ tm' hp' a→ ∀i z,P.info? et=some i→i.zero=some z→ASrcE P i z t2 Z w (E.ti et).ec ys (a.eval y)):
  Snd P gv o tm hp n K r:=by
 obtain⟨hok,hsz,hpos⟩:=eok_spec hek
 obtain⟨inf,z,d,i1,i2,i3,i4,i5,i6,i7,i8,i9,i10,i11⟩:=tiChk_info (hE.tab et hok)
 have ht:=und_sl (hE.tab t (ok_of_u hu (by simp))) hu
 have hzs:z.cells.size=(E.ti et).ec.sz:=by
  have hpv:PV (fun _=>False) default (E.ti et).ec (E.ti et).ec.zero z.cells.toList:=PV.of_toC (σ:=fun _=> .un) _ (zChk_VR (i6 hek))
  rw[←Array.length_toList,PV.length _ hpv]
 have hinb:1≤inf.bytes:=by rw[i3];omega
 have hxo:x∈o.op.operands:=by simp[ho,Op.operands,Call.operands,hcal,hargs]
 unfold appY at h
 split at h
 ·rename_i hx
  split at h
  case isFalse=>cases h
  rename_i hrm
  refine⟨_,h,OpSnd.move (ds:=[]) rfl (by simp) (by simp) rfl fun tm' hp' Z w σ a ht' hh hs hn=>?_⟩
  have hv:VR Z w σ (evA E tm x) [a.eval x]:=evA_op hg hs ht' hxo
  rw[hx]at hv
  have hv:a.eval x= .slice none 0 0:=by simpa[VR]using hv
  obtain⟨nws0,ha,hc⟩:=hsrc tm' hp' Z w σ a ht' hh hs inf z i1 i4
  obtain⟨u,w',p',r1,r2,r3,r4,r5,r6,r7,r8,r9,r10⟩:=append_own (Z:=Z) (ty:=o.type) (p:=none) (xs:=[]) (off:=0) (nn:=0) (v:= .slice none 0 0) ht i1 i4 (by rw[i2,hsz]) hzs hinb rfl ⟨none,0,rfl,Nat.le_refl _, .inl rfl⟩ rfl ha hc rfl
   (by rw[i3];simp only[room]at hrm;simpa using hrm) hs.mem.zlt
  simp only[List.drop_nil,List.nil_append,Nat.zero_add]at r8 r9
  refine⟨u,w', .S (E.ti et).ec.sz ys.length p' none,by rw[run_append_op ho hcal hats hargs,hv,r1];rfl,r2,r3,r4,r5,fun b hb _=>r6 b hb (fun h=>h),by simp,fun b hb=> .inr ((r7 b hb).resolve_left (fun h=>h)),fun hk σ' hsl hsn=>⟨⟨p',rfl,r9⟩,_,rfl,?_⟩⟩
  rw[hsn]
  exact⟨by simpa[ofs,slenN]using r8,by simp[ofs,slenN]⟩
 ·rename_i g id u hx
  split at h
  case h_2=>cases h
  rename_i e' ids st v pd hgo
  split at h
  case isFalse=>cases h
  rename_i huv
  split at h
  case h_2=>cases h
  rename_i zs hcast
  split at h
  case isFalse=>cases h
  rename_i hrm
  obtain⟨he,hzz⟩:=cast_list hcast
  refine⟨_,h,?_⟩
  intro tm' hp' Z w σ a h1 h2 h3 h4 h5 h6 K' Q hK
  have hg':hp' g= .N e' ids st v pd:=(h2 g (by simp)).trans hgo
  obtain⟨p,q,hs,hq,hN⟩:=h5.mem.N hg'
  have hv:VR Z w σ (evA E tm x) [a.eval x]:=evA_op hg h5 h1 hxo
  rw[hx]at hv
  obtain⟨v0,e1,hv⟩:=hv
  simp only[List.cons.injEq,and_true]at e1
  subst e1
  rw[hs]at hv
  obtain⟨_,hv⟩:=hv
  obtain⟨hv,_⟩:=hv (by rw[hq,huv])
  have hv:Hdr q.sz (q.row id).1 0 (q.row id).2 (a.eval x):=by simpa[ofs,slenN]using hv
  rw[hN.sz,hN.lenOf]at hv
  obtain⟨nws0,ha,hc⟩:=hsrc tm' hp' Z w σ a h1 (fun h hh=>h2 h (by simp[hh])) h5 inf z i1 i4
  have ho1:Own Z w (q.row id).1 e' (rowOf st id):=by
   rcases Nat.lt_or_ge id st.length with hi|hi
   ·exact hN.own id _ (by simp[rowOf,hi])
   ·rw[hN.out id hi]
    simp[Own,rowOf,List.getElem?_eq_none hi]
  have hin: ∀b,plB (q.row id).1 b→id<st.length:=fun b hb=>by
   rcases Nat.lt_or_ge id st.length with hi|hi
   ·exact hi
   ·rw[hN.out id hi]at hb
    exact hb.elim
  subst he
  have hzz:ys=zs:=hzz
  subst hzz
  obtain⟨u',w',p',r1,r2,r3,r4,r5,r6,r7,r8,r9,r10⟩:=append_own (Z:=Z) (ty:=o.type) (off:=0) ht i1 i4 (by rw[i2,hsz]) hzs hinb ho1 hv (by simp) ha hc rfl (by rw[i3];simp only[room]at hrm;simpa using hrm) h5.mem.zlt
  have hbl: ∀b,plB (q.row id).1 b→blks (hp' g) (σ g) b:=fun b hb=>by rw[hg',hs];exact .inr (.inl ⟨id,hin b hb,hb⟩)
  have hkk:Kept Z w Z w':=⟨fun _ h=>h,fun b hb=>r6 b (h5.mem.zlt b hb) fun hp=>(h5.mem.olt ⟨g,hbl b hp⟩).2 hb⟩
  have hrw: ∀j b,j<st.length→j≠id→plB (q.row j).1 b→w'.heap[b]?=w.heap[b]?:=fun j b hj hne hb=>r6 b (h5.mem.olt ⟨g,by rw[hg',hs];exact .inr (.inl ⟨j,hj,hb⟩)⟩).1 fun hp=>hne (hN.sep b j id hj (hin b hp) hb hp)
  have hph: ∀b,plB p b→w'.heap[b]?=w.heap[b]?:=fun b hb=>r6 b (h5.mem.olt ⟨g,by rw[hg',hs];exact .inl hb⟩).1 fun hp=>hN.off b id hb (hin b hp) hp
  have hlt0: ∀b,blks (hp' g) (σ g) b→b<w.heap.size∧ ¬Z b:=fun b hb=>h5.mem.olt ⟨g,hb⟩
  have hsle: ∀h,Sle (upd σ g (.S 1 (numOf ids st) p (some { v:=v+1,sz:=q.sz,row:=q.row,pd:=some (p',(rowOf st id).length+ys.length) })) h) (σ h):=fun h=>by
   by_cases hh:h=g
   ·subst hh
    rw[upd_same,hs]
    exact .rows _ _ _ _ _ (.inl (by simp[hq]))
   ·rw[upd_ne _ _ hh]
    exact .same _
  have hstep:=MR.step (σ':=upd σ g (.S 1 (numOf ids st) p (some { v:=v+1,sz:=q.sz,row:=q.row,pd:=some (p',(rowOf st id).length+ys.length) }))) (hp':=upd hp' g (.N (E.ti et).ec ids st (v+1) (some (id,rowOf st id++ys)))) (Z':=Z) (w':=w') h5.mem (· =g) (fun a b=>a=b) (fun h b=>h=g∧w.heap.size≤b)
   r2 r3 r4 r5 (fun b hb hno=>r6 b hb fun hp=>hno ⟨g,hbl b hp⟩) (fun _ h=>h) (fun b hb=> .inl hb) (fun b hb=>by have:=h5.mem.zlt b hb;omega) hsle
   (fun h hh=>⟨upd_ne _ _ hh,upd_ne _ _ hh,fun b hb=>⟨r6 b (h5.mem.olt ⟨h,hb⟩).1 fun hp=>hh (h5.mem.sep h g b hb (hbl b hp)),(h5.mem.olt ⟨h,hb⟩).2⟩⟩)
   (fun j0 hj0=>by
    subst hj0
    rw[upd_same,upd_same]
    refine⟨fun _=>⟨p,_,rfl,rfl,{ sz:=hN.sz,out:=hN.out,len:=hN.len,off:=hN.off,sep:=hN.sep,own:=?_,head:=?_,blk:=?_,pd0:=(by simp),pd1:=?_ }⟩,(by simp),?_⟩
    ·intro j xs hj
     have hjl:=(List.getElem?_eq_some_iff.1 hj).1
     by_cases hjid:j=id
     ·subst hjid
      have:xs=rowOf st j:=by simp[rowOf,hj]
      rw[this]
      exact r10
     ·exact(hN.own j xs hj).kept hkk (fun b hb=>hrw j b hjl hjid hb) (fun b hb=>(hlt0 b (by rw[hg',hs];exact .inr (.inl ⟨j,hjl,hb⟩))).2)
    ·intro i hi
     obtain⟨b,s,m,x0,e1,e2,e3⟩:=hN.head i hi
     refine⟨b,s,m,x0,e1,?_,e3⟩
     rw[World.cell?_of_block (w:=w) (a:=⟨b,s+i,none⟩) (hph b (by simp[e1,plB]))]
     exact e2
    ·intro b s m e1
     obtain⟨e2,e3,e4⟩:=hN.blk b s m e1
     exact⟨e2,e3.kept (hph b (by simp[e1,plB])),e4⟩
    ·intro id' xs e1
     cases e1
     refine⟨p',by simp,by simpa using r9,fun b hb hpb=>?_,fun b j hb hj hjb=>?_⟩
     ·rcases r7 b hb with hx|hx
      ·exact hN.off b id hpb (hin b hx) hx
      ·have:=(hlt0 b (by rw[hg',hs];exact .inl hpb)).1
       omega
     ·rcases r7 b hb with hx|hx
      ·exact hN.sep b j id hj (hin b hx) hjb hx
      ·have:=(hlt0 b (by rw[hg',hs];exact .inr (.inl ⟨j,hj,hjb⟩))).1
       omega
    ·intro b hb
     rcases hb with hb|⟨j,hj,hb⟩|⟨_,p2,k2,e1,hb⟩
     ·exact .inl ⟨j0,rfl,by rw[hg',hs];exact .inl hb⟩
     ·exact .inl ⟨j0,rfl,by rw[hg',hs];exact .inr (.inl ⟨j,hj,hb⟩)⟩
     ·cases e1
      rcases r7 b hb with hx|hx
      ·exact .inl ⟨j0,rfl,hbl b hx⟩
      ·exact .inr ⟨rfl,hx⟩)
   (fun _ _=>rfl) (fun a b c e1 e2=>e1.symm.trans e2) (fun h b hf=>hf.2) (fun h h' b f1 f2=>f1.1.trans f2.1.symm)
  unfold Oper.wp
  rw[run_append_op ho hcal hats hargs,r1]
  show K' (a.put o.dst u') w'
  have hvv:VR Z w' (upd σ g (.S 1 (numOf ids st) p (some { v:=v+1,sz:=q.sz,row:=q.row,pd:=some (p',(rowOf st id).length+ys.length) }))) (.pap g (v+1)) [u']:=by
   refine⟨u',rfl,?_⟩
   rw[upd_same]
   have h8:=r8
   obtain⟨a0,c0,rfl,_⟩:=h8
   refine⟨⟨Nat.le_refl _,rfl⟩,fun _ q2 k2 e1=>?_⟩
   cases e1
   rw[hN.sz]
   exact r8
  refine hK _ w' Z _ (h5.put hstep.1 hkk hsle hvv h6) hstep.2 hsle ⟨fun h hh e=>?_,fun h hh=>by simp[news]at hh,fun h hu _=>?_⟩ (size_put _ _ _) (defers_put _ _ _)
  ·by_cases hh2:h=g
   ·subst hh2
    rw[upd_same]at e
    cases e
   ·rw[upd_ne _ _ hh2]at e
    exact hh e
  ·have hh2:h≠g:=fun e=>by subst e;rw[hs]at hu;cases hu
   rw[upd_ne _ _ hh2]
   exact hu
 ·rename_i g off len hx
  split at h
  case h_2=>cases h
  rename_i e' xs hgo
  split at h
  case h_2=>cases h
  rename_i zs hcast
  split at h
  case isFalse=>cases h
  rename_i hcond
  split at h
  case isFalse=>cases h
  rename_i hrm
  obtain⟨he,hzz⟩:=cast_list hcast
  subst he
  have hzz:xs=zs:=hzz
  subst hzz
  simp only[Bool.and_eq_true,Bool.not_eq_true']at hcond
  refine⟨_,h,OpSnd.move (ds:=[g]) rfl (by simp) (by simp[hgo]) rfl fun tm' hp' Z w σ a ht' hh hs hn=>?_⟩
  have hg':hp' g= .L (E.ti et).ec xs:=(hh g (by simp)).trans hgo
  obtain⟨p,p1,p2⟩:=hs.mem.L hg'
  have hv:VR Z w σ (evA E tm x) [a.eval x]:=evA_op hg hs ht' hxo
  rw[hx]at hv
  obtain⟨v0,e1,hv⟩:=hv
  simp only[List.cons.injEq,and_true]at e1
  subst e1
  rw[p1]at hv
  obtain⟨hv,hle⟩:=hv
  have hend:ofs off+slenN xs.length off len=xs.length:=by
   cases len with
   | none=>cases off with
    | none=>simp[ofs,slenN]
    | some o=>simp[ofs,slenN]at hle ⊢;omega
   | some k=>
    have:=hcond.1
    simp only[atEnd,decide_eq_true_eq]at this
    exact this
  obtain⟨nws0,ha,hc⟩:=hsrc tm' hp' Z w σ a ht' (fun h hm=>hh h (by simp[hm])) hs inf z i1 i4
  have hwin:win xs off none=xs.drop (ofs off):=by cases off<;>simp[win,ofs]
  have hwl:(xs.drop (ofs off)).length=slenN xs.length off len:=by rw[List.length_drop];omega
  obtain⟨u,w',p',r1,r2,r3,r4,r5,r6,r7,r8,r9,r10⟩:=append_own (Z:=Z) (ty:=o.type) ht i1 i4 (by rw[i2,hsz]) hzs hinb p2 hv hend ha hc rfl (by rw[i3, ←hwl, ←hwin];simpa[room]using hrm) hs.mem.zlt
  refine⟨u,w', .S (E.ti et).ec.sz (win xs off none++ys).length p' none,by rw[run_append_op ho hcal hats hargs,r1];rfl,r2,r3,r4,r5,fun b hb hno=>r6 b hb fun hp=>hno g (by simp) (by rw[hg',p1];exact hp),by simp,fun b hb=>?_,fun hk σ' hsl hsn=>⟨⟨p',rfl,by rw[hwin];exact r9⟩,_,rfl,?_⟩⟩
  ·rcases r7 b hb with hx|hx
   ·exact .inl ⟨g,by simp,by rw[hg',p1];exact hx⟩
   ·exact .inr hx
  ·rw[hsn]
   have hlen:(win xs off none++ys).length=slenN xs.length off len+ys.length:=by rw[List.length_append,hwin,hwl]
   rw[hlen]
   exact⟨by simpa[ofs,slenN]using r8,by simp[ofs,slenN]⟩
 ·cases h
end
def RB (p:Pl) (r:NI) (k:Nat) (b:Nat):Prop:=plB p b∨ ∃i,i<k∧plB (r.row i).1 b
section
variable {P:Program} {E:Env} {gv:Nat→AV} {Z Z':Nat→Prop} {w w':World} {σ σ':Nat→Sh} {hp hp':Nat→Ob}
theorem Rws.heads {e:Ty} {st:List (List e.den)} {pd:Option (Nat×List e.den)} {p:Pl} {r:NI} (h:Rws Z w e none st pd p r): ∃all,Raw w p 1 st.length all∧ ∀i x,all[i]?=some x→Hdr e.sz (r.row i).1 0 (r.row i).2 x:=by
 match p,h with
 | none,h=>
  have:st=[]:=by
   cases st with
   | nil=>rfl
   | cons _ _=>obtain⟨_,_,_,_,e,_⟩:=h.head 0 (by simp[numOf]);cases e
  subst this
  exact⟨[],⟨rfl,rfl⟩,by simp⟩
 | some (b,s,m),h=>
  obtain⟨h1,h2,h3⟩:=h.blk b s m rfl
  have hget: ∀i,i<st.length→ ∃x,w.cell? ⟨b,s+i,none⟩=some x∧Hdr e.sz (r.row i).1 0 (r.row i).2 x:=fun i hi=>by
   obtain⟨b',s',m',x,e1,e2,e3⟩:=h.head i hi
   cases e1
   exact⟨x,e2,e3⟩
  refine⟨(List.range st.length).map fun i=>(w.cell? ⟨b,s+i,none⟩).getD undef,⟨by simp,h1,by simpa using h2,fun j v hj=>?_⟩,fun i x hi=>?_⟩
  ·rw[List.getElem?_map]at hj
   obtain⟨k,hk,rfl⟩:=Option.map_eq_some_iff.1 hj
   obtain⟨hk1,hk2⟩:=List.getElem?_eq_some_iff.1 hk
   simp only[List.getElem_range]at hk2
   subst hk2
   obtain⟨x,e2,_⟩:=hget j (by simpa using hk1)
   rw[e2]
   rfl
  ·rw[List.getElem?_map]at hi
   obtain⟨k,hk,rfl⟩:=Option.map_eq_some_iff.1 hi
   obtain⟨hk1,hk2⟩:=List.getElem?_eq_some_iff.1 hk
   simp only[List.getElem_range]at hk2
   subst hk2
   obtain⟨x,e2,e3⟩:=hget i (by simpa using hk1)
   rw[e2]
   exact e3
theorem rows_append {e:Ty} {zs st:List (List e.den)} {pdh pdg:Option (Nat×List e.den)} {ph pg p':Pl} {rh rg:NI} (A:Rws Z w e none zs pdh ph rh) (B:Rws Z w e none st pdg pg rg)
  (hdis: ∀b,RB ph rh zs.length b→RB pg rg st.length b→False) (hltA: ∀b,RB ph rh zs.length b→b<w.heap.size∧ ¬Z b) (hltB: ∀b,RB pg rg st.length b→b<w.heap.size∧ ¬Z b) {allh allg:List Value}
  (ha: ∀i x,allh[i]?=some x→Hdr e.sz (rh.row i).1 0 (rh.row i).2 x) (hah:allh.length=zs.length) (hb: ∀i x,allg[i]?=some x→Hdr e.sz (rg.row i).1 0 (rg.row i).2 x) (hzl: ∀b,Z b→b<w.heap.size)
  (hr:Raw w' p' 1 (zs.length+st.length) (allh++allg)) (r6: ∀b,b<w.heap.size→ ¬plB ph b→w'.heap[b]?=w.heap[b]?) (r7: ∀b,plB p' b→plB ph b∨w.heap.size≤b):
  Rws Z w' e none (zs++st) none p' { v:=0,sz:=e.sz,row:=fun i=>if i<zs.length then rh.row i else rg.row (i-zs.length),pd:=none }:=by
 have hk:Kept Z w Z w':=⟨fun _ h=>h,fun b hb=>r6 b (hzl b hb) fun hp=>(hltA b (.inl hp)).2 hb⟩
 have hrowA: ∀i b,i<zs.length→plB (rh.row i).1 b→RB ph rh zs.length b:=fun i b hi hb=> .inr ⟨i,hi,hb⟩
 have hrowB: ∀i b,i<st.length→plB (rg.row i).1 b→RB pg rg st.length b:=fun i b hi hb=> .inr ⟨i,hi,hb⟩
 refine { sz:=rfl,out:=fun i hi=>?_,len:=fun i xs hx=>?_,own:=fun i xs hx=>?_,head:=fun i hi=>?_,blk:=fun b s m hb'=>?_,off:=fun b i hb' hi h=>?_,sep:=fun b i j hi hj h1 h2=>?_,pd0:=fun _=>rfl,pd1:=fun _ _ h=>(by cases h) }
 ·rw[List.length_append]at hi
  simp only[if_neg (show¬i<zs.length by omega)]
  exact B.out _ (by omega)
 ·rw[List.getElem?_append]at hx
  split at hx
  ·rename_i hi
   simp only[if_pos hi]
   exact A.len i xs hx
  ·rename_i hi
   simp only[if_neg hi]
   exact B.len _ xs hx
 ·rw[List.getElem?_append]at hx
  split at hx
  ·rename_i hi
   simp only[if_pos hi]
   exact(A.own i xs hx).kept hk (fun b hb=>r6 b (hltA b (hrowA i b hi hb)).1 fun hp=>A.off b i hp hi hb) (fun b hb=>(hltA b (hrowA i b hi hb)).2)
  ·rename_i hi
   simp only[if_neg hi]
   have hj:=(List.getElem?_eq_some_iff.1 hx).1
   exact(B.own _ xs hx).kept hk (fun b hb=>r6 b (hltB b (hrowB _ b hj hb)).1 fun hp=>hdis b (.inl hp) (hrowB _ b hj hb)) (fun b hb=>(hltB b (hrowB _ b hj hb)).2)
 ·simp only[numOf,List.length_append]at hi
  have hall:i<(allh++allg).length:=by rw[hr.1];omega
  have hx:(allh++allg)[i]?=some (allh++allg)[i]:=by simp[hall]
  match p',hr with
  | none,hr=>have:=hr.2;omega
  | some (b,s,m),⟨_,h1,h2,h3⟩=>
   refine⟨b,s,m,_,rfl,h3 i _ hx,?_⟩
   show Hdr e.sz (if i<zs.length then rh.row i else rg.row (i-zs.length)).1 0 (if i<zs.length then rh.row i else rg.row (i-zs.length)).2 _
   have hx2:=hx
   rw[List.getElem?_append]at hx2
   split at hx2
   ·rw[if_pos (by omega)]
    exact ha i _ hx2
   ·rw[if_neg (by omega), ←hah]
    exact hb _ _ hx2
 ·match p',hr,r7,hb' with
  | some (b',s',m'),⟨_,h1,h2,h3⟩,r7,hb'=>
   cases hb'
   refine⟨by simp only[numOf,List.length_append];exact h1,by simpa using h2,fun hz=>?_⟩
   rcases r7 b rfl with h|h
   ·exact(hltA b (.inl h)).2 hz
   ·have:=hzl b hz
    omega
 ·rw[List.length_append]at hi
  simp only at h
  split at h
  ·rename_i hi2
   rcases r7 b hb' with hx|hx
   ·exact A.off b i hx hi2 h
   ·have:=(hltA b (hrowA i b hi2 h)).1
    omega
  ·rename_i hi2
   have hrb:=hrowB (i-zs.length) b (by omega) h
   rcases r7 b hb' with hx|hx
   ·exact hdis b (.inl hx) hrb
   ·have:=(hltB b hrb).1
    omega
 ·rw[List.length_append]at hi hj
  simp only at h1 h2
  split at h1<;>split at h2
  ·exact A.sep b i j ‹_› ‹_› h1 h2
  ·exact(hdis b (hrowA i b ‹_› h1) (hrowB _ b (by omega) h2)).elim
  ·exact(hdis b (hrowA j b ‹_› h2) (hrowB _ b (by omega) h1)).elim
  ·have:=B.sep b _ _ (by omega) (by omega) h1 h2
   omega
end
section
variable {P:Program} {E:Env} {gv:Nat→AV} {hp:Nat→Ob} {o:Oper} {tm:Nat→AV} {n:Nat} {K:Eff→Option FRes} {r:FRes}
theorem avs_two {l:List Operand} {x y:AV} (h:avs E tm l= .cn x (.cn y .e0)): ∃a b,l=[a,b]∧evA E tm a=x∧evA E tm b=y:=by
 match l,h with
 | [a,b],h=>simp only[avs,AV.cn.injEq,and_true]at h;exact⟨a,b,rfl,h.1,h.2⟩
theorem avs_one {l:List Operand} {x:AV} (h:avs E tm l= .cn x .e0): ∃a,l=[a]∧evA E tm a=x:=by
 match l,h with
 | [a],h=>simp only[avs,AV.cn.injEq,and_true]at h;exact⟨a,rfl,h⟩
theorem arr2 {α:Type} {a:Array α} {x y:α} (h:a.toList=[x,y]):a= #[x,y]:=by
 apply Array.ext'
 rw[h]
theorem arr1 {α:Type} {a:Array α} {x:α} (h:a.toList=[x]):a= #[x]:=by
 apply Array.ext'
 rw[h]
theorem appRows_snd (hE:EnvOk P E) (hg:E.gl=gv) {c:Call} (ho:o.op= .call c) (hcal:c.callee= .builtin .append) {t t2 et:Nat} (hats:c.argTypes= #[t,t2]) {x y:Operand} (hargs:c.args= #[x,y])
  (hu:(E.ti t).u= .sl et) (hek:(E.ti et).eok=true) (hby:(E.ti et).bytes≠0) {e2:Nat} (hu2:(E.ti t2).u= .sl e2) {e':Ty} {st:List (List e'.den)} {g:Nat} (hro:rowsE hp (E.ti et).ec (evA E tm y)=some ⟨e',st,g⟩)
  (h:(match evA E tm x with
    | .nil=>if st.length*(E.ti et).bytes≤room then K { v:= .sl n none none,rd:=[g],wr:=[(g, .dead)],nw:=[.N e' none st 0 none] } else none
    | .sl h none none=>match hp h with
     | .N e'' none st' _ _=>match cast (.sl (.sl e'')) (.sl (.sl e')) st' with
      | some zs=>if h=g then none else
       if(List.length zs+st.length)*(E.ti et).bytes≤room then K { v:= .sl n none none,rd:=[h,g],wr:=[(h, .dead),(g, .dead)],nw:=[.N e' none (List.append (α:=List e'.den) zs st) 0 none] } else none
      | none=>none
     | _=>none
    | _=>none)=some r):Snd P gv o tm hp n K r:=by
 obtain⟨hok,hsz,hpos⟩:=eok_spec hek
 obtain⟨inf,z,d,i1,i2,i3,i4,i5,i6,i7,i8,i9,i10,i11⟩:=tiChk_info (hE.tab et hok)
 have ht:=und_sl (hE.tab t (ok_of_u hu (by simp))) hu
 have ht2:=und_sl (hE.tab t2 (ok_of_u hu2 (by simp))) hu2
 have hzs:z.cells.size=(E.ti et).ec.sz:=by
  have hpv:PV (fun _=>False) default (E.ti et).ec (E.ti et).ec.zero z.cells.toList:=PV.of_toC (σ:=fun _=> .un) _ (zChk_VR (i6 hek))
  rw[←Array.length_toList,PV.length _ hpv]
 have hinb:1≤inf.bytes:=by rw[i3];omega
 obtain⟨v,pd,hec,hy,hgo⟩: ∃v pd,(E.ti et).ec.sz=1∧evA E tm y= .sl g none none∧hp g= .N e' none st v pd:=by
  unfold rowsE at hro
  split at hro
  ·rename_i e0 g0 hec hyv
   split at hro
   ·rename_i e1 st1 v pd hgg
    cases hro
    exact⟨v,pd,by rw[hec];rfl,hyv,hgg⟩
   ·cases hro
  ·cases hro
 have hsz1:inf.size=1:=by rw[i2,hsz,hec]
 have hG: ∀{hp' Z w σ} {a:Act} {tm':Nat→AV},SR gv Z w σ tm' hp' a→(∀t∈opT o,tm' t=tm t)→hp' g=hp g→ ∃pg rg allg,σ g= .S 1 st.length pg (some rg)∧Rws Z w e' none st pd pg rg∧allg.length=st.length∧(∀i x,allg[i]?=some x→Hdr e'.sz (rg.row i).1 0 (rg.row i).2 x)∧
   ASrc P inf z t2 (a.eval y) st.length allg w∧(∀v∈allg,v.oneCell'=true):=by
  intro hp' Z w σ a tm' hs ht' hgg
  obtain⟨pg,rg,g1,g2,g3⟩:=hs.mem.N (hgg.trans hgo)
  obtain⟨allg,g4,g5⟩:=g3.heads
  have hv:VR Z w σ (evA E tm y) [a.eval y]:=evA_op hg hs ht' (by simp[ho,Op.operands,Call.operands,hcal,hargs])
  rw[hy]at hv
  obtain⟨v0,e1,hv⟩:=hv
  simp only[List.cons.injEq,and_true]at e1
  rw[←e1,g1]at hv
  have hv:Hdr 1 pg 0 st.length (a.eval y):=by simpa[ofs,slenN,numOf]using hv.1
  obtain⟨b,cc,hve,hnc,hac⟩:=hv
  refine⟨pg,rg,allg,g1,g3,by simpa using g4.1,g5, .inl ⟨e2,ht2,fun w=>by rw[hve];simp[Builtin.lenOf],fun w2 hw=>?_⟩,fun v hv=>?_⟩
  ·rw[hve]
   refine run_first (by rw[g4.1,hsz1]) fun j v hj=>?_
   match pg,g4,hac with
   | none,g4,_=>
    have h0:=(List.getElem?_eq_some_iff.1 hj).1
    have h2:=g4.1
    have h3:st.length=0:=g4.2
    omega
   | some (b',s,m),⟨h0,h1,h2,h3⟩,hac=>
    rcases hac with hac|⟨b2,s2,m2,e1,rfl,_⟩
    ·have h4:=(List.getElem?_eq_some_iff.1 hj).1
     omega
    ·cases e1
     refine⟨_,rfl,?_⟩
     rw[add_spot]
     have:=h3 j v hj
     rw[←this]
     simp[World.cell?,hw]
  ·obtain⟨i,hi,rfl⟩:=List.mem_iff_getElem.1 hv
   obtain⟨a0,c0,e1,_⟩:=g5 i allg[i] (by simp[hi])
   rw[e1]
   rfl
 have hblG: ∀{hp':Nat→Ob} {σ:Nat→Sh} {pg:Pl} {rg:NI},hp' g=hp g→σ g= .S 1 st.length pg (some rg)→ ∀b,RB pg rg st.length b→blks (hp' g) (σ g) b:=fun {hp' σ pg rg} hgg g1 b hb=>by
  rw[hgg,hgo,g1]
  rcases hb with hb|hb
  ·exact .inl hb
  ·exact .inr (.inl hb)
 split at h
 ·rename_i hx
  split at h
  case isFalse=>cases h
  rename_i hrm
  refine⟨_,h,OpSnd.move (ds:=[g]) rfl (by simp) (by simp[hgo]) rfl fun tm' hp' Z w σ a ht' hh hs hn=>?_⟩
  have hgg:=hh g (by simp)
  obtain⟨pg,rg,allg,g1,g3,g4,g5,g6,g7⟩:=hG hs ht' hgg
  have hv:VR Z w σ (evA E tm x) [a.eval x]:=evA_op hg hs ht' (by simp[ho,Op.operands,Call.operands,hcal,hargs])
  rw[hx]at hv
  have hv:a.eval x= .slice none 0 0:=by simpa[VR]using hv
  obtain⟨u,w',p',r1,r2,r3,r4,r5,r6,r7,r8,r9,r10⟩:=append_raw (w:=w) (ty:=o.type) (p:=none) (k:=0) (off:=0) (nn:=0) (v:= .slice none 0 0) (all:=[]) ht i1 i4 hsz1 (by rw[hzs,hec]) hinb ⟨rfl,rfl⟩ ⟨none,0,rfl,Nat.le_refl _, .inl rfl⟩ rfl g6 (by rw[g4];omega) g7
   (by rw[i3];simp only[room]at hrm;simpa using hrm)
  simp only[Nat.zero_add,List.drop_nil,List.nil_append]at r8 r9
  have hW:=rows_append (Z:=Z) (w:=w) (e:=e') (zs:=[]) (ph:=none) (pdh:=none) (rh:={ v:=0,sz:=e'.sz,row:=fun _=>(none,0),pd:=none }) (allh:=[])
   { sz:=rfl,out:=fun _ _=>rfl,len:=fun i xs hx=>(by simp at hx),own:=fun i xs hx=>(by simp at hx),head:=fun i hi=>(by simp[numOf]at hi),blk:=fun _ _ _ h=>(by cases h),off:=fun _ _ h=>h.elim,sep:=fun _ i _ hi=>(by simp at hi),pd0:=fun _=>rfl,pd1:=fun _ _ h=>(by cases h) }
   g3 (fun b hb _=>by rcases hb with hb|⟨i,hi,_⟩;exact hb;simp at hi) (fun b hb=>by rcases hb with hb|⟨i,hi,_⟩;exact hb.elim;simp at hi) (fun b hb=>hs.mem.olt ⟨g,hblG hgg g1 b hb⟩) (by simp) rfl g5 hs.mem.zlt (by simpa using r9) r6 r7
  refine⟨u,w', .S 1 st.length p' (some { v:=0,sz:=e'.sz,row:=fun i=>if i<0 then(none,0)else rg.row (i-0),pd:=none }),by rw[run_append_op ho hcal hats hargs,hv,r1];rfl,r2,r3,r4,r5,fun b hb _=>r6 b hb (fun h=>h),by simp,fun b hb=>?_,fun hk σ' hsl hsn=>⟨⟨p',_,rfl,rfl,hW⟩,_,rfl,?_⟩⟩
  ·rcases hb with hb|⟨i,hi,hb⟩|⟨hb,_⟩
   ·exact .inr ((r7 b hb).resolve_left (fun h=>h))
   ·left
    simp only[Nat.not_lt_zero,if_false,Nat.sub_zero]at hb
    exact⟨g,by simp,hblG hgg g1 b (.inr ⟨i,hi,hb⟩)⟩
   ·cases hb
  ·rw[hsn]
   exact⟨by simpa[ofs,slenN]using r8,by simp[ofs,slenN]⟩
 ·rename_i g2 hx
  split at h
  case h_2=>cases h
  rename_i e'' st' v2 pd2 hg2o
  split at h
  case h_2=>cases h
  rename_i zs hcast
  split at h
  case isTrue=>cases h
  rename_i hne
  split at h
  case isFalse=>cases h
  rename_i hrm
  obtain⟨he,hzz⟩:=cast_list hcast
  cases he
  have hzz:st'=zs:=hzz
  subst hzz
  refine⟨_,h,OpSnd.move (ds:=[g2,g]) rfl (by simp) (by simp[hgo,hg2o]) rfl fun tm' hp' Z w σ a ht' hh hs hn=>?_⟩
  have hgg:=hh g (by simp)
  have hgg2:=hh g2 (by simp)
  obtain⟨pg,rg,allg,g1,g3,g4,g5,g6,g7⟩:=hG hs ht' hgg
  obtain⟨ph,rh,k1,k2,k3⟩:=hs.mem.N (hgg2.trans hg2o)
  obtain⟨allh,k4,k5⟩:=k3.heads
  have hblH: ∀b,RB ph rh st'.length b→blks (hp' g2) (σ g2) b:=fun b hb=>by
   rw[hgg2,hg2o,k1]
   rcases hb with hb|hb
   ·exact .inl hb
   ·exact .inr (.inl hb)
  have hv:VR Z w σ (evA E tm x) [a.eval x]:=evA_op hg hs ht' (by simp[ho,Op.operands,Call.operands,hcal,hargs])
  rw[hx]at hv
  obtain⟨v0,e1,hv⟩:=hv
  simp only[List.cons.injEq,and_true]at e1
  rw[←e1,k1]at hv
  have hv:Hdr 1 ph 0 st'.length (a.eval x):=by simpa[ofs,slenN,numOf]using hv.1
  obtain⟨u,w',p',r1,r2,r3,r4,r5,r6,r7,r8,r9,r10⟩:=append_raw (w:=w) (ty:=o.type) (off:=0) ht i1 i4 hsz1 (by rw[hzs,hec]) hinb k4 hv (by simp) g6 (by rw[g4];omega) g7 (by rw[i3];simp only[room]at hrm;exact hrm)
  simp only[Nat.zero_mul,List.drop_zero]at r9
  have hW:=rows_append (Z:=Z) (w:=w) k3 g3 (fun b hb hb2=>hne (hs.mem.sep g2 g b (hblH b hb) (hblG hgg g1 b hb2))) (fun b hb=>hs.mem.olt ⟨g2,hblH b hb⟩) (fun b hb=>hs.mem.olt ⟨g,hblG hgg g1 b hb⟩) k5 (by simpa using k4.1) g5 hs.mem.zlt r9 r6 r7
  refine⟨u,w', .S 1 (st'.length+st.length) p' (some { v:=0,sz:=e'.sz,row:=fun i=>if i<st'.length then rh.row i else rg.row (i-st'.length),pd:=none }),by rw[run_append_op ho hcal hats hargs,r1];rfl,r2,r3,r4,r5,fun b hb hno=>r6 b hb fun hp=>hno g2 (by simp) (hblH b (.inl hp)),by simp,fun b hb=>?_,
   fun hk σ' hsl hsn=>⟨⟨p',_,by simp[numOf],rfl,hW⟩,_,rfl,?_⟩⟩
  ·rcases hb with hb|⟨i,hi,hb⟩|⟨hb,_⟩
   ·rcases r7 b hb with hx|hx
    ·exact .inl ⟨g2,by simp,hblH b (.inl hx)⟩
    ·exact .inr hx
   ·left
    simp only at hb
    split at hb
    ·exact⟨g2,by simp,hblH b (.inr ⟨i, ‹_›,hb⟩)⟩
    ·have hi:i<(st'++st).length:=hi
     rw[List.length_append]at hi
     exact⟨g,by simp,hblG hgg g1 b (.inr ⟨_,by omega,hb⟩)⟩
   ·cases hb
  ·rw[hsn]
   exact⟨by simpa[ofs,slenN]using r8,by simp[ofs,slenN]⟩
 ·cases h
theorem snd_append (hE:EnvOk P E) (hg:E.gl=gv) {c:Call} (ho:o.op= .call c) (hcal:c.callee= .builtin .append) {t t2:Nat} (hats:c.argTypes.toList=[t,t2]) {x y:AV} (hargs:avs E tm c.args.toList= .cn x (.cn y .e0))
  (h:appE E hp n t t2 x y K=some r):Snd P gv o tm hp n K r:=by
 obtain⟨x',y',h1,rfl,rfl⟩:=avs_two hargs
 have h1:=arr2 h1
 have hats:=arr2 hats
 have hyo:y'∈o.op.operands:=by simp[ho,Op.operands,Call.operands,hcal,h1]
 unfold appE at h
 split at h
 case h_2=>cases h
 rename_i et hu
 cases hc:(Nat.beq (E.ti et).bytes 0||!(E.ti et).eok||!(E.ti t2).ok)
 case true=>rw[hc]at h;cases h
 rw[hc]at h
 simp only[cond_false]at h
 simp only[Bool.or_eq_false_iff,Bool.not_eq_false']at hc
 obtain⟨⟨hc1,hek⟩,hok2⟩:=hc
 have hby:(E.ti et).bytes≠0:=fun e=>by rw[e]at hc1;simp at hc1
 obtain⟨hok,hsz,hpos⟩:=eok_spec hek
 split at h
 ·rename_i k hu2
  split at h
  case h_2=>cases h
  rename_i l hl
  split at h
  case isFalse=>cases h
  rename_i hc
  refine appY_snd hE hg ho hcal hats h1 hu hek hby h fun tm' hp' Z w σ a ht' hh hs i z hi hz=>?_
  obtain⟨k',e1⟩:=asI_VR hl (evA_op hg hs ht' hyo)
  obtain⟨inf,z',d,i1,i2,i3,i4,i5,i6,i7,i8,i9,i10,i11⟩:=tiChk_info (hE.tab et hok)
  rw[hi]at i1
  cases i1
  rw[hz]at i4
  cases i4
  have hpv:PV Z w (E.ti et).ec (E.ti et).ec.zero z.cells.toList:=PV.of_toC (σ:=σ) _ (zChk_VR (i6 hek))
  refine⟨_, .inr ⟨⟨k,und_int (hE.tab t2 hok2) hu2⟩,k',l,e1,hc.1,hc.2.2,?_,by simp,?_⟩,zeroCells_of hpv l.toNat⟩
  ·rw[i3]
   have:=hc.2.1
   simp only[room]at this
   omega
  ·simp
 ·rename_i e2 hu2
  split at h
  ·rename_i e' st g hro
   exact appRows_snd hE hg ho hcal hats h1 hu hek hby hu2 hro h
  ·split at h
   case h_2=>cases h
   rename_i ys rd hse
   refine appY_snd hE hg ho hcal hats h1 hu hek hby h fun tm' hp' Z w σ a ht' hh hs i z hi hz=>?_
   obtain⟨inf,z',d,i1,i2,i3,i4,i5,i6,i7,i8,i9,i10,i11⟩:=tiChk_info (hE.tab et hok)
   rw[hi]at i1
   cases i1
   exact(srcE_snd hse hs.mem hh (evA_op hg hs ht' hyo)).asrc (by rw[i2,hsz]) (und_sl (hE.tab t2 hok2) hu2)
 ·cases h
theorem snd_len (hE:EnvOk P E) (hg:E.gl=gv) {c:Call} (ho:o.op= .call c) (hcal:c.callee= .builtin .len) {t:Nat} (hats:c.argTypes.toList=[t]) {x:AV} (hargs:avs E tm c.args.toList= .cn x .e0)
  (h:lenE (E.ti t) hp x K=some r):Snd P gv o tm hp n K r:=by
 obtain⟨x',h1,rfl⟩:=avs_one hargs
 have h1:=arr1 h1
 have hats:=arr1 hats
 have hxo:x'∈o.op.operands:=by simp[ho,Op.operands,Call.operands,hcal,h1]
 have hrun: ∀(a:Act) (w:World),(execOp a.eval o).run P w=((Builtin.len_ #[t] o.type #[a.eval x']).run P w).andThen fun v w=> .ok (.value v) w:=fun a w=>by
  simp only[execOp,ho,resolve,hcal,invoke,builtin,hats,h1,List.map_toArray,List.map_cons,List.map_nil,Sem.run_bind,Sem.run_pure,Result.andThen_ok]
 unfold lenE at h
 split at h
 ·rename_i hu
  split at h
  case h_2=>cases h
  rename_i s hx
  refine⟨_,h,OpSnd.pure rfl rfl fun tm' hp' Z w σ a ht hh hs=>?_⟩
  have hv:VR Z w σ (evA E tm x') [a.eval x']:=evA_op hg hs ht hxo
  rw[hx]at hv
  have hus:=und_str (hE.tab t (ok_of_u hu (by simp))) hu
  refine⟨.int .i64 (ByteArray.size s:Nat),?_,⟨rfl,rfl⟩⟩
  rw[hrun,hv.strp]
  simp[Builtin.len_,run_underlying hus,goInt,Result.andThen]
 ·rename_i et hu
  obtain⟨e,h2,h3,h4,k,h5,h6⟩:=lenS_snd (gv:=gv) h
  refine⟨e,h2,OpSnd.pure h3 h4 fun tm' hp' Z w σ a ht hh hs=>?_⟩
  obtain⟨b,c',e1⟩:=h6 hs.mem hh (evA_op hg hs ht hxo)
  have hus:=und_sl (hE.tab t (ok_of_u hu (by simp))) hu
  refine⟨.int .i64 (k:Nat),?_,by rw[h5];exact⟨rfl,rfl⟩⟩
  rw[hrun,e1]
  simp[Builtin.len_,run_underlying hus,goInt,Result.andThen]
 ·cases h
theorem snd_minmax (hg:E.gl=gv) {c:Call} (ho:o.op= .call c) {mx:Bool} (hcal:c.callee= .builtin (if mx=true then .max else .min)) {k k':IntKind} {i j:Int} (hargs:avs E tm c.args.toList= .cn (.p (.int k) i) (.cn (.p (.int k') j) .e0))
  (h:K { v:=av k (if mx=true then maxI i j else minI i j) }=some r):Snd P gv o tm hp n K r:=by
 obtain⟨x',y',h1,hx,hy⟩:=avs_two hargs
 have h1:=arr2 h1
 refine⟨_,h,OpSnd.pure rfl rfl fun tm' hp' Z w σ a ht hh hs=>?_⟩
 have hvx:VR Z w σ (evA E tm x') [a.eval x']:=evA_op hg hs ht (by simp[ho,Op.operands,Call.operands,hcal,h1])
 have hvy:VR Z w σ (evA E tm y') [a.eval y']:=evA_op hg hs ht (by simp[ho,Op.operands,Call.operands,hcal,h1])
 rw[hx]at hvx
 rw[hy]at hvy
 have e1:=hvx.intp
 have e2:=hvy.intp
 cases mx
 ·refine⟨.int k (minI i j),?_,⟨rfl,rfl⟩⟩
  simp only[Bool.false_eq_true,if_false]at hcal
  simp only[execOp,ho,resolve,hcal,invoke,builtin,h1,List.map_toArray,List.map_cons,List.map_nil,Sem.run_bind,Sem.run_pure,Result.andThen_ok,e1,e2,Builtin.min_]
  simp[Builtin.min2,minI]
 ·refine⟨.int k (maxI i j),?_,⟨rfl,rfl⟩⟩
  simp only[if_true]at hcal
  simp only[execOp,ho,resolve,hcal,invoke,builtin,h1,List.map_toArray,List.map_cons,List.map_nil,Sem.run_bind,Sem.run_pure,Result.andThen_ok,e1,e2,Builtin.max_]
  simp[Builtin.max2,maxI]
end
section
variable {P:Program} {E:Env} {gv:Nat→AV} {Z Z':Nat→Prop} {w w':World} {σ σ':Nat→Sh} {hp hp':Nat→Ob}
theorem MR.write (m:MR gv Z w σ hp) {h b:Nat} (hbl:blks (hp h) (σ h) b) (ds:List Nat) (hds: ∀g∈ds,hp g≠ .dead∧g≠h) (hw: ∀b',b'≠b→w'.heap[b']?=w.heap[b']?) (hsz:w'.heap.size=w.heap.size) (hos:w'.os=w.os) (htape:w'.tape=w.tape) (hout:w'.output=w.output)
  {s':Sh} {ob':Ob} (hs':s'≠ .un) (hsl:Sle s' (σ h)) (hor: ∀σ',(∀g,Sle (σ' g) (σ g))→OR Z w' σ' ob' s') (hsub: ∀b,blks ob' s' b→blks (hp h) (σ h) b∨ ∃g∈ds,blks (hp g) (σ g) b):
  ∃σ',MR gv Z w' σ' (upd (wrs hp (ds.map fun g=>(g, .dead))) h ob')∧Ext Z w σ hp Z w' σ' (upd (wrs hp (ds.map fun g=>(g, .dead))) h ob')∧(∀g,Sle (σ' g) (σ g))∧(∀g,σ' g= .un↔σ g= .un)∧Kept Z w Z w':=by
 have hu:σ h≠ .un:=fun e=>by
  rw[m.un h e]at hbl
  cases hs:σ h<;>rw[hs]at hbl<;>exact hbl.elim
 have hnd:h∉ds:=fun hm=>(hds h hm).2 rfl
 have hsle: ∀g,Sle (upd (fun g=>if g∈ds then Sh.no else σ g) h s' g) (σ g):=fun g=>by
  by_cases hh:g=h
  ·subst hh
   rw[upd_same]
   exact hsl
  ·rw[upd_ne _ _ hh]
   by_cases hd:g∈ds
   ·simp only[if_pos hd]
    exact .dead _ fun e=>(hds g hd).1 (m.un g e)
   ·simp only[if_neg hd]
    exact .same _
 have hst:=MR.step (σ':=upd (fun g=>if g∈ds then Sh.no else σ g) h s') (hp':=upd (wrs hp (ds.map fun g=>(g, .dead))) h ob') (Z':=Z) (w':=w') m (fun g=>g=h∨g∈ds) (fun g k=>(g∈ds∧k=h)∨(g∉ds∧k=g)) (fun _ _=>False) hos htape hout (by omega)
  (fun b' _ ho=>hw b' fun e=>ho ⟨h,by rw[e];exact hbl⟩) (fun _ h=>h) (fun b hb=> .inl hb) (fun b hb=>by have:=m.zlt b hb;omega) hsle
  (fun g hg=>by
   have h1:g≠h:=fun e=>hg (.inl e)
   have h2:g∉ds:=fun e=>hg (.inr e)
   refine⟨by rw[upd_ne _ _ h1,wrs_dead,if_neg h2],by rw[upd_ne _ _ h1];simp only[if_neg h2],fun b' hb'=>⟨hw b' fun e=>h1 (m.sep g h b (e▸hb') hbl),(m.olt ⟨g,hb'⟩).2⟩⟩)
  (fun g hg=>by
   by_cases h1:g=h
   ·subst h1
    rw[upd_same,upd_same]
    refine⟨fun _=>hor _ hsle,fun e=>absurd e hs',fun b' hb'=> .inl ?_⟩
    rcases hsub b' hb' with hx|⟨k,hk,hx⟩
    ·exact⟨g, .inr ⟨hnd,rfl⟩,hx⟩
    ·exact⟨k, .inl ⟨hk,rfl⟩,hx⟩
   ·have h2:g∈ds:=hg.resolve_left h1
    rw[upd_ne _ _ h1,upd_ne _ _ h1,wrs_dead,if_pos h2]
    simp only[if_pos h2]
    exact⟨fun _=>(by simp[OR]),fun e=>(by cases e),fun b hb=>hb.elim⟩)
  (fun g hg=> .inr ⟨fun e=>hg (.inr e),rfl⟩)
  (fun g h h' e1 e2=>by
   rcases e1 with ⟨a1,a2⟩|⟨a1,a2⟩<;>rcases e2 with ⟨b1,b2⟩|⟨b1,b2⟩
   ·exact a2.trans b2.symm
   ·exact absurd a1 b1
   ·exact absurd b1 a1
   ·exact a2.trans b2.symm)
  (fun _ _ h=>h.elim) (fun _ _ _ h=>h.elim)
 refine⟨_,hst.1,hst.2,hsle,fun g=>?_,⟨fun _ h=>h,fun b' hb'=>hw b' fun e=>(m.olt ⟨h,hbl⟩).2 (e▸hb')⟩⟩
 by_cases hh:g=h
 ·subst hh
  rw[upd_same]
  exact⟨fun e=>absurd e hs',fun e=>absurd e hu⟩
 ·rw[upd_ne _ _ hh]
  by_cases hd:g∈ds
  ·simp only[if_pos hd]
   exact⟨fun e=>(by cases e),fun e=>absurd (m.un g e) (hds g hd).1⟩
  ·simp only[if_neg hd]
theorem run_storeAt (hE:EnvOk P E) {t:Nat} (ht:(E.ti t).ok=true) {b q:Nat} {x:Value} {cur:Array Value} {el:TypeId} (hsz:x.cells.size=(E.ti t).size) (hg:w.heap[b]?=some (.cells cur el (0,0))) (hfit:q+x.cells.size≤cur.size) (h1: ∀v∈x.cells.toList,v.oneCell'=true):
  (Instr.storeAt t (.pointer (some ⟨b,q,none⟩)) x).run P w= .ok () (w.setRow b (cur.toList.take q++x.cells.toList++cur.toList.drop (q+x.cells.size)).toArray):=by
 have hs:=run_size (w:=w) (hE.tab t ht)
 have hst:=run_storeCells_at P b q el x.cells.toList 0 cur w hg (by simpa using hfit) h1
 simp only[Nat.add_zero,Array.length_toList]at hst
 simp[Instr.storeAt,Instr.sureAddr,storeVar,hs,hsz,hst]
end
section
variable {P:Program} {E:Env} {gv:Nat→AV} {hp:Nat→Ob} {o:Oper} {tm:Nat→AV} {n:Nat} {K:Eff→Option FRes} {r:FRes}
theorem wrs_upd_F (hp hp0:Nat→Ob) {h:Nat} (ob:Ob) {fs:List Nat} (hn:h∉fs):wrs (upd hp0 h ob) (fs.map (toF hp))=upd (wrs hp0 (fs.map (toF hp))) h ob:=by
 funext g
 rw[wrs_F]
 by_cases hg:g=h
 ·subst hg
  rw[if_neg hn,upd_same,upd_same]
 ·rw[upd_ne _ _ hg,upd_ne _ _ hg,wrs_F]
theorem wrs_upd_dead (hp0:Nat→Ob) {h:Nat} (ob:Ob) {ds:List Nat} (hn:h∉ds):wrs (upd hp0 h ob) (ds.map fun g=>(g, .dead))=upd (wrs hp0 (ds.map fun g=>(g, .dead))) h ob:=by
 funext g
 rw[wrs_dead]
 by_cases hg:g=h
 ·subst hg
  rw[if_neg hn,upd_same,upd_same]
 ·rw[upd_ne _ _ hg,upd_ne _ _ hg,wrs_dead]
theorem OpSnd.store {e:Eff} {h:Nat} {ob':Ob} {fs ds:List Nat} (hfd:(ds=[]∧e.wr=(h,ob')::fs.map (toF hp))∨(fs=[]∧e.wr=(h,ob')::ds.map fun g=>(g, .dead))) (hv:e.v= .any) (hrd: ∀g∈fs++ds,g∈e.rd) (hfs:h∉fs) (hds: ∀g∈ds,hp g≠ .dead∧g≠h) (hnw:e.nw=[])
  (H: ∀(tm':Nat→AV) (hp':Nat→Ob) (Z:Nat→Prop) (w:World) (σ:Nat→Sh) (a:Act),(∀t∈opT o,tm' t=tm t)→(∀h∈e.rd,hp' h=hp h)→SR gv Z w σ tm' hp' a→
   (∀g∈fs,hp' g≠ .dead)∧ ∃w' b s',(execOp a.eval o).run P w= .ok .skip w'∧blks (hp' h) (σ h) b∧(∀b',b'≠b→w'.heap[b']?=w.heap[b']?)∧w'.heap.size=w.heap.size∧w'.os=w.os∧w'.tape=w.tape∧w'.output=w.output∧s'≠ .un∧Sle s' (σ h)∧
    (∀b,blks ob' s' b→blks (hp' h) (σ h) b∨ ∃g∈ds,blks (hp' g) (σ g) b)∧
    (∀Z',Z'=ZF Z σ hp' fs→Kept Z w Z' w'→(∀b,blks (hp' h) (σ h) b→ ¬Z' b)→ ∀σ',(∀g,Sle (σ' g) (σ g))→OR Z' w' σ' ob' s')):OpSnd P gv o tm hp n e:=by
 intro tm' hp' Z w σ a h1 h2 _ h4 h5 h6 K Q hK
 obtain⟨hl,w',b,s',hr,hbl,hw,hsz,hos,htape,hout,hs',hsl,hsub,hor⟩:=H tm' hp' Z w σ a h1 h2 h5
 have hds': ∀g∈ds,hp' g≠ .dead∧g≠h:=fun g hg=>⟨by rw[h2 g (hrd g (by simp[hg]))];exact(hds g hg).1,(hds g hg).2⟩
 obtain⟨σ1,m1,x1,s1,un1,e1,_⟩:=h5.mem.frz fs hl
 have hph:wrs hp' (fs.map (toF hp')) h=hp' h:=by rw[wrs_F,if_neg hfs]
 have hσh:σ1 h=σ h:=e1 h hfs
 have hbl1:blks (wrs hp' (fs.map (toF hp')) h) (σ1 h) b:=by rw[hph,hσh];exact hbl
 have hdf: ∀g∈ds,wrs hp' (fs.map (toF hp')) g=hp' g∧σ1 g=σ g:=fun g hg=>by
  rcases hfd with ⟨e,_⟩|⟨e,_⟩
  ·rw[e]at hg;cases hg
  ·subst e
   exact⟨rfl,e1 g (by simp)⟩
 have hzn: ∀b,blks (hp' h) (σ h) b→ ¬ZF Z σ hp' fs b:=fun b hb hz=>by
  rw[←hph, ←hσh]at hb
  exact(m1.olt ⟨h,hb⟩).2 hz
 have hk:Kept Z w (ZF Z σ hp' fs) w':=⟨fun b hb=> .inl hb,fun b' hb'=>hw b' fun e=>(h5.mem.olt ⟨h,hbl⟩).2 (e▸hb')⟩
 obtain⟨σ2,m2,x2,s2,un2,k2⟩:=m1.write hbl1 ds (fun g hg=>⟨by rw[(hdf g hg).1];exact(hds' g hg).1,(hds g hg).2⟩) hw hsz hos htape hout hs' (by rw[hσh];exact hsl)
  (fun σ' hs=>hor _ rfl hk hzn σ' fun g=>(hs g).trans (s1 g)) (fun b hb=>by
   rw[hph,hσh]
   rcases hsub b hb with hx|⟨g,hg,hx⟩
   ·exact .inl hx
   ·exact .inr ⟨g,hg,by rw[(hdf g hg).1,(hdf g hg).2];exact hx⟩)
 have hsle: ∀g,Sle (σ2 g) (σ g):=fun g=>(s2 g).trans (s1 g)
 have hwr:wrs hp' e.wr=upd (wrs (wrs hp' (fs.map (toF hp'))) (ds.map fun g=>(g, .dead))) h ob':=by
  rcases hfd with ⟨e2,e3⟩|⟨e2,e3⟩
  ·subst e2
   rw[e3,toF_congr fun g hg=>h2 g (hrd g (by simp[hg]))]
   show wrs (upd hp' h ob') (fs.map (toF hp'))=_
   rw[wrs_upd_F hp' hp' ob' hfs]
   rfl
  ·subst e2
   rw[e3]
   show wrs (upd hp' h ob') (ds.map fun g=>(g, .dead))=_
   rw[wrs_upd_dead hp' ob' fun hm=>(hds h hm).2 rfl]
   rfl
 unfold Oper.wp
 rw[hr]
 show K (a.put o.dst undef) w'
 rw[hnw,hwr,hv]at hK
 refine hK _ w' _ σ2 (h5.put m2 hk hsle ⟨undef,rfl⟩ h6) (x1.trans x2) hsle ⟨fun g hg e=>hg ((un1 g).1 ((un2 g).1 e)),fun g hg=>by simp[news]at hg,fun g hu _=>(un2 g).2 ((un1 g).2 hu)⟩ (size_put _ _ _) (defers_put _ _ _)
theorem RowAt.set {Z Z':Nat→Prop} {w w':World} {b s i:Nat} {e:Ty} {xs:List e.den} {x:e.den} {l:List Value} (h:RowAt Z w b s e xs) (k:Kept Z w Z' w') (hx:PV Z' w' e x l) (hc: ∀j v,l[j]?=some v→w'.cell? ⟨b,s+i*e.sz+j,none⟩=some v)
  (ho: ∀q, ¬(s+i*e.sz≤q∧q<s+(i+1)*e.sz)→w'.cell? ⟨b,q,none⟩=w.cell? ⟨b,q,none⟩):RowAt Z' w' b s e (xs.set i x):=fun j y hy=>by
 by_cases hj:i=j
 ·subst hj
  rw[List.getElem?_set_self']at hy
  obtain⟨_,_,rfl⟩:=Option.map_eq_some_iff.1 hy
  exact⟨l,hx,fun q v hq=>hc q v hq⟩
 ·rw[List.getElem?_set_ne hj]at hy
  obtain⟨l',h1,h2⟩:=h j y hy
  refine⟨l',h1.kept k,fun q v hq=>?_⟩
  have hql:=(List.getElem?_eq_some_iff.1 hq).1
  rw[PV.length e h1]at hql
  rw[ho,h2 q v hq]
  intro hh
  rcases Nat.lt_or_ge j i with hlt|hge
  ·have:(j+1)*e.sz≤i*e.sz:=Nat.mul_le_mul_right _ hlt
   rw[Nat.add_mul,Nat.one_mul]at this
   omega
  ·have:(i+1)*e.sz≤j*e.sz:=Nat.mul_le_mul_right _ (by omega)
   omega
theorem elem_write {Z Z':Nat→Prop} {w w':World} {σ:Nat→Sh} {b s i of:Nat} {e:Ty} {xs:List e.den} {x':e.den} {v':AV} {u:Value} {cur:Array Value} {el:TypeId} (hrow:RowAt Z w b s e xs) (hi:i<xs.length) (hg:w.heap[b]?=some (.cells cur el (0,0)))
  (hlen:s+xs.length*e.sz≤cur.size) (kz:Kept Z w Z' w) (hnz: ¬Z' b) (hv:VR Z' w σ v' [u]) (hck:cellsOk v'=true) (hfit:of+v'.cells.len≤e.sz) (hof:ofC e ((toC e (rdE e xs i)).put of v'.cells)=some (x', .e0))
  (hw':w'=w.setRow b (cur.toList.take (s+i*e.sz+of)++u.cells.toList++cur.toList.drop (s+i*e.sz+of+u.cells.size)).toArray):
  s+i*e.sz+of+u.cells.size≤cur.size∧(∀v∈u.cells.toList,v.oneCell'=true)∧RowAt Z' w' b s e (xs.set i x')∧(∀k,Blk w b k→Blk w' b k):=by
 obtain⟨l,h1,h2⟩:=hrow i _ (rdE_of hi)
 have hl:=PV.length e h1
 obtain⟨c1,c2⟩:=cells_VR hv hck
 have hcl:=c1.len c2
 rw[Array.length_toList]at hcl
 have h1':PV Z' w e (rdE e xs i) l:=h1.kept kz
 obtain⟨p1,p2,p3⟩:=put_VR (off:=of) (PV.toC (σ:=σ) e h1') (isL_toC e _) c1 c2 (by rw[(PV.toC (σ:=σ) e h1').len (isL_toC e _),hl];exact hfit)
 obtain⟨l1,l2,hsp,hp1,hp2,_⟩:=ofC_PV e hof p1 p2
 cases hp2
 rw[List.append_nil]at hsp
 have hold: ∀j,w.cell? ⟨b,j,none⟩=cur[j]?:=fun j=>by simp[World.cell?,hg]
 have hub:s+i*e.sz+e.sz≤cur.size:=by
  have:(i+1)*e.sz≤xs.length*e.sz:=Nat.mul_le_mul_right _ hi
  rw[Nat.add_mul,Nat.one_mul]at this
  omega
 have hq:s+i*e.sz+of+u.cells.size≤cur.size:=by omega
 have hne: ∀b',b'≠b→w'.heap[b']?=w.heap[b']?:=fun b' hb'=>by rw[hw'];exact setRow_other w b b' _ hb'
 have hkk:Kept Z' w Z' w':=⟨fun _ h=>h,fun b' hb'=>hne b' fun e=>hnz (e▸hb')⟩
 have hcell: ∀j,w'.cell? ⟨b,j,none⟩=if s+i*e.sz+of≤j∧j<s+i*e.sz+of+u.cells.size then u.cells.toList[j-(s+i*e.sz+of)]? else cur[j]?:=fun j=>by
  rw[hw',setRow_cell hg,List.getElem?_toArray]
  have:=splice_get cur.toList u.cells.toList (s+i*e.sz+of) j (by simpa using hq)
  rw[Array.length_toList]at this
  rw[this]
  simp
 have hone: ∀v∈u.cells.toList,v.oneCell'=true:=fun v hv=>PV.one e hp1 v (by rw[←hsp];simp[hv])
 refine⟨hq,hone,RowAt.set hrow (kz.trans hkk) (hp1.kept hkk) (fun j v hj=>?_) (fun q hqn=>?_),fun k hk=>?_⟩
 ·rw[←hsp]at hj
  rw[splice_get l u.cells.toList of j (by rw[Array.length_toList];omega),Array.length_toList]at hj
  rw[hcell]
  split at hj
  ·rename_i hc
   rw[if_pos (by omega), ←hj]
   congr 1
   omega
  ·rename_i hc
   rw[if_neg (by omega), ←hold]
   exact h2 j v hj
 ·rw[hcell,hold,if_neg]
  intro hc
  apply hqn
  rw[Nat.add_mul,Nat.one_mul]
  omega
 ·obtain⟨c,el',e1,e2⟩:=hk
  rw[hg]at e1
  cases e1
  refine⟨_,el,by rw[hw'];exact setRow_heap w b cur _ el (0,0) hg,?_⟩
  rw[List.size_toArray]
  simp only[List.length_append,List.length_take,List.length_drop,Array.length_toList]
  omega
theorem setRow_facts (w:World) (b:Nat) (cs:Array Value):(∀b',b'≠b→(w.setRow b cs).heap[b']?=w.heap[b']?)∧(w.setRow b cs).heap.size=w.heap.size∧(w.setRow b cs).os=w.os∧(w.setRow b cs).tape=w.tape∧(w.setRow b cs).output=w.output:=
 ⟨fun b' hb'=>setRow_other w b b' cs hb',size_setRow w b cs,rfl,rfl,rfl⟩
theorem run_store_op {t:Nat} {x y:Operand} (ho:o.op= .store t x y) (a:Act) (w:World):(execOp a.eval o).run P w=((Instr.storeAt t (a.eval x) (a.eval y)).run P w).andThen fun _ w=> .ok .skip w:=by
 simp only[execOp,ho,Sem.run_bind,Sem.run_pure]
theorem store_B (hE:EnvOk P E) (hg:E.gl=gv) {t:Nat} {x y:Operand} (ho:o.op= .store t x y) (ht:(E.ti t).ok=true) {g i of:Nat} (hx:evA E tm x= .ptr g i of) {cs:AV} (hgo:hp g= .B cs)
  (hc:i=0∧of+(E.ti t).size≤cs.len∧(evA E tm y).cells.len=(E.ti t).size∧oneAll (evA E tm y).cells=true) {e:Eff} (he:e={ v:= .any,rd:=[g],wr:=[(g, .B (cs.put of (evA E tm y).cells))] }):OpSnd P gv o tm hp n e:=by
 subst he
 obtain⟨rfl,hc1,hc2,hc3⟩:=hc
 refine OpSnd.store (fs:=[]) (ds:=[]) (.inl ⟨rfl,rfl⟩) rfl (by simp) (by simp) (by simp) rfl fun tm' hp' Z w σ a ht' hh hs=>⟨by simp,?_⟩
 have hxv:VR Z w σ (evA E tm x) [a.eval x]:=evA_op hg hs ht' (by simp[ho,Op.operands])
 have hyv:VR Z w σ (evA E tm y) [a.eval y]:=evA_op hg hs ht' (by simp[ho,Op.operands])
 have hgo':hp' g= .B cs:=(hh g (by simp)).trans hgo
 obtain⟨b,c,el,h1,h2,h3,h4,h5⟩:=hs.mem.B hgo'
 rw[hx]at hxv
 obtain⟨v0,e1,hv⟩:=hxv
 simp only[List.cons.injEq,and_true]at e1
 rw[←e1,h1]at hv
 obtain⟨_,e2⟩:=hv
 have hck:cellsOk (evA E tm y)=true:=by
  cases hyy:evA E tm y<;>rw[hyy]at hc3<;>first|rfl|(simpa[AV.cells,oneAll,cellsOk]using hc3)
 obtain⟨d1,d2⟩:=cells_VR hyv hck
 have hlc:=h4.len h5
 have hld:=d1.len d2
 rw[Array.length_toList]at hlc hld
 obtain⟨p1,p2,p3⟩:=put_VR (off:=of) h4 h5 d1 d2 (by omega)
 have hr:=run_storeAt (P:=P) (w:=w) (q:=of) (x:=a.eval y) hE ht (by omega) h2 (by omega) (oneAll_VR d1 hc3)
 obtain⟨f1,f2,f3,f4,f5⟩:=setRow_facts w b (c.toList.take of++(a.eval y).cells.toList++c.toList.drop (of+(a.eval y).cells.size)).toArray
 refine⟨_,b, .B b cs.len,by rw[run_store_op ho,e2,hr];rfl,by rw[hgo',h1];exact rfl,f1,f2,f3,f4,f5,by simp,by rw[h1];exact .same _,fun b' hb'=> .inl (by rw[hgo',h1];exact hb'),fun Z' hZ' hk hnz σ' hsl=>?_⟩
 refine⟨b,_,el,by rw[p3],setRow_heap w b c _ el (0,0) h2,hnz b (by rw[hgo',h1];exact rfl),?_,p2⟩
 rw[Array.length_toList]at p1
 exact p1.mono hk fun h _=>hsl h
theorem store_L (hE:EnvOk P E) (hg:E.gl=gv) {t:Nat} {x y:Operand} (ho:o.op= .store t x y) (ht:(E.ti t).ok=true) {g i of:Nat} (hx:evA E tm x= .ptr g i of) {e:Ty} {xs:List e.den} (hgo:hp g= .L e xs) {v':AV} {fs:List Nat} (hfz:frz hp (evA E tm y)=some (v',fs)) (hnf:fs.contains g=false) (hck:cellsOk v'=true)
  (h:(match(E.ti t).ab with
    | some (_,m)=>if i=0∧of=0∧v'.cells.len=(E.ti t).size then match ofCs e m v'.cells with
     | some ys=>if ys.length=xs.length then K { v:= .any,rd:=g::fs,wr:=(g, .L e ys)::fs.map (toF hp) } else none
     | none=>none
     else none
    | none=>if v'.cells.len=(E.ti t).size∧of+(E.ti t).size≤e.sz then match ofC e ((toC e (rdE e xs i)).put of v'.cells)with
     | some (x, .e0)=>K { v:= .any,rd:=g::fs,wr:=(g, .L e (xs.set i x))::fs.map (toF hp) }
     | _=>none
     else none)=some r):Snd P gv o tm hp n K r:=by
 have hgfs:g∉fs:=fun hm=>by
  have:=List.contains_iff_mem.2 hm
  rw[hnf]at this
  cases this
 have common: ∀(ys:List e.den),ys.length=xs.length→(∀{hp':Nat→Ob} {Z Z':Nat→Prop} {w:World} {σ:Nat→Sh} {u:Value} {b s m:Nat} {cur:Array Value} {el:TypeId},RowAt Z w b s e xs→w.heap[b]?=some (.cells cur el (0,0))→s+xs.length*e.sz≤cur.size→Kept Z w Z' w→ ¬Z' b→
   VR Z' w σ v' [u]→i<xs.length→m=s+i*e.sz+of→ ∀w',w'=w.setRow b (cur.toList.take m++u.cells.toList++cur.toList.drop (m+u.cells.size)).toArray→m+u.cells.size≤cur.size∧(∀v∈u.cells.toList,v.oneCell'=true)∧u.cells.size=(E.ti t).size∧RowAt Z' w' b s e ys∧(∀k,Blk w b k→Blk w' b k))→
   OpSnd P gv o tm hp n { v:= .any,rd:=g::fs,wr:=(g, .L e ys)::fs.map (toF hp) }:=by
  intro ys hyl hyw
  refine OpSnd.store (fs:=fs) (ds:=[]) (.inl ⟨rfl,rfl⟩) rfl (by simp;exact fun _ h=> .inr h) hgfs (by simp) rfl fun tm' hp' Z w σ a ht' hh hs=>?_
  have hxv:VR Z w σ (evA E tm x) [a.eval x]:=evA_op hg hs ht' (by simp[ho,Op.operands])
  have hyv:VR Z w σ (evA E tm y) [a.eval y]:=evA_op hg hs ht' (by simp[ho,Op.operands])
  have hgo':hp' g= .L e xs:=(hh g (by simp)).trans hgo
  obtain⟨p,h1,h2⟩:=hs.mem.L hgo'
  obtain⟨k1,k2,k3,_⟩:=frz_VR (σ':=σ) hs.mem (ZF_kept hs.mem fs) hfz (fun h hm=>hh h (by simp[hm])) (fun h hm b hb=> .inr ⟨h,hm,hb⟩) hyv
  refine⟨k2,?_⟩
  rw[hx]at hxv
  obtain⟨v0,e1,hv⟩:=hxv
  simp only[List.cons.injEq,and_true]at e1
  rw[←e1,h1]at hv
  obtain⟨b,s,m,rfl,e2,hi⟩:=hv
  obtain⟨o1,⟨cur,el,o2,o3⟩,o4,o5⟩:=h2
  have hcl:s+xs.length*e.sz≤cur.size:=by
   have:xs.length*e.sz≤m*e.sz:=Nat.mul_le_mul_right _ o1
   omega
  have hnz: ¬ZF Z σ hp' fs b:=fun hz=>by
   rcases hz with hz|⟨k,hk,hz⟩
   ·exact o4 hz
   ·exact hgfs (hs.mem.sep g k b (by rw[hgo',h1];exact rfl) hz▸hk)
  obtain⟨q1,q2,q3,q4,q5⟩:=hyw (Z':=ZF Z σ hp' fs) (hp':=hp') o5 o2 hcl (ZF_kept hs.mem fs) hnz k1 hi rfl _ rfl
  have hr:=run_storeAt (P:=P) (w:=w) (q:=s+i*e.sz+of) (x:=a.eval y) hE ht q3 o2 q1 q2
  obtain⟨f1,f2,f3,f4,f5⟩:=setRow_facts w b (cur.toList.take (s+i*e.sz+of)++(a.eval y).cells.toList++cur.toList.drop (s+i*e.sz+of+(a.eval y).cells.size)).toArray
  refine⟨_,b, .S e.sz xs.length (some (b,s,m)) none,by rw[run_store_op ho,e2,hr];rfl,by rw[hgo',h1];exact rfl,f1,f2,f3,f4,f5,by simp,by rw[h1];exact .same _,fun b' hb'=> .inl (by rw[hgo',h1];exact hb'),fun Z' hZ' hk hnz' σ' hsl=>?_⟩
  subst hZ'
  exact⟨some (b,s,m),by rw[hyl],by rw[hyl];exact o1,q5 _ ⟨cur,el,o2,o3⟩,hnz,q4⟩
 split at h
 ·rename_i e0 m hab
  split at h
  case isFalse=>cases h
  rename_i hc
  obtain⟨rfl,rfl,hc3⟩:=hc
  split at h
  case h_2=>cases h
  rename_i ys hys
  split at h
  case isFalse=>cases h
  rename_i hyl
  refine⟨_,h,common ys hyl ?_⟩
  intro hp' Z Z' w σ u b s m0 cur el hrow hgw hcl kz hnz hv hi hm w' hw'
  obtain⟨c1,c2⟩:=cells_VR hv hck
  have hcl2:=c1.len c2
  rw[Array.length_toList]at hcl2
  obtain⟨a1,a2,a3⟩:=ofCs_PV e m hys c1 c2
  rw[Array.length_toList]at a2
  have hm0:m0=s:=by simpa using hm
  subst hm0
  have hlen:u.cells.size=xs.length*e.sz:=by rw[a2, ←a1,hyl]
  have hne: ∀b',b'≠b→w'.heap[b']?=w.heap[b']?:=fun b' hb'=>by rw[hw'];exact setRow_other w b b' _ hb'
  have hkk:Kept Z' w Z' w':=⟨fun _ h=>h,fun b' hb'=>hne b' fun e=>hnz (e▸hb')⟩
  have hcell: ∀j,w'.cell? ⟨b,j,none⟩=if m0≤j∧j<m0+u.cells.size then u.cells.toList[j-m0]? else cur[j]?:=fun j=>by
   rw[hw',setRow_cell hgw,List.getElem?_toArray]
   have:=splice_get cur.toList u.cells.toList m0 j (by simp only[Array.length_toList];omega)
   rw[Array.length_toList]at this
   rw[this]
   simp
  refine⟨by omega,fun v hvm=>?_,by omega,fun q y hy=>?_,fun k hk=>?_⟩
  ·obtain⟨j,hj,rfl⟩:=List.mem_iff_getElem.1 hvm
   rw[Array.length_toList]at hj
   have hpos:0<e.sz:=by
    rcases Nat.eq_zero_or_pos e.sz with h0|h0
    ·rw[h0]at hlen;omega
    ·exact h0
   have hjd:j/e.sz<ys.length:=by
    rw[hyl]
    exact Nat.div_lt_of_lt_mul (by rw[Nat.mul_comm];omega)
   obtain⟨l1,b1,b2⟩:=a3 (j/e.sz) ys[j/e.sz] (by simp[hjd])
   have hl1:=PV.length e b1
   have hmod:j%e.sz<l1.length:=by rw[hl1];exact Nat.mod_lt _ hpos
   have b3:=b2 (j%e.sz) (l1[j%e.sz]) (by simp[hmod])
   have e3:j/e.sz*e.sz+j%e.sz=j:=Nat.div_add_mod' j e.sz
   rw[e3]at b3
   have:=PV.one e b1 l1[j%e.sz] (by simp)
   have e4:u.cells.toList[j]'(by simpa using hj)=l1[j%e.sz]:=by
    have h5:=List.getElem?_eq_some_iff.1 b3
    exact h5.2
   rw[e4]
   exact this
  ·obtain⟨l1,b1,b2⟩:=a3 q y hy
   refine⟨l1,b1.kept hkk,fun j v hj=>?_⟩
   have b3:=b2 j v hj
   have:=(List.getElem?_eq_some_iff.1 b3).1
   rw[Array.length_toList]at this
   rw[hcell,if_pos (by omega), ←b3]
   congr 1
   omega
  ·obtain⟨c,el',e1,e2⟩:=hk
   rw[hgw]at e1
   cases e1
   refine⟨_,el,by rw[hw'];exact setRow_heap w b cur _ el (0,0) hgw,?_⟩
   rw[List.size_toArray]
   simp only[List.length_append,List.length_take,List.length_drop,Array.length_toList]
   omega
 ·split at h
  case isFalse=>cases h
  rename_i hc
  split at h
  case h_2=>cases h
  rename_i x' hof
  refine⟨_,h,common (xs.set i x') (List.length_set ..) ?_⟩
  intro hp' Z Z' w σ u b s m0 cur el hrow hgw hcl kz hnz hv hi hm w' hw'
  subst hm
  obtain⟨r1,r2,r3,r4⟩:=elem_write hrow hi hgw hcl kz hnz hv hck (by omega) hof hw'
  obtain⟨c1,c2⟩:=cells_VR hv hck
  have hcl2:=c1.len c2
  rw[Array.length_toList]at hcl2
  exact⟨r1,r2,by omega,r3,r4⟩
end
end Go.Proofs.YtkeiedikiiccpaaGreatDoor.Am
