/- A part of the proof of ScrubMade: lemmas. No conditions beyond those of each lemma. -/
import Derived.Test.YtkeiedikiiccpaaGreatDoorK2
import Derived.Laws.StructEq
set_option linter.all false
namespace Go.Proofs.YtkeiedikiiccpaaGreatDoor.Am
open Go
theorem abChk_info {T:TI} (h:abChk T=true):(T.agg=true∨T.size=1)∧ ∀e m,T.ab=some (e,m)→T.size=m*e.sz∧T.agg=true:=by
 unfold abChk at h
 simp only[Bool.and_eq_true,Bool.or_eq_true]at h
 refine⟨h.1.imp id Nat.eq_of_beq_eq_true,fun e m he=>?_⟩
 have h2:=h.2
 rw[he]at h2
 simp only[Bool.and_eq_true]at h2
 refine⟨Nat.eq_of_beq_eq_true h2.1,?_⟩
 have h3:=h2.2
 unfold TI.agg
 split at h3
 ·rename_i hu
  rw[hu]
 ·cases h3
section
variable {R:Type} {P:Program} {E:Env} {gv:Nat→AV} {hp:Nat→Ob} {Z:Nat→Prop} {w:World} {σ:Nat→Sh}
theorem ti_ab (hE:EnvOk P E) {t:Nat} (ht:(E.ti t).ok=true):((E.ti t).agg=true∨(E.ti t).size=1)∧ ∀e m,(E.ti t).ab=some (e,m)→(E.ti t).size=m*e.sz∧(E.ti t).agg=true:=by
 obtain⟨i,z,d,h1,h2,h3,h4,h5,h6,h7,h8,h9,_⟩:=tiChk_info (hE.tab t ht)
 exact abChk_info h9
theorem take_eq_extract (c:Array Value) (off n:Nat) (l:List Value) (hl:n≤l.length) (hc: ∀j v,l[j]?=some v→c[off+j]?=some v):(c.extract off (off+n)).toList=l.take n:=by
 apply List.ext_getElem?
 intro j
 rw[List.getElem?_take]
 by_cases hj:j<n
 ·have h1:l[j]?=some l[j]:=by simp[show j<l.length by omega]
  have h2:=hc j _ h1
  rw[if_pos hj,h1,Array.getElem?_toList,Array.getElem?_extract,if_pos]
  ·exact h2
  ·have:=(Array.getElem?_eq_some_iff.1 h2).1
   omega
 ·rw[if_neg hj,Array.getElem?_toList,Array.getElem?_extract,if_neg]
  omega
theorem run_part (hE:EnvOk P E) {t:Nat} (ht:(E.ti t).ok=true) {c:Array Value} {off:Nat} {l:List Value} {cs:AV} (hv:VR Z w σ cs l) (il:isL cs=true)
  (hl:(E.ti t).size≤l.length) (hc: ∀j v,l[j]?=some v→c[off+j]?=some v): ∃u,(part t c off).run P w= .ok u w∧VR Z w σ (val (E.ti t) cs) [u]:=by
 have ha:=run_agg (w:=w) (hE.tab t ht)
 have hz:=run_size (w:=w) (hE.tab t ht)
 unfold val
 by_cases hg:(E.ti t).agg=true
 ·refine⟨.agg (c.extract off (off+(E.ti t).size)),by simp[part,ha,hz,hg],?_⟩
  rw[if_pos hg]
  refine⟨_,rfl,?_,isL_take _ _⟩
  rw[take_eq_extract c off _ l hl hc]
  exact hv.take il
 ·have h1:=(ti_ab hE ht).1.resolve_left hg
  obtain⟨v,h2,h3⟩:=hv.nth (i:=0) (by rw[hv.len il];omega)
  refine⟨v,?_,by rw[if_neg hg];exact h3⟩
  have h4:=hc 0 v h2
  rw[Nat.add_zero]at h4
  simp[part,ha,hg,h4]
theorem run_loadVar (hE:EnvOk P E) {t:Nat} (ht:(E.ti t).ok=true) {b q:Nat} {l:List Value} {cs:AV} (hv:VR Z w σ cs l) (il:isL cs=true)
  (hl:(E.ti t).size≤l.length) (hc: ∀j v,l[j]?=some v→w.cell? ⟨b,q+j,none⟩=some v):
  ∃u,(Instr.loadAt t (.pointer (some ⟨b,q,none⟩))).run P w= .ok u w∧VR Z w σ (val (E.ti t) cs) [u]:=by
 have ha:=run_agg (w:=w) (hE.tab t ht)
 have hz:=run_size (w:=w) (hE.tab t ht)
 unfold val
 by_cases hg:(E.ti t).agg=true
 ·have h1:=run_loadCells_list (P:=P) w ⟨b,q,none⟩ (l.take (E.ti t).size) (fun j v hj=>by
   rw[add_spot]
   rw[List.getElem?_take]at hj
   split at hj
   ·exact hc j v hj
   ·cases hj)
  rw[List.length_take,Nat.min_eq_left hl]at h1
  refine⟨.agg (l.take (E.ti t).size).toArray,by simp[Instr.loadAt,Instr.sureAddr,loadVar,ha,hz,hg,h1],?_⟩
  rw[if_pos hg]
  exact⟨_,rfl,by simpa using hv.take il,isL_take _ _⟩
 ·have h1:=(ti_ab hE ht).1.resolve_left hg
  obtain⟨v,h2,h3⟩:=hv.nth (i:=0) (by rw[hv.len il];omega)
  refine⟨v,?_,by rw[if_neg hg];exact h3⟩
  have h4:=hc 0 v h2
  rw[Nat.add_zero]at h4
  simp[Instr.loadAt,Instr.sureAddr,loadVar,ha,hg,run_load,h4]
theorem rdE_of {e:Ty} {xs:List e.den} {i:Nat} (h:i<xs.length):xs[i]?=some (rdE e xs i):=by simp[rdE,h]
theorem cellsOf_VR {b s:Nat} {e:Ty} {xs:List e.den} (hr:RowAt Z w b s e xs) (i:Nat): ∀(m j:Nat),i+j+m≤xs.length→
  ∃l,l.length=m*e.sz∧VR Z w σ (cellsOf e xs i j m) l∧isL (cellsOf e xs i j m)=true∧ ∀q v,l[q]?=some v→w.cell? ⟨b,s+(i+j)*e.sz+q,none⟩=some v
 | 0,_,_=>⟨[],by simp,rfl,rfl,fun q v h=>by simp at h⟩
 | m+1,j,h=>by
  obtain⟨l2,h1,h2,h3,h4⟩:=cellsOf_VR hr i m (j+1) (by omega)
  obtain⟨l1,h5,h6⟩:=hr (i+j) _ (rdE_of (by omega))
  refine⟨l1++l2,by rw[List.length_append,PV.length e h5,h1,Nat.add_mul];omega,VR.app (PV.toC e h5) (isL_toC _ _) h2 h3,isL_app (isL_toC _ _) h3,fun q v hq=>?_⟩
  rw[List.getElem?_append]at hq
  split at hq
  ·exact h6 q v hq
  ·rename_i hlt
   have:=h4 _ v hq
   rw[PV.length e h5]at this hlt
   rw[←this]
   congr 2
   have:i+(j+1)=(i+j)+1:=by omega
   rw[this,Nat.add_mul (i+j) 1]
   omega
theorem loadQ_snd (hE:EnvOk P E) {t:Nat} (ht:(E.ti t).ok=true) {e:Ty} {xs:List e.den} {i o:Nat} {x:Option R} {r:R} (h:loadQ (E.ti t) e xs i o x=some r):x=some r∧
  ∀{Z:Nat→Prop} {w:World} {σ:Nat→Sh} {b s:Nat},RowAt Z w b s e xs→i<xs.length→
   ∃u,(Instr.loadAt t (.pointer (some ⟨b,s+i*e.sz+o,none⟩))).run P w= .ok u w∧VR Z w σ (loadL (E.ti t) e xs i o) [u]:=by
 unfold loadQ at h
 split at h
 ·rename_i e' m hab
  split at h
  case isFalse=>cases h
  rename_i hc
  obtain⟨rfl,rfl⟩:=hc
  split at h
  case isFalse=>cases h
  rename_i hm
  refine⟨h,fun {Z w σ b s} hr hi=>?_⟩
  obtain⟨h1,h2⟩:=(ti_ab hE ht).2 _ _ hab
  obtain⟨l,h3,h4,h5,h6⟩:=cellsOf_VR (σ:=σ) hr i m 0 (by omega)
  obtain⟨u,h7,h8⟩:=run_loadVar (q:=s+i*e'.sz+0) hE ht h4 h5 (by omega) (fun j v hj=>by simpa using h6 j v hj)
  refine⟨u,h7,?_⟩
  unfold loadL
  rw[hab]
  unfold val at h8
  rw[if_pos h2]at h8
  have:(cellsOf e' xs i 0 m).take (E.ti t).size=cellsOf e' xs i 0 m:=by
   have h9:=h4.len h5
   rw[h3, ←h1]at h9
   rw[←h9]
   exact take_len h5 h4
  rw[this]at h8
  exact h8
 ·rename_i hab
  split at h
  case isFalse=>cases h
  rename_i hm
  refine⟨h,fun {Z w σ b s} hr hi=>?_⟩
  obtain⟨l,h1,h2⟩:=hr i _ (rdE_of hi)
  have hl:=PV.length e h1
  obtain⟨h3,h4⟩:=(PV.toC (σ:=σ) e h1).drop (n:=o) (isL_toC _ _)
  obtain⟨u,h7,h8⟩:=run_loadVar (b:=b) (q:=s+i*e.sz+o) hE ht h3 h4 (by rw[List.length_drop];omega) (fun j v hj=>by
   rw[List.getElem?_drop]at hj
   have:=h2 _ v hj
   rw[←this]
   congr 2
   omega)
  refine⟨u,h7,?_⟩
  unfold loadL
  rw[hab]
  exact h8
where
 take_len {Z:Nat→Prop} {w:World} {σ:Nat→Sh}: ∀{cs:AV} {l:List Value},isL cs=true→VR Z w σ cs l→cs.take cs.len=cs
  | .e0,_,_,_=>rfl
  | .cn a b,_,_,h=>by
   obtain⟨v,r,rfl,h1,h2,il⟩:=h
   simp only[AV.len,AV.take]
   rw[take_len il h2]
theorem loadE_snd (hE:EnvOk P E) {t:Nat} {x:AV} {K:Eff→Option R} {r:R} (h:loadE E hp t x K=some r): ∃e,K e=some r∧e.wr=[]∧e.nw=[]∧
  ∀{hp':Nat→Ob} {Z:Nat→Prop} {w:World} {σ:Nat→Sh} {a:Value},MR gv Z w σ hp'→(∀h∈e.rd,hp' h=hp h)→VR Z w σ x [a]→
   ∃u,(Instr.loadAt t a).run P w= .ok u w∧VR Z w σ e.v [u]:=by
 unfold loadE at h
 cases ht:(E.ti t).ok
 ·rw[ht]at h
  cases h
 rw[ht]at h
 simp only[Bool.not_true,cond_false]at h
 split at h
 ·rename_i g i o
  split at h
  ·rename_i cs hg
   split at h
   case isFalse=>cases h
   rename_i hc
   obtain⟨rfl,hc⟩:=hc
   refine⟨_,h,rfl,rfl,fun m hr hx=>?_⟩
   obtain⟨b,c,el,hs,hb,_,hv,il⟩:=m.B (h:=g) (by rw[hr g (by simp)];exact hg)
   obtain⟨v,e1,hv'⟩:=hx
   cases e1
   rw[hs]at hv'
   obtain⟨_,rfl⟩:=hv'
   obtain⟨h1,h2⟩:=hv.drop (n:=o) il
   have hl:=hv.len il
   exact run_loadVar hE ht h1 h2 (by rw[List.length_drop];omega) (fun j v hj=>by
    rw[List.getElem?_drop]at hj
    simpa[World.cell?,hb]using hj)
  ·rename_i e xs hg
   obtain⟨h,hld⟩:=loadQ_snd hE ht h
   refine⟨_,h,rfl,rfl,fun m hr hx=>?_⟩
   obtain⟨p,hs,ho⟩:=m.L (h:=g) (by rw[hr g (by simp)];exact hg)
   obtain⟨v,e1,hv⟩:=hx
   cases e1
   rw[hs]at hv
   obtain⟨b,s,m',rfl,rfl,hj⟩:=hv
   exact hld ho.2.2.2 hj
  ·rename_i e xs hg
   obtain⟨h,hld⟩:=loadQ_snd hE ht h
   refine⟨_,h,rfl,rfl,fun m hr hx=>?_⟩
   obtain⟨p,hs,ho⟩:=m.F (h:=g) (by rw[hr g (by simp)];exact hg)
   obtain⟨v,e1,hv⟩:=hx
   cases e1
   rw[hs]at hv
   obtain⟨b,s,m',rfl,rfl,hj⟩:=hv
   rcases ho with ho|⟨b',s',m'',e1,hz,ho⟩
   ·subst ho
    simp at hj
   ·cases e1
    exact hld ho hj
  ·rename_i e ids st u pd hg
   split at h
   case isFalse=>cases h
   rename_i hc
   obtain⟨rfl,hsz,hag⟩:=hc
   refine⟨_,h,rfl,rfl,fun {hp' Z w σ a} m hr hx=>?_⟩
   obtain⟨p,q,hs,hq,hn⟩:=m.N (h:=g) (by rw[hr g (by simp)];exact hg)
   obtain⟨v,e1,hv⟩:=hx
   cases e1
   rw[hs]at hv
   obtain⟨b,s,m',rfl,rfl,hj⟩:=hv
   obtain⟨b',s',m'',x,e1,hcell,hh⟩:=hn.head i hj
   cases e1
   refine⟨x,?_,x,rfl,?_⟩
   ·have ha:=run_agg (w:=w) (hE.tab t ht)
    simp only[Nat.mul_one,Nat.add_zero]
    simp[Instr.loadAt,Instr.sureAddr,loadVar,ha,hag,run_load,hcell]
   ·rw[hs]
    have hh0:=hh
    obtain⟨a0,c0,rfl,_⟩:=hh0
    refine⟨⟨by omega,rfl⟩,fun _=>?_⟩
    rw[hn.sz]
    exact⟨hh,by simp[ofs,slenN]⟩
  ·cases h
 ·rename_i cs o
  split at h
  case isFalse=>cases h
  rename_i hc
  refine⟨_,h,rfl,rfl,fun m hr hx=>?_⟩
  obtain⟨b,s,c,e1,hz,hcell,hv,il⟩:=hx
  cases e1
  obtain⟨h1,h2⟩:=hv.drop (n:=o) il
  have hl:=hv.len il
  exact run_loadVar hE ht h1 h2 (by rw[List.length_drop];omega) (fun j v hj=>by
   rw[List.getElem?_drop]at hj
   have:=hcell _ v hj
   rw[←this]
   congr 2
   omega)
 ·rename_i e xs i o
  obtain⟨h,hld⟩:=loadQ_snd hE ht h
  refine⟨_,h,rfl,rfl,fun m hr hx=>?_⟩
  obtain⟨b,s,e1,hz,hi,hrow⟩:=hx
  cases e1
  exact hld hrow hi
 ·rename_i g id j o u
  split at h
  ·rename_i e ids st u' pd hg
   split at h
   case isFalse=>cases h
   rename_i hu
   obtain⟨h,hld⟩:=loadQ_snd hE ht h
   refine⟨_,h,rfl,rfl,fun m hr hx=>?_⟩
   obtain⟨p,q,hs,hq,hn⟩:=m.N (h:=g) (by rw[hr g (by simp)];exact hg)
   obtain⟨v,e1,hv⟩:=hx
   cases e1
   rw[hs]at hv
   obtain⟨_,hv⟩:=hv
   obtain⟨b,s,m',e1,rfl,hj⟩:=hv (by rw[hq,hu])
   rw[hn.lenOf]at hj
   have hid:id<st.length:=by
    rcases Nat.lt_or_ge id st.length with hi|hi
    ·exact hi
    ·simp[rowOf,List.getElem?_eq_none hi]at hj
   have ho:=hn.own id (rowOf st id) (by simp[rowOf,hid])
   rw[e1]at ho
   rw[hn.sz]
   exact hld ho.2.2.2 hj
  ·cases h
 ·cases h
end
section
variable {P:Program} {Z:Nat→Prop} {w:World} {σ:Nat→Sh}
theorem oneA_VR {v:AV} {u:Value} (h:VR Z w σ v [u]) (h1:oneA v=true):u.oneCell'=true:=by
 cases v<;>simp only[oneA,Bool.false_eq_true]at h1
 case nil=>cases h;rfl
 case p t x=>exact PV.one t h.2 u (by simp)
 case k v=>
  cases h
  cases u<;>first|rfl|cases h1
 case sl=>obtain⟨v,e,hv⟩:=h;cases e;exact hv.one
 case ptr=>obtain⟨v,e,hv⟩:=h;cases e;exact hv.one
 case row=>obtain⟨v,e,hv⟩:=h;cases e;exact hv.one
 case prw=>obtain⟨v,e,hv⟩:=h;cases e;exact hv.one
 case pap=>obtain⟨v,e,hv⟩:=h;cases e;exact hv.one
 case clo=>obtain⟨c,e,_⟩:=h;cases e;rfl
 case rp=>obtain⟨b,s,c,e,_⟩:=h;cases e;rfl
 case rl=>obtain⟨b,s,e,_⟩:=h;cases e;rfl
theorem cells_one {u:Value} (h:u.oneCell'=true):u.cells= #[u]:=by
 cases u<;>first|rfl|cases h
theorem cells_VR {v:AV} {u:Value} (h:VR Z w σ v [u]) (h1:cellsOk v=true):VR Z w σ v.cells u.cells.toList∧isL v.cells=true:=by
 by_cases ha: ∃cs,v= .agg cs
 ·obtain⟨cs,rfl⟩:=ha
  obtain⟨c,e,h2,h3⟩:=h
  cases e
  exact⟨h2,h3⟩
 ·have h2:oneA v=true:=by
   cases v<;>first|exact h1|exact absurd ⟨_,rfl⟩ ha
  have h3:v.cells= .cn v .e0:=by
   cases v<;>first|rfl|exact absurd ⟨_,rfl⟩ ha
  rw[h3,cells_one (oneA_VR h h2)]
  exact⟨⟨u,[],rfl,h,rfl,rfl⟩,rfl⟩
theorem oneAll_VR: ∀{cs:AV} {l:List Value},VR Z w σ cs l→oneAll cs=true→ ∀v∈l,v.oneCell'=true
 | .e0,_,h,_=>by cases h;simp
 | .cn a b,_,h,h1=>by
  obtain⟨v,r,rfl,h2,h3,_⟩:=h
  simp only[oneAll,Bool.and_eq_true]at h1
  intro x hx
  rcases List.mem_cons.1 hx with rfl|hx
  ·exact oneA_VR h2 h1.1
  ·exact oneAll_VR h3 h1.2 x hx
theorem put_VR: ∀{z vs:AV} {l m:List Value} {off:Nat},VR Z w σ z l→isL z=true→VR Z w σ vs m→isL vs=true→off+vs.len≤z.len→
  VR Z w σ (z.put off vs) (l.take off++m++l.drop (off+m.length))∧isL (z.put off vs)=true∧(z.put off vs).len=z.len
 | .e0, .e0,_,_,off,h1,_,h3,_,_=>by cases h1;cases h3;cases off<;>exact⟨by simp[AV.put,VR],rfl,rfl⟩
 | .e0, .cn v vs,_,_,off,_,_,_,_,h=>by simp[AV.len]at h
 | .cn a b, .e0,l,m,0,h1,il,h3,_,_=>by cases h3;exact⟨by simpa[AV.put]using h1,rfl,rfl⟩
 | .cn a b, .cn v vs,l,m,0,h1,_,h3,_,h=>by
  obtain⟨x,r,rfl,h4,h5,il⟩:=h1
  obtain⟨y,q,rfl,h6,h7,il2⟩:=h3
  obtain⟨h8,h9,h10⟩:=put_VR (off:=0) h5 il h7 il2 (by simp[AV.len]at h ⊢;omega)
  refine⟨⟨y,_,rfl,h6,?_,h9⟩,rfl,by simp[AV.put,AV.len,h10]⟩
  simpa using h8
 | .cn a b, .e0,l,m,off+1,h1,_,h3,il3,h=>by
  obtain⟨x,r,rfl,h4,h5,il⟩:=h1
  cases h3
  obtain⟨h8,h9,h10⟩:=put_VR (off:=off) (vs:= .e0) (m:=[]) h5 il rfl rfl (by simp[AV.len]at h ⊢;omega)
  refine⟨⟨x,_,rfl,h4,?_,h9⟩,rfl,by simp[AV.put,AV.len,h10]⟩
  simpa[Nat.add_right_comm]using h8
 | .cn a b, .cn v vs,l,m,off+1,h1,_,h3,il3,h=>by
  obtain⟨x,r,rfl,h4,h5,il⟩:=h1
  obtain⟨h8,h9,h10⟩:=put_VR (off:=off) h5 il h3 il3 (by simp[AV.len]at h ⊢;omega)
  refine⟨⟨x,_,rfl,h4,?_,h9⟩,rfl,by simp[AV.put,AV.len,h10]⟩
  simpa[Nat.add_right_comm]using h8
theorem fold_put: ∀(vs:List Value) (off j:Nat) (c:Array Value),off+j+vs.length≤c.size→
  (vs.zipIdx j).foldl (fun cs q=>cs.setIfInBounds (off+q.2) q.1) c=(c.toList.take (off+j)++vs++c.toList.drop (off+j+vs.length)).toArray
 | [],off,j,c,_=>by simp
 | v::r,off,j,c,h=>by
  have ih:=fold_put r off (j+1) (c.setIfInBounds (off+j) v) (by simp at h ⊢;omega)
  rw[List.zipIdx_cons,List.foldl_cons]
  simp only at ih ⊢
  rw[ih]
  congr 1
  have e:=list_seg_step c.toList (off+j) v r (by simp at h ⊢;omega)
  simpa[Array.toList_setIfInBounds,Nat.add_assoc]using e
theorem fold_put_arr (vs c:Array Value) (off:Nat) (h:off+vs.size≤c.size):
  vs.zipIdx.foldl (fun cs q=>cs.setIfInBounds (off+q.2) q.1) c=(c.toList.take off++vs.toList++c.toList.drop (off+vs.size)).toArray:=by
 have:=fold_put vs.toList off 0 c (by simpa using h)
 rw[←Array.foldl_toList,Array.toList_zipIdx]
 simpa using this
def prs (Z:Nat→Prop) (w:World) (σ:Nat→Sh):List (Nat×AV)→List (Nat×Value)→Prop
 | [],[]=>True
 | a::r,b::s=>a.1=b.1∧VR Z w σ a.2 [b.2]∧prs Z w σ r s
 | _,_=>False
theorem fillE_snd {pl:Nat→Option (Nat×Nat)} {pl':Nat→Option (Nat×Nat)} (hpl: ∀i q,pl i=some q→pl' i=some q): ∀{ps:List (Nat×AV)} {ps':List (Nat×Value)} {z cs:AV} {c:Array Value},
  fillE z pl ps=some cs→VR Z w σ z c.toList→isL z=true→prs Z w σ ps ps'→
  ∃d,Instr.fill pl' c ps'=some d∧VR Z w σ cs d.toList∧isL cs=true∧cs.len=z.len
 | [],[],z,cs,c,h,hz,il,_=>by
  simp only[fillE,Option.some.injEq]at h
  subst h
  exact⟨c,rfl,hz,il,rfl⟩
 | (i,v)::r,(j,u)::r',z,cs,c,h,hz,il,hf=>by
   obtain⟨e,hu,hf⟩:=hf
   have e:i=j:=e
   have hu:VR Z w σ v [u]:=hu
   subst e
   simp only[fillE]at h
   split at h
   case h_2=>cases h
   rename_i off size hp
   split at h
   case isFalse=>cases h
   rename_i hc
   obtain⟨h1,h2,h3⟩:=hc
   have h1:v.cells.len=size:=h1
   have h3:cellsOk v=true:=h3
   have h:fillE (z.put off v.cells) pl r=some cs:=h
   obtain⟨h4,h5⟩:VR Z w σ v.cells u.cells.toList∧isL v.cells=true:=cells_VR (v:=v) (u:=u) hu h3
   have h6:=h4.len h5
   have h7:=hz.len il
   rw[Array.length_toList]at h6 h7
   obtain⟨h8,h9,h10⟩:=put_VR (off:=off) hz il h4 h5 (by omega)
   obtain⟨d,h11,h12,h13,h14⟩:=fillE_snd hpl (c:=u.cells.zipIdx.foldl (fun cs q=>cs.setIfInBounds (off+q.2) q.1) c) h
    (by rw[fold_put_arr _ _ _ (by omega)];simpa using h8) h9 hf
   refine⟨d,?_,h12,h13,h14.trans h10⟩
   simp only[Instr.fill,hpl _ _ hp]
   rw[if_neg (by simp;omega)]
   exact h11
end
def kv:List Value→List Bool→Prop
 | [],[]=>True
 | .int _ _::r,true::l=>kv r l
 | .bool _::r,false::l=>kv r l
 | _,_=>False
def eqs:List Value→List Value→Option Bool
 | [],[]=>some true
 | .int j x::b, .int k y::d=>if j=k then(eqs b d).map (eqI x y)else none
 | .bool x::b, .bool y::d=>(eqs b d).map (eqB x y)
 | _,_=>none
theorem kv_len: ∀{xs:List Value} {l:List Bool},kv xs l→xs.length=l.length
 | [],[],_=>rfl
 | .int _ _::r,true::l,h=>by simp[kv_len (xs:=r) h]
 | .bool _::r,false::l,h=>by simp[kv_len (xs:=r) h]
theorem kv_int {xs:List Value} (h:kv xs [true]): ∃j x,xs=[.int j x]:=by
 match xs,h with
 | .int j x::[],_=>exact⟨j,x,rfl⟩
 | .int j x:: .int k y::r,h=>exact h.elim
theorem kv_bool {xs:List Value} (h:kv xs [false]): ∃x,xs=[.bool x]:=by
 match xs,h with
 | .bool x::[],_=>exact⟨x,rfl⟩
 | .bool x:: .bool y::r,h=>exact h.elim
theorem kv_app: ∀{l m:List Bool} {xs:List Value},kv xs (l++m)→kv (xs.take l.length) l∧kv (xs.drop l.length) m
 | [],m,xs,h=>⟨by simp[kv],by simpa using h⟩
 | true::l,m, .int _ _::r,h=>by
  have:=kv_app (l:=l) (xs:=r) h
  exact⟨this.1,this.2⟩
 | false::l,m, .bool _::r,h=>by
  have:=kv_app (l:=l) (xs:=r) h
  exact⟨this.1,this.2⟩
theorem eqs_app: ∀{l m:List Bool} {xs ys:List Value} {r:Bool},kv xs (l++m)→kv ys (l++m)→eqs xs ys=some r→
  ∃a b,eqs (xs.take l.length) (ys.take l.length)=some a∧eqs (xs.drop l.length) (ys.drop l.length)=some b∧r=(a&&b)
 | [],m,xs,ys,r,_,_,h=>⟨true,r,by simp[eqs],by simpa using h,by simp⟩
 | true::l,m, .int j x::xs, .int k y::ys,r,h1,h2,h=>by
  simp only[eqs]at h
  split at h
  case isFalse=>cases h
  rename_i hk
  obtain⟨r',h3,rfl⟩:=Option.map_eq_some_iff.1 h
  obtain⟨a,b,h4,h5,rfl⟩:=eqs_app (l:=l) (m:=m) (xs:=xs) (ys:=ys) h1 h2 h3
  refine⟨eqI x y a,b,?_,h5,by simp[eqI,Bool.and_assoc]⟩
  simp only[List.length_cons,List.take_succ_cons,eqs,if_pos hk,h4,Option.map_some]
 | false::l,m, .bool x::xs, .bool y::ys,r,h1,h2,h=>by
  simp only[eqs]at h
  obtain⟨r',h3,rfl⟩:=Option.map_eq_some_iff.1 h
  obtain⟨a,b,h4,h5,rfl⟩:=eqs_app (l:=l) (m:=m) (xs:=xs) (ys:=ys) h1 h2 h3
  refine⟨eqB x y a,b,?_,h5,by simp[eqB,Bool.and_assoc]⟩
  simp only[List.length_cons,List.take_succ_cons,eqs,h4,Option.map_some]
section
variable {P:Program}
def mkV (P:Program) (t:TypeId) (xs:List Value):Value:=match P.underlying t with
 | some (.struct _)=> .agg xs.toArray
 | _=>xs.headD undef
theorem cqF_info {d:Nat} {t:TypeId} {l:List Bool} (h:cqF P d t=some l): ∃i,P.info? t=some i∧i.size=l.length∧
  ((∃fs,P.underlying t=some (.struct fs))∨(i.size=1∧ ∃k,P.underlying t=some (.int k))∨(i.size=1∧P.underlying t=some .bool)):=by
 cases d with
 | zero=>cases h
 | succ d=>
  simp only[cqF]at h
  split at h
  ·rename_i k i hu hi
   split at h
   ·rename_i h1
    cases h
    exact⟨i,hi,h1, .inr (.inl ⟨h1,k,hu⟩)⟩
   ·cases h
  ·rename_i i hu hi
   split at h
   ·rename_i h1
    cases h
    exact⟨i,hi,h1, .inr (.inr ⟨h1,hu⟩)⟩
   ·cases h
  ·rename_i fs i hu hi
   split at h
   case isFalse=>cases h
   split at h
   case h_2=>cases h
   split at h
   case isFalse=>cases h
   rename_i h1
   cases h
   exact⟨i,hi,h1.symm, .inl ⟨fs,hu⟩⟩
  ·cases h
theorem run_part_mkV {d:Nat} {t:TypeId} {l:List Bool} (h:cqF P d t=some l) (xs:List Value) (o:Nat) (hl:o+l.length≤xs.length) (w:World):
  (part t xs.toArray o).run P w= .ok (mkV P t ((xs.drop o).take l.length)) w:=by
 obtain⟨i,h1,h2,h3⟩:=cqF_info h
 rcases h3 with ⟨fs,h3⟩|⟨h4,k,h3⟩|⟨h4,h3⟩
 ·simp[part,isAgg,run_underlying h3,sizeOf,typeInfo,h1,h2,mkV,h3]
 ·have h5:xs[o]?=some xs[o]:=by simp[show o<xs.length by omega]
  have h6:(xs.drop o).take 1=[xs[o]]:=by
   rw[List.drop_eq_getElem_cons (by omega)]
   rfl
  have h7:l.length=1:=by omega
  simp[part,isAgg,run_underlying h3,mkV,h3,h5,h7,h6]
 ·have h5:xs[o]?=some xs[o]:=by simp[show o<xs.length by omega]
  have h6:(xs.drop o).take 1=[xs[o]]:=by
   rw[List.drop_eq_getElem_cons (by omega)]
   rfl
  have h7:l.length=1:=by omega
  simp[part,isAgg,run_underlying h3,mkV,h3,h5,h7,h6]
theorem eqFields_cq {d D:Nat} {xs ys:List Value} {w:World}
  (ih: ∀(t:TypeId) (l:List Bool) (xs ys:List Value) (r:Bool),cqF P d t=some l→kv xs l→kv ys l→eqs xs ys=some r→(Op.equalIn D t (mkV P t xs) (mkV P t ys)).run P w= .ok r w):
  ∀(fs:List Field) (o:Nat) (l:List Bool) (r:Bool),cqL (cqF P d) fs o=some l→kv (xs.drop o) l→kv (ys.drop o) l→o≤xs.length→o≤ys.length→eqs (xs.drop o) (ys.drop o)=some r→
   (Op.eqFields D xs.toArray ys.toArray fs).run P w= .ok r w
 | [],o,l,r,h,h1,h2,h3,h4,h5=>by
  simp only[cqL,Option.some.injEq]at h
  subst h
  have e1:=kv_len h1
  have e2:=kv_len h2
  rw[List.eq_nil_of_length_eq_zero e1,List.eq_nil_of_length_eq_zero e2]at h5
  simp only[eqs,Option.some.injEq]at h5
  subst h5
  rfl
 | f::fs,o,l,r,h,h1,h2,h3,h4,h5=>by
  simp only[cqL]at h
  split at h
  case isFalse=>cases h
  rename_i hf
  obtain⟨rfl,hn⟩:=hf
  split at h
  case h_2=>cases h
  rename_i m hm
  obtain⟨l',hl',rfl⟩:=Option.map_eq_some_iff.1 h
  have k1:=kv_len h1
  have k2:=kv_len h2
  rw[List.length_drop,List.length_append]at k1 k2
  obtain⟨p1,q1⟩:=kv_app h1
  obtain⟨p2,q2⟩:=kv_app h2
  obtain⟨a,b,e1,e2,rfl⟩:=eqs_app h1 h2 h5
  rw[List.drop_drop]at q1 q2 e2
  rw[List.drop_drop]at e2
  have ha:=ih f.type m _ _ a hm p1 p2 e1
  have hb:=eqFields_cq ih fs (f.offset+m.length) l' b hl' q1 q2 (by omega) (by omega) e2
  have r1:=run_part_mkV hm xs f.offset (by omega) w
  have r2:=run_part_mkV hm ys f.offset (by omega) w
  simp only[Op.eqFields,hn,ne_eq,not_false_eq_true,if_true,Sem.run_bind,r1,r2,Result.andThen_ok,ha]
  cases a
  ·simp
  ·simp[hb]
theorem equalIn_cq: ∀(d D:Nat),d≤D→ ∀(t:TypeId) (l:List Bool) (xs ys:List Value) (r:Bool) (w:World),cqF P d t=some l→kv xs l→kv ys l→eqs xs ys=some r→
  (Op.equalIn D t (mkV P t xs) (mkV P t ys)).run P w= .ok r w
 | 0,_,_,_,_,_,_,_,_,h,_,_,_=>by cases h
 | d+1,0,hd,_,_,_,_,_,_,_,_,_,_=>by omega
 | d+1,D+1,hd,t,l,xs,ys,r,w,h,h1,h2,h3=>by
  simp only[cqF]at h
  split at h
  ·rename_i k i hu hi
   split at h
   case isFalse=>cases h
   cases h
   obtain⟨j,x,rfl⟩:=kv_int h1
   obtain⟨k',y,rfl⟩:=kv_int h2
   ·simp only[eqs]at h3
    split at h3
    case isFalse=>cases h3
    rename_i hk
    simp only[Option.map_some,Option.some.injEq,eqI,Bool.and_true]at h3
    subst hk h3
    simp[mkV,hu,Op.equalIn,run_underlying hu]
  ·rename_i i hu hi
   split at h
   case isFalse=>cases h
   cases h
   obtain⟨x,rfl⟩:=kv_bool h1
   obtain⟨y,rfl⟩:=kv_bool h2
   ·simp only[eqs,Option.map_some,Option.some.injEq,eqB,Bool.and_true]at h3
    subst h3
    simp[mkV,hu,Op.equalIn,run_underlying hu]
  ·rename_i fs i hu hi
   split at h
   case isFalse=>cases h
   rename_i hst
   split at h
   case h_2=>cases h
   rename_i l' hl'
   split at h
   case isFalse=>cases h
   cases h
   have hf:P.fieldsOf t=fs:=by simp[Program.fieldsOf,hu]
   have e1:mkV P t xs= .agg xs.toArray:=by simp[mkV,hu]
   have e2:mkV P t ys= .agg ys.toArray:=by simp[mkV,hu]
   rw[e1,e2,run_equalIn_struct w D t _ _ (by rw[hf];exact hu) hst,hf]
   exact eqFields_cq (fun t l xs ys r a b c e=>equalIn_cq d D (by omega) t l xs ys r w a b c e) fs.toList 0 l r hl' (by simpa using h1) (by simpa using h2) (by omega) (by omega) (by simpa using h3)
  ·cases h
end
section
variable {P:Program} {E:Env} {Z:Nat→Prop} {w:World} {σ:Nat→Sh}
theorem kdE_eq: ∀{a b:List Bool},kdE a b=true→a=b
 | [],[],_=>rfl
 | true::a,true::b,h=>by rw[kdE_eq (a:=a) (b:=b) h]
 | false::a,false::b,h=>by rw[kdE_eq (a:=a) (b:=b) h]
theorem eqC_VR: ∀{cs ds:AV} {xs ys:List Value} {r:Bool},eqC cs ds=some r→VR Z w σ cs xs→VR Z w σ ds ys→eqs xs ys=some r∧kv xs (kd cs)∧kv ys (kd cs)∧isL cs=true
 | .e0, .e0,_,_,r,h,h1,h2=>by
  simp only[eqC,Option.some.injEq]at h
  subst h
  cases h1;cases h2
  exact⟨rfl,trivial,trivial,rfl⟩
 | .cn (.p (.int j) x) b, .cn (.p (.int k) y) d,_,_,r,h,h1,h2=>by
  simp only[eqC]at h
  split at h
  case isFalse=>cases h
  rename_i hk
  obtain⟨r',h3,rfl⟩:=Option.map_eq_some_iff.1 h
  obtain⟨u,r1,rfl,h4,h5,_⟩:=h1
  obtain⟨v,r2,rfl,h6,h7,_⟩:=h2
  rw[h4.intp,h6.intp]
  obtain⟨h8,h9,h10,_⟩:=eqC_VR h3 h5 h7
  exact⟨by simp only[eqs,if_pos hk,h8,Option.map_some],h9,h10,rfl⟩
 | .cn (.p .bool x) b, .cn (.p .bool y) d,_,_,r,h,h1,h2=>by
  simp only[eqC]at h
  obtain⟨r',h3,rfl⟩:=Option.map_eq_some_iff.1 h
  obtain⟨u,r1,rfl,h4,h5,_⟩:=h1
  obtain⟨v,r2,rfl,h6,h7,_⟩:=h2
  rw[h4.boolp,h6.boolp]
  obtain⟨h8,h9,h10,_⟩:=eqC_VR h3 h5 h7
  exact⟨by simp only[eqs,h8,Option.map_some],h9,h10,rfl⟩
theorem eqAgg_snd (hE:EnvOk P E) {t:Nat} (hc:(E.ti t).cq=true) (hok:(E.ti t).ok=true) {cs ds:AV} (hk:kdE (kd cs) (kd (E.ti t).z)=true) {r:Bool} (h:eqC cs ds=some r) {a b:Value}
  (ha:VR Z w σ (.agg cs) [a]) (hb:VR Z w σ (.agg ds) [b]) (hagg:(E.ti t).agg=true) (x y:Operand):
  (do eqGuard .eql t x y a b;binOp .eql t a b).run P w= .ok (.bool r) w∧(do eqGuard .neq t x y a b;binOp .neq t a b).run P w= .ok (.bool (!r)) w:=by
 obtain⟨i,z,d,i1,i2,i3,i4,i5,i6,i7,i8,i9,i10,i11⟩:=tiChk_info (hE.tab t hok)
 obtain⟨c1,c2⟩:=i11 hc
 obtain⟨c,e,h1,_⟩:=ha
 cases e
 obtain⟨c',e,h2,_⟩:=hb
 cases e
 obtain⟨h3,h4,h5,_⟩:=eqC_VR h h1 h2
 rw[kdE_eq hk]at h4 h5
 have h6:=equalIn_cq 8 10000 (by omega) t _ _ _ r w c1 h4 h5 h3
 obtain⟨i',j1,j2,j3⟩:=cqF_info c1
 have hm: ∀c:Array Value,mkV P t c.toList= .agg c:=by
  intro c
  rcases j3 with ⟨fs,j3⟩|⟨_,k,j3⟩|⟨_,j3⟩
  ·simp[mkV,j3]
  ·rw[i7]at j3
   cases j3
   unfold TI.agg at hagg
   cases hu:(E.ti t).u<;>rw[hu]at i8 hagg<;>simp[uChk]at i8 hagg
  ·rw[i7]at j3
   cases j3
   unfold TI.agg at hagg
   cases hu:(E.ti t).u<;>rw[hu]at i8 hagg<;>simp[uChk]at i8 hagg
 rw[hm,hm]at h6
 exact⟨by simp only[Sem.run_bind,run_eqGuard_agg w _ t x y c c' c2,Result.andThen_ok,run_eql_struct,h6],by simp only[Sem.run_bind,run_eqGuard_agg w _ t x y c c' c2,Result.andThen_ok,run_neq_struct,h6]⟩
end
section
variable {P:Program} {E:Env} {gv:Nat→AV} {o:Oper} {tm tm':Nat→AV} {hp hp':Nat→Ob} {n:Nat} {K:Eff→Option FRes} {r:FRes} {Z:Nat→Prop} {w:World} {σ:Nat→Sh} {a:Act}
theorem mem_opT {t:Nat} (h:Operand.tmp t∈o.op.operands):t∈opT o:=List.mem_filterMap.2 ⟨.tmp t,by simpa using h,rfl⟩
theorem evA_op (hg:E.gl=gv) (h:SR gv Z w σ tm' hp' a) (ht: ∀t∈opT o,tm' t=tm t) {x:Operand} (hx:x∈o.op.operands):VR Z w σ (evA E tm x) [a.eval x]:=
 evA_VR hg h x fun t e=>ht t (mem_opT (by rw[←e];exact hx))
theorem avs_op (hg:E.gl=gv) (h:SR gv Z w σ tm' hp' a) (ht: ∀t∈opT o,tm' t=tm t): ∀{l:List Operand},(∀x∈l,x∈o.op.operands)→VR Z w σ (avs E tm l) (l.map a.eval)∧isL (avs E tm l)=true
 | [],_=>⟨rfl,rfl⟩
 | x::l,hl=>⟨⟨_,_,rfl,evA_op hg h ht (hl x (by simp)),(avs_op hg h ht fun y hy=>hl y (by simp[hy])).1,(avs_op hg h ht fun y hy=>hl y (by simp[hy])).2⟩,rfl⟩
abbrev Snd (P:Program) (gv:Nat→AV) (o:Oper) (tm:Nat→AV) (hp:Nat→Ob) (n:Nat) (K:Eff→Option FRes) (r:FRes):Prop:= ∃e,K e=some r∧OpSnd P gv o tm hp n e
theorem snd_move (hg:E.gl=gv) {x:Operand} (ho:o.op= .move x∨o.op= .assign x) (h:K { v:=evA E tm x }=some r):Snd P gv o tm hp n K r:=
 ⟨_,h,OpSnd.pure rfl rfl fun tm' hp' Z w σ a h1 _ h3=>by
  refine⟨a.eval x,?_,evA_op hg h3 h1 ?_⟩<;>rcases ho with ho|ho<;>simp[execOp,ho,Op.operands]⟩
theorem snd_pick (hg:E.gl=gv) {c x y:Operand} (ho:o.op= .pick c x y) (h:(match evA E tm c with
  | .p .bool b=>cond b (K { v:=evA E tm x }) (K { v:=evA E tm y })
  | _=>none)=some r):Snd P gv o tm hp n K r:=by
 split at h
 case h_2=>cases h
 rename_i b hb
 obtain⟨q,hq⟩: ∃q:Bool,q=b:=⟨b,rfl⟩
 subst hq
 refine⟨{ v:=evA E tm (if q=true then x else y) },by cases q<;>exact h,OpSnd.pure rfl rfl fun tm' hp' Z w σ a h1 _ h3=>⟨a.eval (if q=true then x else y),?_,evA_op hg h3 h1 ?_⟩⟩
 ·have hc:VR Z w σ (evA E tm c) [a.eval c]:=evA_op hg h3 h1 (by simp[ho,Op.operands])
  rw[hb]at hc
  have:=hc.boolp
  simp only[execOp,ho,this,asBool]
  cases q<;>simp
 ·cases q<;>simp[ho,Op.operands]
theorem snd_load (hE:EnvOk P E) (hg:E.gl=gv) {t:Nat} {x:Operand} (ho:o.op= .load t x) (h:loadE E hp t (evA E tm x) K=some r):Snd P gv o tm hp n K r:=by
 obtain⟨e,h0,h1,h2,h3⟩:=loadE_snd (gv:=gv) hE h
 refine⟨e,h0,OpSnd.pure h1 h2 fun tm' hp' Z w σ a ht hh hs=>?_⟩
 obtain⟨u,h4,h5⟩:=h3 hs.mem hh (evA_op hg hs ht (x:=x) (by simp[ho,Op.operands]))
 exact⟨u,by simp[execOp,ho,h4],h5⟩
theorem snd_indexAddr (hE:EnvOk P E) (hg:E.gl=gv) {t:Nat} {x i:Operand} (ho:o.op= .indexAddr t x i) (h:idxE E hp t (evA E tm x) (evA E tm i) K=some r):Snd P gv o tm hp n K r:=by
 obtain⟨e,h0,h1,h2,h3⟩:=idxE_snd (gv:=gv) hE h
 refine⟨e,h0,OpSnd.pure h1 h2 fun tm' hp' Z w σ a ht hh hs=>?_⟩
 obtain⟨u,h4,h5⟩:=h3 hs.mem hh (evA_op hg hs ht (x:=x) (by simp[ho,Op.operands])) (evA_op hg hs ht (x:=i) (by simp[ho,Op.operands]))
 exact⟨u,by simp[execOp,ho,h4],h5⟩
theorem OV_map (hg:E.gl=gv) (h:SR gv Z w σ tm' hp' a) (ht: ∀t∈opT o,tm' t=tm t) {x:Option Operand} (hx: ∀y,x=some y→y∈o.op.operands):OV Z w σ (x.map (evA E tm)) (x.map a.eval):=by
 cases x with
 | none=>exact .inl ⟨rfl,rfl⟩
 | some y=>exact .inr ⟨_,_,rfl,rfl,evA_op hg h ht (hx y rfl)⟩
theorem snd_slice (hE:EnvOk P E) (hg:E.gl=gv) {t:Nat} {x:Operand} {lo hi mx:Option Operand} (ho:o.op= .slice t x lo hi mx) (h:(match(E.ti t).u with
  | .sl et=>sliceE (E.ti et) hp (evA E tm x) (lo.map (evA E tm)) (hi.map (evA E tm)) (mxE hp (evA E tm x) (hi.map (evA E tm)) (mx.map (evA E tm)) K)
  | _=>none)=some r):Snd P gv o tm hp n K r:=by
 split at h
 case h_2=>cases h
 rename_i et hu
 obtain⟨e,h0,h1,h2,h3⟩:=sliceOp_snd (gv:=gv) hE (ok_of_u hu (by simp)) hu h
 refine⟨e,h0,OpSnd.pure h1 h2 fun tm' hp' Z w σ a ht hh hs=>?_⟩
 obtain⟨u,h4,h5⟩:=h3 hs.mem hh (evA_op hg hs ht (x:=x) (by simp[ho,Op.operands])) (OV_map hg hs ht (x:=lo) fun y e=>by simp[ho,Op.operands,e]) (OV_map hg hs ht (x:=hi) fun y e=>by simp[ho,Op.operands,e]) (OV_map hg hs ht (x:=mx) fun y e=>by simp[ho,Op.operands,e])
 exact⟨u,by simp[execOp,ho,h4],h5⟩
theorem ok_of_agg {T:TI} (h:T.agg=true):T.ok=true:=by
 unfold TI.agg at h
 unfold TI.ok
 cases hu:T.u<;>rw[hu]at h<;>first|rfl|cases h
theorem run_eq_bool {t:Nat} (hub:P.underlying t=some .bool) (p q:Bool) (x y:Operand) (w:World):
  (do eqGuard .eql t x y (.bool p) (.bool q);binOp .eql t (.bool p) (.bool q)).run P w= .ok (.bool (p==q)) w∧
  (do eqGuard .neq t x y (.bool p) (.bool q);binOp .neq t (.bool p) (.bool q)).run P w= .ok (.bool (!(p==q))) w:=by
 have h:=run_equalIn_bool' (P:=P) w 9999 t p q hub
 have g1:(eqGuard .eql t x y (.bool p) (.bool q)).run P w= .ok () w:=by simp[eqGuard]
 have g2:(eqGuard .neq t x y (.bool p) (.bool q)).run P w= .ok () w:=by simp[eqGuard]
 have b1:(binOp .eql t (.bool p) (.bool q)).run P w= .ok (.bool (p==q)) w:=by
  simp only[binOp]
  simp[Op.equal,Op.maxDepth,h]
 have b2:(binOp .neq t (.bool p) (.bool q)).run P w= .ok (.bool (!(p==q))) w:=by
  simp only[binOp]
  simp[Op.equal,Op.maxDepth,h]
 exact⟨by rw[Sem.run_bind,g1,Result.andThen_ok,b1],by rw[Sem.run_bind,g2,Result.andThen_ok,b2]⟩
theorem nilS_snd {x:AV} {b:Bool} (h:nilS x=some b) {Z:Nat→Prop} {w:World} {σ:Nat→Sh} {a:Value} (hx:VR Z w σ x [a]): ∃q l c,a= .slice q l c∧q.isNone=b:=by
 unfold nilS at h
 split at h
 ·cases h
  cases hx
  exact⟨none,0,0,rfl,rfl⟩
 ·cases h
  cases hx
  exact⟨_,_,_,rfl,rfl⟩
 ·cases h
  obtain⟨_,a',c,e,_,h2⟩:=hx
  cases e
  rcases h2 with h2|⟨b,o,rfl,_⟩
  ·cases h2
  ·exact⟨_,_,_,rfl,rfl⟩
 ·cases h
theorem run_eq_nil {t et:Nat} (hu:P.underlying t=some (.slice et)) (q:Option Addr) (l c:Nat) (x y:Operand) (w:World):
  (do eqGuard .eql t x y (.slice q l c) (.slice none 0 0);binOp .eql t (.slice q l c) (.slice none 0 0)).run P w= .ok (.bool q.isNone) w∧
  (do eqGuard .neq t x y (.slice q l c) (.slice none 0 0);binOp .neq t (.slice q l c) (.slice none 0 0)).run P w= .ok (.bool (!q.isNone)) w:=by
 have h0: ∀d,(Op.equalIn (d+1) t (.slice q l c) (.slice none 0 0)).run P w= .ok q.isNone w:=by
  intro d
  cases q<;>simp[Op.equalIn,underlying,hu]
 have h:=h0 9999
 have g1:(eqGuard .eql t x y (.slice q l c) (.slice none 0 0)).run P w= .ok () w:=by simp[eqGuard]
 have g2:(eqGuard .neq t x y (.slice q l c) (.slice none 0 0)).run P w= .ok () w:=by simp[eqGuard]
 have b1:(binOp .eql t (.slice q l c) (.slice none 0 0)).run P w= .ok (.bool q.isNone) w:=by
  simp only[binOp]
  simp[Op.equal,Op.maxDepth,h]
 have b2:(binOp .neq t (.slice q l c) (.slice none 0 0)).run P w= .ok (.bool (!q.isNone)) w:=by
  simp only[binOp]
  simp[Op.equal,Op.maxDepth,h]
 exact⟨by rw[Sem.run_bind,g1,Result.andThen_ok,b1],by rw[Sem.run_bind,g2,Result.andThen_ok,b2]⟩
theorem binE_snd (hE:EnvOk P E) {t:Nat} {op:BinOp} {x y:AV} {K:AV→Option FRes} {r:FRes} (h:binE (E.ti t) op x y K=some r): ∃v,K v=some r∧ ∀{Z:Nat→Prop} {w:World} {σ:Nat→Sh} {a b:Value} (x' y':Operand),
  VR Z w σ x [a]→VR Z w σ y [b]→ ∃u,(do eqGuard op t x' y' a b;binOp op t a b).run P w= .ok u w∧VR Z w σ v [u]:=by
 unfold binE at h
 split at h
 ·unfold binN at h
  split at h
  case h_2=>cases h
  rename_i et b hu hb
  have hub:=und_sl (hE.tab t (ok_of_u hu (by simp))) hu
  split at h
  ·refine⟨_,h,fun {Z w σ a b} x' y' hx hy=>?_⟩
   obtain⟨q,l,c,rfl,hq⟩:=nilS_snd hb hx
   cases hy
   subst hq
   exact⟨.bool _,(run_eq_nil hub q l c x' y' w).1,⟨rfl,rfl⟩⟩
  ·refine⟨_,h,fun {Z w σ a b} x' y' hx hy=>?_⟩
   obtain⟨q,l,c,rfl,hq⟩:=nilS_snd hb hx
   cases hy
   subst hq
   exact⟨.bool _,(run_eq_nil hub q l c x' y' w).2,⟨rfl,rfl⟩⟩
  ·cases h
 ·rename_i k i k' j
  have hk: ∀w x' y', ∃v,K v=some r∧ ∃u,(do eqGuard op t x' y' (.int k i) (.int k' j);binOp op t (.int k i) (.int k' j)).run P w= .ok u w∧ ∀Z σ,VR Z w σ v [u]:=fun w x' y'=>binI_snd h P w t x' y'
  have hv: ∃v,K v=some r∧binI op k k' i j some=some v:=by
   cases op<;>simp only[binI]at h ⊢ <;>(repeat' split at h)<;>simp_all
  obtain⟨v,hv1,hv2⟩:=hv
  refine⟨v,hv1,fun {Z w σ a b} x' y' hx hy=>?_⟩
  rw[hx.intp,hy.intp]
  obtain⟨v',h1,u,h2,h3⟩:=binI_snd hv2 P w t x' y'
  cases h1
  exact⟨u,h2,h3 Z σ⟩
 ·rename_i p q
  unfold binS at h
  split at h
  ·refine⟨_,h,fun {Z w σ a b} x' y' hx hy=>?_⟩
   rw[hx.strp,hy.strp]
   exact⟨.bool _,by simp[eqGuard,binOp,Op.stringOp],⟨rfl,rfl⟩⟩
  ·refine⟨_,h,fun {Z w σ a b} x' y' hx hy=>?_⟩
   rw[hx.strp,hy.strp]
   exact⟨.bool _,by simp[eqGuard,binOp,Op.stringOp],⟨rfl,rfl⟩⟩
  ·cases h
 ·rename_i p q
  split at h
  case h_2=>cases h
  rename_i hu
  have hub:=und_bool (hE.tab t (ok_of_u hu (by simp))) hu
  unfold binB at h
  split at h
  ·refine⟨_,h,fun {Z w σ a b} x' y' hx hy=>?_⟩
   rw[hx.boolp,hy.boolp]
   exact⟨.bool _,(run_eq_bool hub _ _ x' y' w).1,⟨rfl,rfl⟩⟩
  ·refine⟨_,h,fun {Z w σ a b} x' y' hx hy=>?_⟩
   rw[hx.boolp,hy.boolp]
   exact⟨.bool _,(run_eq_bool hub _ _ x' y' w).2,⟨rfl,rfl⟩⟩
  ·cases h
 ·rename_i cs ds
  obtain⟨hc,h⟩:=bif_spec h
  simp only[Bool.and_eq_true]at hc
  obtain⟨hcq,hkd⟩:=hc
  have hq: ∀q,eqC cs ds=some q→(E.ti t).ok=true∧(E.ti t).agg=true→ ∀{Z:Nat→Prop} {w:World} {σ:Nat→Sh} {a b:Value} (x' y':Operand),VR Z w σ (.agg cs) [a]→VR Z w σ (.agg ds) [b]→
    (do eqGuard .eql t x' y' a b;binOp .eql t a b).run P w= .ok (.bool q) w∧(do eqGuard .neq t x' y' a b;binOp .neq t a b).run P w= .ok (.bool (!q)) w:=
   fun q he hk {Z w σ a b} x' y' hx hy=>eqAgg_snd hE hcq hk.1 hkd.2 he hx hy hk.2 x' y'
  have hok:(E.ti t).ok=true∧(E.ti t).agg=true:=⟨ok_of_agg hkd.1,hkd.1⟩
  split at h
  ·split at h
   case h_2=>cases h
   rename_i q he
   exact⟨_,h,fun {Z w σ a b} x' y' hx hy=>⟨_,(hq q he hok x' y' hx hy).1,⟨rfl,rfl⟩⟩⟩
  ·split at h
   case h_2=>cases h
   rename_i q he
   exact⟨_,h,fun {Z w σ a b} x' y' hx hy=>⟨_,(hq q he hok x' y' hx hy).2,⟨rfl,rfl⟩⟩⟩
  ·cases h
 ·cases h
theorem snd_bin (hE:EnvOk P E) (hg:E.gl=gv) {t:Nat} {op:BinOp} {x y:Operand} {q:TypeId} (ho:o.op= .binOp op t x y q) (h:(binE (E.ti t) op (evA E tm x) (evA E tm y) fun v=>K { v:=v })=some r):Snd P gv o tm hp n K r:=by
 obtain⟨v,h0,h3⟩:=binE_snd hE h
 refine⟨_,h0,OpSnd.pure rfl rfl fun tm' hp' Z w σ a ht hh hs=>?_⟩
 obtain⟨u,h4,h5⟩:=h3 x y (evA_op hg hs ht (x:=x) (by simp[ho,Op.operands])) (evA_op hg hs ht (x:=y) (by simp[ho,Op.operands]))
 exact⟨u,by simp only[execOp,ho];rw[Sem.run_bind,h4];rfl,h5⟩
theorem snd_un (hg:E.gl=gv) {t:Nat} {op:UnOp} {x:Operand} (ho:o.op= .unOp op t x) (h:(unE op (evA E tm x) fun v=>K { v:=v })=some r):Snd P gv o tm hp n K r:=by
 have hv: ∃v,K { v:=v }=some r∧unE op (evA E tm x) some=some v:=by
  unfold unE at h ⊢
  split at h
  ·unfold unI at h ⊢
   split at h
   ·exact⟨_,h,rfl⟩
   ·exact⟨_,h,rfl⟩
   ·cases h
  ·exact⟨_,h,rfl⟩
  ·cases h
 obtain⟨v,h0,h3⟩:=hv
 refine⟨_,h0,OpSnd.pure rfl rfl fun tm' hp' Z w σ a ht hh hs=>?_⟩
 obtain⟨v',e,u,h4,h5⟩:=unE_snd (P:=P) h3 (evA_op hg hs ht (x:=x) (by simp[ho,Op.operands]))
 cases e
 exact⟨u,by simp[execOp,ho,h4],h5⟩
theorem snd_convert (hE:EnvOk P E) (hg:E.gl=gv) {s d:Nat} {x:Operand} (ho:o.op= .convert s d x) (h:convE E s d (evA E tm x) K=some r):Snd P gv o tm hp n K r:=by
 unfold convE at h
 split at h
 case h_2=>cases h
 rename_i k i hx
 split at h
 case h_2=>cases h
 rename_i k' hd
 split at h
 case h_2=>cases h
 rename_i k2 hs2
 refine⟨_,h,OpSnd.pure rfl rfl fun tm' hp' Z w σ a ht hh hs=>?_⟩
 have hv:VR Z w σ (evA E tm x) [a.eval x]:=evA_op hg hs ht (by simp[ho,Op.operands])
 rw[hx]at hv
 have hd':=und_int (hE.tab d (ok_of_u hd (by simp))) hd
 have hs':=und_int (hE.tab s (ok_of_u hs2 (by simp))) hs2
 exact⟨_,by simp[execOp,ho,hv.intp,convert,run_underlying hd',run_underlying hs',Conv.intToInt],⟨rfl,rfl⟩⟩
theorem snd_field (hE:EnvOk P E) (hg:E.gl=gv) {t f:Nat} {x:Operand} (ho:o.op= .field t x f) (h:(match(E.ti t).u with
  | .st fs=>match fs[f]? with
   | some (off,ft)=>match evA E tm x with
    | .agg cs=>if off+(E.ti ft).size≤cs.len∧(E.ti ft).ok=true then K { v:=val (E.ti ft) (cs.drop off) } else none
    | _=>none
   | none=>none
  | _=>none)=some r):Snd P gv o tm hp n K r:=by
 split at h
 case h_2=>cases h
 rename_i fs hu
 split at h
 case h_2=>cases h
 rename_i off ft hf
 split at h
 case h_2=>cases h
 rename_i cs hx
 split at h
 case isFalse=>cases h
 rename_i hc
 refine⟨_,h,OpSnd.pure rfl rfl fun tm' hp' Z w σ a ht hh hs=>?_⟩
 have hv:VR Z w σ (evA E tm x) [a.eval x]:=evA_op hg hs ht (by simp[ho,Op.operands])
 rw[hx]at hv
 obtain⟨c,e,hv,il⟩:=hv
 simp only[List.cons.injEq,and_true]at e
 obtain⟨gs,h1,h2⟩:=und_st (hE.tab t (ok_of_u hu (by simp))) hu
 obtain⟨h3,h4⟩:=hv.drop (n:=off) il
 have hl:=hv.len il
 obtain⟨u,h5,h6⟩:=run_part hE hc.2 (c:=c) (off:=off) h3 h4 (by rw[List.length_drop];omega) (fun j v hj=>by simpa[List.getElem?_drop]using hj)
 refine⟨u,?_,h6⟩
 obtain⟨fd,h7,h8,h9⟩: ∃fd,gs[f]?=some fd∧fd.offset=off∧fd.type=ft:=by
  rw[←h2,List.getElem?_map,Option.map_eq_some_iff]at hf
  obtain⟨fd,h7,h8⟩:=hf
  cases h8
  exact⟨fd,by simpa using h7,rfl,rfl⟩
 simp[execOp,ho,e,Instr.field,run_underlying h1,h7,asAgg,h8,h9,h5]
theorem byteAt_eq {s:ByteArray} {i:Nat} (h:i<s.size): ∃b:UInt8,s[i]?=some b∧byteAt s i=(b.toNat:Int):=by
 have hb:s[i]?=some s[i]:=getElem?_pos s i h
 exact⟨s[i],hb,by unfold byteAt;rw[hb];rfl⟩
theorem snd_index (hE:EnvOk P E) (hg:E.gl=gv) {t:Nat} {x i:Operand} (ho:o.op= .index t x i) (h:(match(E.ti t).u with
  | .ar m et=>match evA E tm x,asI (evA E tm i)with
   | .agg cs,some i=>match(E.ti t).ab with
    | some (e,q)=>match(E.ti et).ab,ofCs e q cs with
     | none,some xs=>bif !(Nat.beq m q&&(E.ti et).fits e)then none else at? i m (K { v:=val (E.ti et) (toC e (rdE e xs i.toNat)) })
     | _,_=>none
    | none=>none
   | _,_=>none
  | .str=>match evA E tm x,asI (evA E tm i)with
   | .p .str s,some i=>at? i s.size (K { v:=av .u8 (byteAt s i.toNat) })
   | _,_=>none
  | _=>none)=some r):Snd P gv o tm hp n K r:=by
 split at h
 case h_3=>cases h
 case h_2=>
  rename_i hu
  split at h
  case h_2=>cases h
  rename_i s j hx hi
  obtain⟨h0,h1,h⟩:=at?_spec h
  refine⟨_,h,OpSnd.pure rfl rfl fun tm' hp' Z w σ a ht hh hs=>?_⟩
  have hv:VR Z w σ (evA E tm x) [a.eval x]:=evA_op hg hs ht (by simp[ho,Op.operands])
  have hvi:VR Z w σ (evA E tm i) [a.eval i]:=evA_op hg hs ht (by simp[ho,Op.operands])
  rw[hx]at hv
  obtain⟨k,hk⟩:=asI_VR hi hvi
  have hu':=und_str (hE.tab t (ok_of_u hu (by simp))) hu
  have hj:j.toNat<s.size:=by omega
  obtain⟨b,hb,hb2⟩:=byteAt_eq hj
  refine⟨.int .u8 (byteAt s j.toNat),?_,⟨rfl,rfl⟩⟩
  simp[execOp,ho,hv.strp,hk,Instr.index,asIntOf,run_underlying hu',h0,hb,hb2]
 rename_i m et hu
 split at h
 case h_2=>cases h
 rename_i cs j hx hi
 split at h
 case h_2=>cases h
 rename_i e q hab
 split at h
 case h_2=>cases h
 rename_i xs hab2 hof
 cases hq:(Nat.beq m q&&(E.ti et).fits e)
 ·rw[hq]at h;cases h
 rw[hq]at h
 simp only[Bool.not_true,cond_false]at h
 simp only[Bool.and_eq_true]at hq
 have hmq:=Nat.eq_of_beq_eq_true hq.1
 obtain⟨he,hsz,hpos⟩:=fits_spec hq.2
 obtain⟨h0,h1,h⟩:=at?_spec h
 refine⟨_,h,OpSnd.pure rfl rfl fun tm' hp' Z w σ a ht hh hs=>?_⟩
 have hv:VR Z w σ (evA E tm x) [a.eval x]:=evA_op hg hs ht (by simp[ho,Op.operands])
 have hvi:VR Z w σ (evA E tm i) [a.eval i]:=evA_op hg hs ht (by simp[ho,Op.operands])
 rw[hx]at hv
 obtain⟨k,hk⟩:=asI_VR hi hvi
 obtain⟨c,e1,hv,il⟩:=hv
 simp only[List.cons.injEq,and_true]at e1
 obtain⟨h2,h3,h4⟩:=ofCs_PV e q hof hv il
 obtain⟨l1,h5,h6⟩:=h4 j.toNat _ (rdE_of (by omega))
 have hl:=PV.length e h5
 obtain⟨u,h7,h8⟩:=run_part hE he (c:=c) (off:=j.toNat*(E.ti et).size) (PV.toC (σ:=σ) e h5) (isL_toC _ _) (by omega) (fun jj v hj=>by
  have:=h6 jj v hj
  rw[hsz]
  simpa using this)
 refine⟨u,?_,h8⟩
 have hua:=und_ar (hE.tab t (ok_of_u hu (by simp))) hu
 simp[execOp,ho,e1,hk,Instr.index,asIntOf,run_underlying hua,h0,h1,run_size (hE.tab et he),h7]
theorem snd_extract (hg:E.gl=gv) {i:Nat} {x:Operand} (ho:o.op= .extract x i) (h:(match evA E tm x with
  | .tup vs=>if i<vs.len then K { v:=vs.nth i } else none
  | _=>none)=some r):Snd P gv o tm hp n K r:=by
 split at h
 case h_2=>cases h
 rename_i vs hx
 split at h
 case isFalse=>cases h
 rename_i hc
 refine⟨_,h,OpSnd.pure rfl rfl fun tm' hp' Z w σ a ht hh hs=>?_⟩
 have hv:VR Z w σ (evA E tm x) [a.eval x]:=evA_op hg hs ht (by simp[ho,Op.operands])
 rw[hx]at hv
 obtain⟨c,e1,hv,il⟩:=hv
 simp only[List.cons.injEq,and_true]at e1
 obtain⟨u,h1,h2⟩:=hv.nth hc
 exact⟨u,by simp[execOp,ho,e1,Instr.extract,by simpa using h1],h2⟩
theorem MR.ptr (m:MR gv Z w σ hp) {h i o:Nat} {v:Value} (hv:VR Z w σ (.ptr h i o) [v]) (hh:hp h≠ .dead):
  ∃b q,v= .pointer (some ⟨b,q+o,none⟩)∧ ∀o',VR Z w σ (.ptr h i o') [.pointer (some ⟨b,q+o',none⟩)]:=by
 have ho:=m.live hh
 obtain⟨v',e,hv⟩:=hv
 cases e
 cases hs:σ h with
 | un=>rw[hs]at hv;exact hv.elim
 | no=>
  rw[hs]at ho
  cases hob:hp h with
  | dead=>exact absurd hob hh
  | L e xs=>rw[hob]at ho;obtain⟨p,e,_⟩:=ho;cases e
  | F e xs=>rw[hob]at ho;obtain⟨p,e,_⟩:=ho;cases e
  | B cs=>rw[hob]at ho;obtain⟨b,c,el,e,_⟩:=ho;cases e
  | N e ids st v pd=>rw[hob]at ho;obtain⟨p,r,e,_⟩:=ho;cases e
 | S sz k p q=>
  rw[hs]at hv
  have hv': ∃b s m,p=some (b,s,m)∧v= .pointer (some ⟨b,s+i*sz+o,none⟩)∧i<k:=by cases q<;>exact hv
  obtain⟨b,s,m,rfl,rfl,hi⟩:=hv'
  refine⟨b,s+i*sz,rfl,fun o'=>⟨_,rfl,?_⟩⟩
  rw[hs]
  cases q<;>exact⟨b,s,m,rfl,rfl,hi⟩
 | B b k=>
  rw[hs]at hv
  obtain⟨rfl,rfl⟩:=hv
  refine⟨b,0,by rw[Nat.zero_add],fun o'=>⟨_,rfl,?_⟩⟩
  rw[hs]
  exact⟨rfl,by rw[Nat.zero_add]⟩
theorem run_fieldAt (hE:EnvOk P E) {t f:Nat} {fs:List (Nat×Nat)} (hu:(E.ti t).u= .st fs) {off ft:Nat} (hf:fs[f]?=some (off,ft)) (hok:(E.ti ft).ok=true) (hz:(E.ti ft).size≠0) (b q:Nat):
  (Instr.fieldAt t (.pointer (some ⟨b,q,none⟩)) f).run P w= .ok (.pointer (some ⟨b,q+off,none⟩)) w:=by
 obtain⟨gs,h1,h2⟩:=und_st (hE.tab t (ok_of_u hu (by simp))) hu
 obtain⟨fd,h7,h8,h9⟩: ∃fd,gs[f]?=some fd∧fd.offset=off∧fd.type=ft:=by
  rw[←h2,List.getElem?_map,Option.map_eq_some_iff]at hf
  obtain⟨fd,h7,h8⟩:=hf
  cases h8
  exact⟨fd,by simpa using h7,rfl,rfl⟩
 have hs:=run_size (w:=w) (hE.tab ft hok)
 simp[Instr.fieldAt,run_underlying h1,h7,Instr.sureAddr,fieldPlace,h9,hs,hz,h8,add_spot]
theorem snd_fieldAddr (hE:EnvOk P E) (hg:E.gl=gv) {t f:Nat} {x:Operand} (ho:o.op= .fieldAddr t x f) (h:(match(E.ti t).u with
  | .st fs=>match fs[f]? with
   | some (off,ft)=>bif Nat.beq (E.ti ft).size 0||!(E.ti ft).ok then none else match evA E tm x with
    | .ptr h i o=>match hp h with
     | .dead=>none
     | _=>K { v:= .ptr h i (o+off),rd:=[h] }
    | .rp cs o=>K { v:= .rp cs (o+off) }
    | .rl e xs i o=>K { v:= .rl e xs i (o+off) }
    | _=>none
   | none=>none
  | _=>none)=some r):Snd P gv o tm hp n K r:=by
 split at h
 case h_2=>cases h
 rename_i fs hu
 split at h
 case h_2=>cases h
 rename_i off ft hf
 cases hc:(Nat.beq (E.ti ft).size 0||!(E.ti ft).ok)
 case true=>rw[hc]at h;cases h
 rw[hc]at h
 simp only[cond_false]at h
 simp only[Bool.or_eq_false_iff,Bool.not_eq_false']at hc
 have hz:(E.ti ft).size≠0:=fun e=>by rw[e]at hc;exact absurd hc.1 (by simp)
 split at h
 ·rename_i g i q hx
  have hd:hp g≠ .dead:=fun e=>by simp[e]at h
  have h':K { v:= .ptr g i (q+off),rd:=[g] }=some r:=by
   revert h
   cases hp g<;>first|(intro h;exact h)|(intro h;cases h)
  refine⟨_,h',OpSnd.pure rfl rfl fun tm' hp' Z w σ a ht hh hs=>?_⟩
  have hv:VR Z w σ (evA E tm x) [a.eval x]:=evA_op hg hs ht (by simp[ho,Op.operands])
  rw[hx]at hv
  obtain⟨b,s,e,h5⟩:=hs.mem.ptr hv (by rw[hh g (by simp)];exact hd)
  refine⟨_,?_,h5 (q+off)⟩
  rw[←Nat.add_assoc]
  simp[execOp,ho,e,run_fieldAt hE hu hf hc.2 hz]
 ·rename_i cs q hx
  refine⟨_,h,OpSnd.pure rfl rfl fun tm' hp' Z w σ a ht hh hs=>?_⟩
  have hv:VR Z w σ (evA E tm x) [a.eval x]:=evA_op hg hs ht (by simp[ho,Op.operands])
  rw[hx]at hv
  obtain⟨b,s,c,e,h5⟩:=hv
  simp only[List.cons.injEq,and_true]at e
  refine⟨_,?_,b,s,c,rfl,h5⟩
  rw[←Nat.add_assoc]
  simp[execOp,ho,e,run_fieldAt hE hu hf hc.2 hz]
 ·rename_i e xs i q hx
  refine⟨_,h,OpSnd.pure rfl rfl fun tm' hp' Z w σ a ht hh hs=>?_⟩
  have hv:VR Z w σ (evA E tm x) [a.eval x]:=evA_op hg hs ht (by simp[ho,Op.operands])
  rw[hx]at hv
  obtain⟨b,s,e,h5⟩:=hv
  simp only[List.cons.injEq,and_true]at e
  refine⟨_,?_,b,s,rfl,h5⟩
  rw[←Nat.add_assoc]
  simp[execOp,ho,e,run_fieldAt hE hu hf hc.2 hz]
 ·cases h
theorem snd_nilCheck (hg:E.gl=gv) {x:Operand} (ho:o.op= .nilCheck x) (h:(match evA E tm x with
  | .ptr h i o=>match hp h with
   | .dead=>none
   | _=>K { v:= .ptr h i o,rd:=[h] }
  | .rp cs o=>K { v:= .rp cs o }
  | .rl e xs i o=>K { v:= .rl e xs i o }
  | .clo f c=>K { v:= .clo f c }
  | _=>none)=some r):Snd P gv o tm hp n K r:=by
 split at h
 ·rename_i g i q hx
  have hd:hp g≠ .dead:=fun e=>by simp[e]at h
  have h':K { v:= .ptr g i q,rd:=[g] }=some r:=by
   revert h
   cases hp g<;>first|(intro h;exact h)|(intro h;cases h)
  refine⟨_,h',OpSnd.pure rfl rfl fun tm' hp' Z w σ a ht hh hs=>?_⟩
  have hv:VR Z w σ (evA E tm x) [a.eval x]:=evA_op hg hs ht (by simp[ho,Op.operands])
  rw[hx]at hv
  obtain⟨b,s,e,h5⟩:=hs.mem.ptr hv (by rw[hh g (by simp)];exact hd)
  exact⟨_,by simp[execOp,ho,e],h5 q⟩
 ·rename_i cs q hx
  refine⟨_,h,OpSnd.pure rfl rfl fun tm' hp' Z w σ a ht hh hs=>?_⟩
  have hv:VR Z w σ (evA E tm x) [a.eval x]:=evA_op hg hs ht (by simp[ho,Op.operands])
  rw[hx]at hv
  obtain⟨b,s,c,e,h5⟩:=hv
  simp only[List.cons.injEq,and_true]at e
  exact⟨_,by simp[execOp,ho,e],b,s,c,rfl,h5⟩
 ·rename_i e xs i q hx
  refine⟨_,h,OpSnd.pure rfl rfl fun tm' hp' Z w σ a ht hh hs=>?_⟩
  have hv:VR Z w σ (evA E tm x) [a.eval x]:=evA_op hg hs ht (by simp[ho,Op.operands])
  rw[hx]at hv
  obtain⟨b,s,e,h5⟩:=hv
  simp only[List.cons.injEq,and_true]at e
  exact⟨_,by simp[execOp,ho,e],b,s,rfl,h5⟩
 ·rename_i f c hx
  refine⟨_,h,OpSnd.pure rfl rfl fun tm' hp' Z w σ a ht hh hs=>?_⟩
  have hv:VR Z w σ (evA E tm x) [a.eval x]:=evA_op hg hs ht (by simp[ho,Op.operands])
  rw[hx]at hv
  obtain⟨c',e,h5⟩:=hv
  simp only[List.cons.injEq,and_true]at e
  exact⟨_,by simp[execOp,ho,e],c',rfl,h5⟩
 ·cases h
theorem snd_makeFunc (hg:E.gl=gv) {f:FuncId} {first caps:Array Operand} (ho:o.op= .makeFunc (.func f) first caps) (h:(if first.isEmpty then K { v:= .clo f (avs E tm caps.toList) } else none)=some r):Snd P gv o tm hp n K r:=by
 split at h
 case isFalse=>cases h
 rename_i hc
 refine⟨_,h,OpSnd.pure rfl rfl fun tm' hp' Z w σ a ht hh hs=>?_⟩
 obtain⟨h1,h2⟩:=avs_op hg hs ht (l:=caps.toList) (fun x hx=>by simp[ho,Op.operands];exact .inr (by simpa using hx))
 have hf:first= #[]:=by simpa using hc
 subst hf
 exact⟨.func (.func f) #[] (caps.map a.eval),by simp[execOp,ho,Instr.makeFunc],_,rfl,by simpa using h1,h2⟩
theorem prs_op (hg:E.gl=gv) (h:SR gv Z w σ tm' hp' a) (ht: ∀t∈opT o,tm' t=tm t): ∀{l:List (Nat×Operand)},(∀x∈l,x.2∈o.op.operands)→
  prs Z w σ (l.map fun q=>(q.1,evA E tm q.2)) (l.map fun q=>(q.1,a.eval q.2))
 | [],_=>trivial
 | x::l,hl=>⟨rfl,evA_op hg h ht (hl x (by simp)),prs_op hg h ht fun y hy=>hl y (by simp[hy])⟩
theorem mapM_places (hE:EnvOk P E): ∀(fs:List Field),(∀f∈fs,(P.info? f.type).isSome=true)→
  ∃l,(fs.mapM fun(f:Field)=>(do pure (f.offset, ←sizeOf f.type):Sem (Nat×Nat))).run P w= .ok l w∧l.length=fs.length∧ ∀(i:Nat) (f:Field),fs[i]?=some f→ ∃inf,P.info? f.type=some inf∧l[i]?=some (f.offset,inf.size)
 | [],_=>⟨[],by simp,rfl,fun i f h=>by simp at h⟩
 | f::fs,h=>by
  obtain⟨l,h1,h2,h3⟩:=mapM_places hE fs fun g hg=>h g (by simp[hg])
  obtain⟨inf,hi⟩:=Option.isSome_iff_exists.1 (h f (by simp))
  refine⟨(f.offset,inf.size)::l,?_,by simp[h2],fun i g hg=>?_⟩
  ·have hf:(do pure (f.offset, ←sizeOf f.type):Sem (Nat×Nat)).run P w= .ok (f.offset,inf.size) w:=by simp[sizeOf,typeInfo,hi]
   rw[List.mapM_cons,Sem.run_bind,hf,Result.andThen_ok,Sem.run_bind,h1]
   rfl
  ·cases i with
   | zero=>simp only[List.getElem?_cons_zero,Option.some.injEq]at hg;subst hg;exact⟨inf,hi,rfl⟩
   | succ i=>simpa using h3 i g (by simpa using hg)
theorem snd_build (hE:EnvOk P E) (hg:E.gl=gv) {t:Nat} {ps:Array (Nat×Operand)} (ho:o.op= .build t ps) (h:(bif (E.ti t).agg then match fillE (E.ti t).z (places E t) (parts E tm ps)with
  | some cs=>K { v:= .agg cs }
  | none=>none
  else none)=some r):Snd P gv o tm hp n K r:=by
 obtain⟨hagg,h⟩:=bif_spec h
 split at h
 case h_2=>cases h
 rename_i cs hfill
 refine⟨_,h,OpSnd.pure rfl rfl fun tm' hp' Z w σ a ht hh hs=>?_⟩
 have hp:=prs_op (E:=E) hg hs ht (l:=ps.toList) (fun x hx=>by
  simp only[ho,Op.operands]
  exact List.mem_toArray.2 (List.mem_map.2 ⟨x,by simpa using hx,rfl⟩))
 cases hu:(E.ti t).u
 case st fs=>
  have hok:=ok_of_u hu (by simp)
  obtain⟨i,z,d,i1,i2,i3,i4,i5,i6,i7,i8,i9,i10,i11⟩:=tiChk_info (hE.tab t hok)
  obtain⟨gs,u1,u2⟩:=und_st (hE.tab t hok) hu
  rw[i7]at u1
  cases u1
  simp only[dChk,List.all_eq_true]at i10
  obtain⟨l,m1,m2,m3⟩:=mapM_places (w:=w) hE gs.toList i10
  have hpl: ∀k q,places E t k=some q→(fun k=>l.toArray[k]?) k=some q:=by
   intro k q hq
   unfold places at hq
   rw[hu]at hq
   simp only at hq
   split at hq
   case h_2=>cases hq
   rename_i off ft hf
   rw[←u2,List.getElem?_map,Option.map_eq_some_iff]at hf
   obtain⟨fd,f1,f2⟩:=hf
   cases f2
   cases hft:(E.ti fd.type).ok
   ·rw[hft]at hq;cases hq
   rw[hft]at hq
   simp only[cond_true,Option.some.injEq]at hq
   subst hq
   obtain⟨inf,f3,f4⟩:=m3 k fd f1
   obtain⟨i',z',d',j1,j2,_⟩:=tiChk_info (hE.tab _ hft)
   rw[f3]at j1
   cases j1
   simpa[j2]using f4
  obtain⟨d,f1,f2,f3,_⟩:=fillE_snd hpl hfill (zChk_VR i5) (zChk_isL i5) hp
  refine⟨.agg d,?_,_,rfl,f2,f3⟩
  have hmm:(gs.mapM fun(f:Field)=>(do pure (f.offset, ←sizeOf f.type):Sem (Nat×Nat))).run P w= .ok l.toArray w:=by
   rw[Array.mapM_eq_mapM_toList]
   simp only[Sem.run_map,m1]
   rfl
  simp only[execOp,ho,Instr.build,zeroValue,typeInfo,Sem.run_bind,Sem.run_pure,run_program,Result.andThen_ok,i1,i4,run_underlying i7,hmm]
  have e1:(Array.map (fun q=>(q.1,a.eval q.2)) ps).toList=ps.toList.map fun q=>(q.1,a.eval q.2):=by simp
  simp only[e1,f1,Sem.run_pure,Result.andThen_ok]
 case ar m et=>
  have hok:=ok_of_u hu (by simp)
  obtain⟨i,z,d,i1,i2,i3,i4,i5,i6,i7,i8,i9,i10,i11⟩:=tiChk_info (hE.tab t hok)
  have u1:=und_ar (hE.tab t hok) hu
  rw[i7]at u1
  cases u1
  simp only[dChk]at i10
  obtain⟨inf,hi⟩:=Option.isSome_iff_exists.1 i10
  have hpl: ∀k q,places E t k=some q→(fun k=>some (k*inf.size,inf.size)) k=some q:=by
   intro k q hq
   unfold places at hq
   rw[hu]at hq
   simp only at hq
   split at hq
   case isFalse=>cases hq
   rename_i hk
   cases hq
   obtain⟨i',z',d',j1,j2,_⟩:=tiChk_info (hE.tab _ hk.2)
   rw[hi]at j1
   cases j1
   simp[j2]
  obtain⟨d,f1,f2,f3,_⟩:=fillE_snd hpl hfill (zChk_VR i5) (zChk_isL i5) hp
  refine⟨.agg d,?_,_,rfl,f2,f3⟩
  have e1:(Array.map (fun q=>(q.1,a.eval q.2)) ps).toList=ps.toList.map fun q=>(q.1,a.eval q.2):=by simp
  simp only[execOp,ho,Instr.build,zeroValue,typeInfo,sizeOf,Sem.run_bind,Sem.run_pure,run_program,Result.andThen_ok,i1,i4,run_underlying i7,hi,e1,f1]
 all_goals
  unfold TI.agg at hagg
  rw[hu]at hagg
  cases hagg
end
section
variable {gv:Nat→AV} {Z Z':Nat→Prop} {w w':World} {σ σ':Nat→Sh} {hp hp':Nat→Ob}
theorem MR.step (m:MR gv Z w σ hp) (ch:Nat→Prop) (mv fr:Nat→Nat→Prop) (hos:w'.os=w.os) (htape:w'.tape=w.tape) (hout:w'.output=w.output) (hsize:w.heap.size≤w'.heap.size)
  (hw: ∀b,b<w.heap.size→ ¬owned σ hp b→w'.heap[b]?=w.heap[b]?) (hz1: ∀b,Z b→Z' b) (hz2: ∀b,Z' b→Z b∨owned σ hp b∨w.heap.size≤b) (hz3: ∀b,Z' b→b<w'.heap.size)
  (hs: ∀h,Sle (σ' h) (σ h))
  (hkeep: ∀h, ¬ch h→hp' h=hp h∧σ' h=σ h∧ ∀b,blks (hp h) (σ h) b→w'.heap[b]?=w.heap[b]?∧ ¬Z' b)
  (hch: ∀h,ch h→(σ' h≠ .un→OR Z' w' σ' (hp' h) (σ' h))∧(σ' h= .un→hp' h= .dead)∧ ∀b,blks (hp' h) (σ' h) b→(∃g,mv g h∧blks (hp g) (σ g) b)∨fr h b)
  (hmv0: ∀h, ¬ch h→mv h h) (hmv: ∀g h h',mv g h→mv g h'→h=h') (hf: ∀h b,fr h b→w.heap.size≤b) (hff: ∀h h' b,fr h b→fr h' b→h=h'):
  MR gv Z' w' σ' hp'∧Ext Z w σ hp Z' w' σ' hp':=by
 have hk:Kept Z w Z' w':=⟨hz1,fun b hb=>hw b (m.zlt b hb) fun ho=>(m.olt ho).2 hb⟩
 have hb: ∀h b,blks (hp' h) (σ' h) b→(∃g,mv g h∧blks (hp g) (σ g) b)∨fr h b:=by
  intro h b hb
  by_cases hc:ch h
  ·exact(hch h hc).2.2 b hb
  ·obtain⟨e1,e2,_⟩:=hkeep h hc
   rw[e1,e2]at hb
   exact .inl ⟨h,hmv0 h hc,hb⟩
 refine⟨⟨?_,?_,?_,hz3,fun g=>(m.gl g).mono hk fun h _=>hs h⟩,⟨hos,htape,hout,hsize,hw,hz1,hz2,?_⟩⟩
 ·intro h hne
  by_cases hc:ch h
  ·exact(hch h hc).1 hne
  ·obtain⟨e1,e2,e3⟩:=hkeep h hc
   rw[e1,e2]
   exact(m.ob h (by rw[←e2];exact hne)).kept hk (fun g _=>hs g) (fun b hb=>(e3 b hb).1) (fun b hb=>(e3 b hb).2)
 ·intro h hu
  by_cases hc:ch h
  ·exact(hch h hc).2.1 hu
  ·obtain⟨e1,e2,_⟩:=hkeep h hc
   rw[e1]
   exact m.un h (by rw[←e2];exact hu)
 ·intro h h' b h1 h2
  rcases hb h b h1 with ⟨g,m1,b1⟩|f1<;>rcases hb h' b h2 with ⟨g',m2,b2⟩|f2
  ·have:=m.sep g g' b b1 b2
   subst this
   exact hmv g h h' m1 m2
  ·have h3:=(m.olt ⟨g,b1⟩).1
   have h4:=hf _ _ f2
   omega
  ·have h3:=(m.olt ⟨g',b2⟩).1
   have h4:=hf _ _ f1
   omega
  ·exact hff _ _ _ f1 f2
 ·rintro b ⟨h,h1⟩
  rcases hb h b h1 with ⟨g,_,b1⟩|f1
  ·exact .inl ⟨g,b1⟩
  ·exact .inr (hf _ _ f1)
end
def Frz (Z:Nat→Prop) (w:World) (p:Pl) (e:Ty) (xs:List e.den):Prop:=xs=[]∨ ∃b s m,p=some (b,s,m)∧Z b∧RowAt Z w b s e xs
def ZF (Z:Nat→Prop) (σ:Nat→Sh) (hp:Nat→Ob) (fs:List Nat) (b:Nat):Prop:=Z b∨ ∃h∈fs,blks (hp h) (σ h) b
def shF (o:Ob) (s:Sh):Sh:=match o with
 | .L _ _=>s
 | .F _ _=>s
 | .N _ none _ _ _=>match s with
  | .S sz n p _=> .S sz n p none
  | s=>s
 | _=> .no
section
variable {gv:Nat→AV} {Z Z':Nat→Prop} {w w':World} {σ σ':Nat→Sh} {hp hp':Nat→Ob}
theorem Frz.own {p:Pl} {e:Ty} {xs:List e.den} (h:Own Z w p e xs) (k:Kept Z w Z' w) (hz: ∀b,plB p b→Z' b):Frz Z' w p e xs:=by
 match p,h with
 | none,h=>exact .inl h
 | some (b,s,m),⟨h1,h2,h3,h4⟩=>exact .inr ⟨b,s,m,rfl,hz b rfl,h4.kept k rfl⟩
theorem Frz.kept {p:Pl} {e:Ty} {xs:List e.den} (h:Frz Z w p e xs) (k:Kept Z w Z' w'):Frz Z' w' p e xs:=by
 rcases h with h|⟨b,s,m,h1,h2,h3⟩
 ·exact .inl h
 ·exact .inr ⟨b,s,m,h1,k.z b h2,h3.kept k (k.same b h2)⟩
theorem win_eq {α:Type} (xs:List α) (off len:Option Nat) (h:ofs off+slenN xs.length off len≤xs.length):win xs off len=(xs.take (ofs off+slenN xs.length off len)).drop (ofs off):=by
 rw[List.drop_take]
 cases off<;>cases len<;>simp_all [win,ofs,slenN]
 apply (List.take_of_length_le _).symm
 rw[List.length_drop]
 omega
theorem win_len {α:Type} (xs:List α) (off len:Option Nat) (h:ofs off+slenN xs.length off len≤xs.length):(win xs off len).length=slenN xs.length off len:=by
 rw[win_eq xs off len h,List.length_drop,List.length_take]
 omega
theorem PV_hdr {p:Pl} {e:Ty} {xs:List e.den} (h:Frz Z w p e xs) {off len:Option Nat} {v:Value} (hv:Hdr e.sz p (ofs off) (slenN xs.length off len) v) (hle:ofs off+slenN xs.length off len≤xs.length):
  PV Z w (.sl e) (win xs off len) [v]:=by
 have hl:=win_len xs off len hle
 obtain⟨a,c,rfl,hn,hc⟩:=hv
 refine⟨a,c,by rw[hl],by rw[hl];exact hn,?_⟩
 rw[hl]
 rcases h with h|⟨b,s,m,rfl,hz,hr⟩
 ·subst h
  exact .inl (by simp at hle ⊢;omega)
 ·rcases hc with hc|⟨b',s',m',e1,rfl,_⟩
  ·exact .inl (by omega)
  ·cases e1
   refine .inr ⟨b,_,rfl,hz,?_⟩
   show RowAt Z w b (s+ofs off*e.sz) e (win xs off len)
   rw[win_eq xs off len hle]
   exact hr.cut
theorem Rws.frz {e:Ty} {st:List (List e.den)} {pd:Option (Nat×List e.den)} {p:Pl} {r:NI} (h:Rws Z w e none st pd p r) (k:Kept Z w Z' w)
  (hz: ∀b,plB p b∨(∃i,i<st.length∧plB (r.row i).1 b)→Z' b):Frz Z' w p (.sl e) st:=by
 cases hp:p with
 | none=>
  refine .inl ?_
  cases st with
  | nil=>rfl
  | cons a b=>
   obtain⟨_,_,_,_,e,_⟩:=h.head 0 (by simp[numOf])
   rw[hp]at e
   cases e
 | some q=>
  obtain⟨b,s,m⟩:=q
  refine .inr ⟨b,s,m,rfl,hz b (.inl (by rw[hp];rfl)),fun i x hx=>?_⟩
  have hi:i<st.length:=(List.getElem?_eq_some_iff.1 hx).1
  obtain⟨b',s',m',v,e1,h1,h2⟩:=h.head i hi
  rw[hp]at e1
  cases e1
  refine⟨[v],?_,fun j u hj=>?_⟩
  ·have h3:=h.len i x hx
   have h4:Frz Z' w (r.row i).1 e x:=Frz.own (h.own i x hx) k fun b hb=>hz b (.inr ⟨i,hi,hb⟩)
   have h5:idAt none i=i:=rfl
   rw[h5,h3]at h2
   have:=PV_hdr (off:=none) (len:=none) h4 (v:=v) h2 (by simp[ofs,slenN])
   simpa[win]using this
  ·cases j with
   | zero=>
    simp only[List.getElem?_cons_zero,Option.some.injEq]at hj
    subst hj
    simpa[Ty.sz]using h1
   | succ j=>simp at hj
theorem Rws.rowFrz {e:Ty} {ids:Option (List Nat)} {st:List (List e.den)} {pd:Option (Nat×List e.den)} {p:Pl} {r:NI} (h:Rws Z w e ids st pd p r) (k:Kept Z w Z' w) (id:Nat)
  (hz: ∀b,id<st.length→plB (r.row id).1 b→Z' b):Frz Z' w (r.row id).1 e (rowOf st id):=by
 rcases Nat.lt_or_ge id st.length with hi|hi
 ·exact Frz.own (h.own id _ (by simp[rowOf,hi])) k fun b hb=>hz b hi hb
 ·exact .inl (by simp[rowOf,List.getElem?_eq_none hi])
theorem ZF_kept (m:MR gv Z w σ hp) (fs:List Nat):Kept Z w (ZF Z σ hp fs) w:=⟨fun _ h=> .inl h,fun _ _=>rfl⟩
theorem MR.sl_data (m:MR gv Z w σ hp) (k:Kept Z w Z' w) {h:Nat} {off len:Option Nat} {l:List Value} (hv:VR Z w σ (.sl h off len) l) (hz: ∀b,blks (hp h) (σ h) b→Z' b):
  (∀e xs,hp h= .L e xs∨hp h= .F e xs→PV Z' w (.sl e) (win xs off len) l∧l.length=1)∧(∀e st v pd,hp h= .N e none st v pd→PV Z' w (.sl (.sl e)) (win st off len) l∧l.length=1):=by
 obtain⟨v,rfl,hv⟩:=hv
 refine⟨fun e xs hh=>⟨?_,rfl⟩,fun e st v0 pd hh=>⟨?_,rfl⟩⟩
 ·rcases hh with hh|hh
  ·obtain⟨p,hs,ho⟩:=m.L hh
   rw[hs]at hv
   obtain⟨h1,h2⟩:=hv
   exact PV_hdr (Frz.own ho k fun b hb=>hz b (by rw[hh,hs];exact hb)) h1 h2
  ·obtain⟨p,hs,ho⟩:=m.F hh
   rw[hs]at hv
   obtain⟨h1,h2⟩:=hv
   exact PV_hdr (Frz.kept (Z:=Z) ho k) h1 h2
 ·obtain⟨p,r,hs,hr,hn⟩:=m.N hh
  rw[hs]at hv
  obtain⟨h1,h2⟩:=hv
  exact PV_hdr (e:= .sl e) (hn.frz k fun b hb=>hz b (by rw[hh,hs];rcases hb with hb|hb;exact .inl hb;exact .inr (.inl hb))) h1 h2
theorem wrs_F (hp:Nat→Ob) (h:Nat): ∀(fs:List Nat) (hp0:Nat→Ob),wrs hp0 (fs.map (toF hp)) h=if h∈fs then(toF hp h).2 else hp0 h
 | [],hp0=>by simp[wrs]
 | g::fs,hp0=>by
  have ih:=wrs_F hp h fs (upd hp0 g (toF hp g).2)
  simp only[List.map_cons,wrs]
  show wrs (upd hp0 g (toF hp g).2) (fs.map (toF hp)) h=_
  rw[ih]
  by_cases h1:h∈fs
  ·simp[h1]
  ·by_cases h2:h=g
   ·subst h2
    simp[h1,upd]
   ·have:Nat.beq h g=false:=by
     cases hb:Nat.beq h g
     ·rfl
     ·exact absurd (Nat.eq_of_beq_eq_true hb) h2
    simp[h1,h2,upd,this]
theorem toF_OR (m:MR gv Z w σ hp) (k:Kept Z w Z' w) {h:Nat} (hl:hp h≠ .dead) (hz: ∀b,blks (hp h) (σ h) b→Z' b):OR Z' w σ' (toF hp h).2 (shF (hp h) (σ h))∧(∀b, ¬blks (toF hp h).2 (shF (hp h) (σ h)) b)∧
  Sle (shF (hp h) (σ h)) (σ h)∧shF (hp h) (σ h)≠ .un:=by
 have hne:σ h≠ .un:=fun e=>hl (m.un h e)
 cases hh:hp h with
 | dead=>exact absurd hh hl
 | L e xs=>
  obtain⟨p,hs,ho⟩:=m.L hh
  have:(toF hp h).2= .F e xs:=by simp[toF,hh]
  rw[this]
  refine⟨⟨p,hs,Frz.own ho k fun b hb=>hz b (by rw[hh,hs];exact hb)⟩,fun b hb=>?_, .same _,hne⟩
  simp only[shF,hs]at hb
  exact hb
 | F e xs=>
  obtain⟨p,hs,ho⟩:=m.F hh
  have:(toF hp h).2= .F e xs:=by simp[toF,hh]
  rw[this]
  refine⟨⟨p,hs,Frz.kept (Z:=Z) ho k⟩,fun b hb=>?_, .same _,hne⟩
  simp only[shF,hs]at hb
  exact hb
 | B cs=>
  have:(toF hp h).2= .dead:=by simp[toF,hh]
  rw[this]
  exact⟨by simp[OR,shF],fun b hb=>hb, .dead _ hne,by simp[shF]⟩
 | N e ids st v pd=>
  cases ids with
  | some l=>
   have:(toF hp h).2= .dead:=by simp[toF,hh]
   rw[this]
   exact⟨by simp[OR,shF],fun b hb=>hb, .dead _ hne,by simp[shF]⟩
  | none=>
   obtain⟨p,r,hs,hr,hn⟩:=m.N hh
   have:(toF hp h).2= .F (.sl e) st:=by simp[toF,hh]
   rw[this,hs]
   refine⟨⟨p,rfl,hn.frz k fun b hb=>hz b (by rw[hh,hs];rcases hb with hb|hb;exact .inl hb;exact .inr (.inl hb))⟩,fun b hb=>hb, .flat _ _ _ _,by simp[shF]⟩
theorem MR.frz (m:MR gv Z w σ hp) (fs:List Nat) (hl: ∀h∈fs,hp h≠ .dead): ∃σ',MR gv (ZF Z σ hp fs) w σ' (wrs hp (fs.map (toF hp)))∧Ext Z w σ hp (ZF Z σ hp fs) w σ' (wrs hp (fs.map (toF hp)))∧
  (∀h,Sle (σ' h) (σ h))∧(∀h,σ' h= .un↔σ h= .un)∧(∀h,h∉fs→σ' h=σ h)∧(∀h∈fs, ∀b, ¬blks (wrs hp (fs.map (toF hp)) h) (σ' h) b):=by
 have hσ: ∀h,(if h∈fs then shF (hp h) (σ h)else σ h)=if h∈fs then shF (hp h) (σ h)else σ h:=fun _=>rfl
 have hT: ∀h∈fs,_:=fun h hh=>toF_OR (σ':=fun h=>if h∈fs then shF (hp h) (σ h)else σ h) m (ZF_kept m fs) (hl h hh) (fun b hb=> .inr ⟨h,hh,hb⟩)
 have hstep:=MR.step (σ':=fun h=>if h∈fs then shF (hp h) (σ h)else σ h) (hp':=wrs hp (fs.map (toF hp))) (Z':=ZF Z σ hp fs) (w':=w) m (· ∈fs) (fun g h=>g=h) (fun _ _=>False) rfl rfl rfl (Nat.le_refl _) (fun _ _ _=>rfl) (fun _ h=> .inl h)
  (fun b hb=>by
   rcases hb with hb|⟨h,_,hb⟩
   ·exact .inl hb
   ·exact .inr (.inl ⟨h,hb⟩))
  (fun b hb=>by
   rcases hb with hb|⟨h,_,hb⟩
   ·exact m.zlt b hb
   ·exact(m.olt ⟨h,hb⟩).1)
  (fun h=>by
   by_cases hh:h∈fs
   ·simp only[if_pos hh]
    exact(hT h hh).2.2.1
   ·simp only[if_neg hh]
    exact .same _)
  (fun h hh=>by
   refine⟨by rw[wrs_F,if_neg hh],by simp only[if_neg hh],fun b hb=>⟨rfl,fun hz=>?_⟩⟩
   rcases hz with hz|⟨g,hg,hz⟩
   ·exact(m.olt ⟨h,hb⟩).2 hz
   ·exact hh (m.sep h g b hb hz▸hg))
  (fun h hh=>by
   rw[wrs_F,if_pos hh]
   simp only[if_pos hh]
   exact⟨fun _=>(hT h hh).1,fun e=>absurd e (hT h hh).2.2.2,fun b hb=>absurd hb ((hT h hh).2.1 b)⟩)
  (fun _ _=>rfl) (fun g h h' e1 e2=>e1.symm.trans e2) (fun _ _ h=>h.elim) (fun _ _ _ h=>h.elim)
 refine⟨_,hstep.1,hstep.2,fun h=>?_,fun h=>?_,fun h hh=>by simp only[if_neg hh],fun h hh b hb=>?_⟩
 ·by_cases hh:h∈fs
  ·simp only[if_pos hh]
   exact(hT h hh).2.2.1
  ·simp only[if_neg hh]
   exact .same _
 ·by_cases hh:h∈fs
  ·simp only[if_pos hh]
   exact⟨fun e=>absurd e (hT h hh).2.2.2,fun e=>absurd (m.un h e) (hl h hh)⟩
  ·simp only[if_neg hh]
 ·rw[wrs_F,if_pos hh]at hb
  simp only[if_pos hh]at hb
  exact(hT h hh).2.1 b hb
theorem frz_VR (m:MR gv Z w σ hp') (k:Kept Z w Z' w): ∀{v v':AV} {fs:List Nat} {l:List Value},frz hp v=some (v',fs)→(∀h∈fs,hp' h=hp h)→(∀h∈fs, ∀b,blks (hp' h) (σ h) b→Z' b)→
  VR Z w σ v l→VR Z' w σ' v' l∧(∀h∈fs,hp' h≠ .dead)∧hs v'=[]∧(isL v=true→isL v'=true)
 | .sl g off len,v',fs,l,h,hh,hz,hv=>by
  simp only[frz]at h
  split at h
  ·rename_i e xs hg
   cases h
   have h1:=hh g (by simp)
   obtain⟨h2,h3⟩:=(m.sl_data k hv (hz g (by simp))).1 e xs (.inl (h1.trans hg))
   exact⟨⟨h3,h2⟩,fun h hh=>by simp at hh;subst hh;rw[h1,hg];simp,rfl,fun h=>by cases h⟩
  ·rename_i e xs hg
   cases h
   have h1:=hh g (by simp)
   obtain⟨h2,h3⟩:=(m.sl_data k hv (hz g (by simp))).1 e xs (.inr (h1.trans hg))
   exact⟨⟨h3,h2⟩,fun h hh=>by simp at hh;subst hh;rw[h1,hg];simp,rfl,fun h=>by cases h⟩
  ·rename_i e st u pd hg
   cases h
   have h1:=hh g (by simp)
   obtain⟨h2,h3⟩:=(m.sl_data k hv (hz g (by simp))).2 e st u pd (h1.trans hg)
   exact⟨⟨h3,h2⟩,fun h hh=>by simp at hh;subst hh;rw[h1,hg];simp,rfl,fun h=>by cases h⟩
  ·cases h
 | .p t x,v',fs,l,h,hh,hz,hv=>by
  cases h
  exact⟨⟨hv.1,hv.2.kept k⟩,fun h hh=>by simp at hh,rfl,id⟩
 | .nil,v',fs,l,h,hh,hz,hv=>by
  cases h
  exact⟨hv,fun h hh=>by simp at hh,rfl,id⟩
 | .e0,v',fs,l,h,hh,hz,hv=>by
  cases h
  exact⟨hv,fun h hh=>by simp at hh,rfl,id⟩
 | .cn a b,v',fs,l,h,hh,hz,hv=>by
  simp only[frz]at h
  split at h
  case h_2=>cases h
  rename_i a' l1 ha
  split at h
  case h_2=>cases h
  rename_i b' l2 hb
  cases h
  obtain⟨u,r,rfl,h1,h2,il⟩:=hv
  obtain⟨k1,k2,k3,_⟩:=frz_VR m k ha (fun h hm=>hh h (by simp[hm])) (fun h hm=>hz h (by simp[hm])) h1
  obtain⟨k4,k5,k6,k7⟩:=frz_VR m k hb (fun h hm=>hh h (by simp[hm])) (fun h hm=>hz h (by simp[hm])) h2
  exact⟨⟨u,r,rfl,k1,k4,k7 il⟩,fun h hm=>by rcases List.mem_append.1 hm with hm|hm;exact k2 h hm;exact k5 h hm,by simp[hs,k3,k6],fun _=>rfl⟩
 | .agg cs,v',fs,l,h,hh,hz,hv=>by
  simp only[frz]at h
  split at h
  case h_2=>cases h
  rename_i c' l1 hc
  cases h
  obtain⟨c,rfl,h1,il⟩:=hv
  obtain⟨k1,k2,k3,k4⟩:=frz_VR m k hc hh hz h1
  exact⟨⟨c,rfl,k1,k4 il⟩,k2,k3,fun h=>by cases h⟩
 | .any,_,_,_,h,_,_,_=>by cases h
 | .k _,_,_,_,h,_,_,_=>by cases h
 | .ptr _ _ _,_,_,_,h,_,_,_=>by cases h
 | .row _ _ _ _ _,_,_,_,h,_,_,_=>by cases h
 | .prw _ _ _ _ _,_,_,_,h,_,_,_=>by cases h
 | .pap _ _,_,_,_,h,_,_,_=>by cases h
 | .tup _,_,_,_,h,_,_,_=>by cases h
 | .clo _ _,_,_,_,h,_,_,_=>by cases h
 | .rp _ _,_,_,_,h,_,_,_=>by cases h
 | .rl _ _ _ _,_,_,_,h,_,_,_=>by cases h
end
end Go.Proofs.YtkeiedikiiccpaaGreatDoor.Am
