/- A part of the proof of ScrubMade: lemmas. No conditions beyond those of each lemma. -/
import Derived.Test.YtkeiedikiiccpaaGreatDoorK6
set_option linter.all false
namespace Go.Proofs.YtkeiedikiiccpaaGreatDoor.Am
open Go
theorem wrs_base: ∀(l:List (Nat×Ob)) {f g:Nat→Ob} {k:Nat},f k=g k→wrs f l k=wrs g l k
 | [],_,_,_,h=>h
 | (h,o)::l,f,g,k,e=>by
  simp only[wrs]
  refine wrs_base l ?_
  by_cases hk:k=h
  ·subst hk
   rw[upd_same,upd_same]
  ·rw[upd_ne _ _ hk,upd_ne _ _ hk,e]
theorem wrs_filter {n k:Nat} (hk:k≠n): ∀(l:List (Nat×Ob)) (hp:Nat→Ob),wrs hp (l.filter fun q=>!Nat.beq q.1 n) k=wrs hp l k
 | [],hp=>rfl
 | (h,o)::l,hp=>by
  rw[List.filter_cons]
  by_cases hh:h=n
  ·subst hh
   simp only[Nat.beq_refl,Bool.not_true,Bool.false_eq_true,if_false,wrs]
   rw[wrs_filter hk l hp]
   exact wrs_base l (by rw[upd_ne _ _ hk])
  ·have:Nat.beq h n=false:=by
    cases hb:Nat.beq h n
    ·rfl
    ·exact absurd (Nat.eq_of_beq_eq_true hb) hh
   simp only[this,Bool.not_false,if_true,wrs]
   exact wrs_filter hk l _
section
variable {P:Program} {E:Env} {gv:Nat→AV} {hp:Nat→Ob} {n:Nat}
theorem rowArg_spec {Z:Nat→Prop} {w:World} {σ σ1:Nat→Sh} (hsl: ∀h,Sle (σ1 h) (σ h)) {h id v:Nat}: ∀{own:List Bool} {args args':AV} {vs:List Value},rowArg n own args=some (h,id,v,args')→VR Z w σ args vs→
  (∀u,HV (σ h) (.row h id none none v) u→HV (σ1 n) (.sl n none none) u)→VR Z w σ1 args' vs∧isL args'=true∧σ h≠ .un
 | own,args,args',vs,e,hv,hx=>by
  unfold rowArg at e
  split at e
  ·rename_i a b c d f g
   cases e
   obtain⟨u,r,rfl,h1,h2,il⟩:=hv
   obtain⟨u',e1,h1⟩:=h1
   cases e1
   refine⟨⟨u,r,rfl,⟨u,rfl,hx u h1⟩,h2.mono (Kept.refl Z w) fun g _=>hsl g,il⟩,rfl,fun e=>?_⟩
   rw[e]at h1
   exact h1.elim
  ·rename_i x own' a b _
   split at e
   case h_2=>cases e
   rename_i h' id' v' b' hb
   cases e
   obtain⟨u,r,rfl,h1,h2,il⟩:=hv
   obtain⟨k1,k2,k3⟩:=rowArg_spec hsl hb h2 hx
   exact⟨⟨u,r,rfl,h1.mono (Kept.refl Z w) fun g _=>hsl g,k1,k2⟩,rfl,k3⟩
  ·cases e
theorem callE_snd (hO: ∀f s sp,E.orc f s=some sp→Impl P gv f sp) (hgv: ∀g,hs (gv g)=[]) {f:Nat} {args:AV} {K:Eff→Option FRes} {r0:FRes} (h:callE E hp n f args K=some r0):
  ∃sp,Impl P gv f sp∧ ∃e,K e=some r0∧ ∀(hp':Nat→Ob) (Z:Nat→Prop) (w:World) (σ:Nat→Sh) (vs:Array Value),MR gv Z w σ hp'→(∀h∈e.rd,hp' h=hp h)→(∀h∈news n e.nw,σ h= .un)→VR Z w σ args vs.toList→Calls P f vs w (CallOk gv Z w σ hp' n e):=by
 unfold callE at h
 split at h
 case h_2=>cases h
 rename_i sp hsp
 have hI:=hO f _ sp hsp
 refine⟨sp,hI,?_⟩
 split at h
 case h_2=>exact callS_snd hI hgv h
 rename_i g id v args' hra
 split at h
 case h_2=>cases h
 rename_i e ids st ww pd hg
 split at h
 case isFalse=>cases h
 rename_i hvw
 subst hvw
 obtain⟨x,hK,hx⟩:=callS_snd hI hgv h
 split at hK
 case h_2=>cases hK
 rename_i e' xs hlk
 split at hK
 case h_2=>cases hK
 rename_i ys hcast
 split at hK
 case isTrue=>cases hK
 rename_i hgrd
 have hgrd:g∉x.rd:=fun hm=>hgrd (List.contains_iff_mem.2 hm)
 obtain⟨he,hzz⟩:=cast_list hcast
 subst he
 have hzz:xs=ys:=hzz
 subst hzz
 refine⟨_,hK,fun hp' Z w σ vs m hrd hnw hvs=>?_⟩
 have hg':hp' g= .N e' ids st v pd:=(hrd g (by simp)).trans hg
 obtain⟨p,q,a1,a2,a3⟩:=m.N hg'
 have hn:σ n= .un:=hnw n (by simp[news])
 have hng:n≠g:=fun e=>by rw[e,a1]at hn;cases hn
 have hrl:=a3.lenOf id
 have hin: ∀b,plB (q.row id).1 b→id<st.length:=fun b hb=>by
  rcases Nat.lt_or_ge id st.length with hi|hi
  ·exact hi
  ·rw[a3.out id hi]at hb
   exact hb.elim
 have hro:Own Z w (q.row id).1 e' (rowOf st id):=by
  rcases Nat.lt_or_ge id st.length with hi|hi
  ·exact a3.own id _ (by simp[rowOf,hi])
  ·rw[a3.out id hi]
   simp[Own,rowOf,List.getElem?_eq_none hi]
 have hbl: ∀b,plB (q.row id).1 b→blks (hp' g) (σ g) b:=fun b hb=>by rw[hg',a1];exact .inr (.inl ⟨id,hin b hb,hb⟩)
 have hsle1: ∀h,Sle (upd σ n (.S e'.sz (rowOf st id).length (q.row id).1 none) h) (σ h):=fun h=>by
  by_cases h1:h=n
  ·subst h1
   rw[hn]
   exact .new _
  ·rw[upd_ne _ _ h1]
   exact .same _
 have hstep:=MR.step (w':=w) (Z':=Z) (σ':=upd σ n (.S e'.sz (rowOf st id).length (q.row id).1 none)) (hp':=upd (upd hp' g .dead) n (.L e' (rowOf st id))) m (fun h=>h=n∨h=g) (fun a b=>(a=g∧b=n)∨(a≠g∧b=a)) (fun _ _=>False) rfl rfl rfl (Nat.le_refl _) (fun _ _ _=>rfl) (fun _ h=>h) (fun _ h=> .inl h) m.zlt hsle1
  (fun h hh=>by
   have h1:h≠n:=fun e=>hh (.inl e)
   have h2:h≠g:=fun e=>hh (.inr e)
   exact⟨by rw[upd_ne _ _ h1,upd_ne _ _ h2],by rw[upd_ne _ _ h1],fun b hb=>⟨rfl,(m.olt ⟨h,hb⟩).2⟩⟩)
  (fun h hh=>by
   by_cases h1:h=n
   ·subst h1
    rw[upd_same,upd_same]
    exact⟨fun _=>⟨_,rfl,hro⟩,fun e=>(by cases e),fun b hb=> .inl ⟨g, .inl ⟨rfl,rfl⟩,hbl b hb⟩⟩
   ·have h2:=hh.resolve_left h1
    subst h2
    rw[upd_ne _ _ h1,upd_ne _ _ h1,upd_same,a1]
    exact⟨fun _=>(by simp[OR]),fun e=>(by cases e),fun b hb=>hb.elim⟩)
  (fun h hh=> .inr ⟨fun e=>hh (.inr e),rfl⟩)
  (fun a b c e1 e2=>by
   rcases e1 with ⟨b1,b2⟩|⟨b1,b2⟩<;>rcases e2 with ⟨c1,c2⟩|⟨c1,c2⟩
   ·exact b2.trans c2.symm
   ·exact absurd b1 c1
   ·exact absurd c1 b1
   ·exact b2.trans c2.symm)
  (fun _ _ h=>h.elim) (fun _ _ _ h=>h.elim)
 obtain⟨m1,x1⟩:=hstep
 obtain⟨r1,r2,r3⟩:=rowArg_spec (σ:=σ) hsle1 hra hvs fun u hu=>by
  rw[a1]at hu
  obtain⟨_,hu⟩:=hu
  obtain⟨hu,hle⟩:=hu a2.symm
  rw[upd_same]
  rw[hrl]at hu hle
  rw[a3.sz]at hu
  exact⟨hu,hle⟩
 have hrd1: ∀h∈x.rd,upd (upd hp' g .dead) n (.L e' (rowOf st id)) h=upd (upd hp g .dead) n (.L e' (rowOf st id)) h:=fun h hh=>by
  by_cases h1:h=n
  ·subst h1;rw[upd_same,upd_same]
  ·rw[upd_ne _ _ h1,upd_ne _ _ h1]
   by_cases h2:h=g
   ·subst h2;rw[upd_same,upd_same]
   ·rw[upd_ne _ _ h2,upd_ne _ _ h2]
    refine hrd h (List.mem_cons.2 (.inr (List.mem_filter.2 ⟨hh,?_⟩)))
    cases hb:Nat.beq h n
    ·rfl
    ·exact absurd (Nat.eq_of_beq_eq_true hb) h1
 have hnn: ∀h∈news (n+1) x.nw,h≠n∧h≠g∧σ h= .un:=fun h hh=>by
  have h1:=mem_news.1 hh
  have h2:σ h= .un:=hnw h (by simp only[news,List.mem_cons];exact .inr hh)
  exact⟨by omega,fun e=>(by rw[e,a1]at h2;cases h2),h2⟩
 refine Calls.mono (hx _ Z w _ vs m1 hrd1 (fun h hh=>by
  obtain⟨h1,h2,h3⟩:=hnn h hh
  rw[upd_ne _ _ h1]
  exact h3) r1) fun en w' hen=>?_
 cases en with
 | panicked _=>exact hen.elim
 | outgrown=>exact hen.elim
 | returned u=>
 obtain⟨Z',σ2,w1,m2,x2,s2,nw2,k2,un2⟩:=hen
 have hnotnew: ∀h,σ h≠ .un→h∉news (n+1) x.nw:=fun h hh hm=>hh (hnn h hm).2.2
 have hnw1:n∉news (n+1) x.nw:=fun hm=>(hnn n hm).1 rfl
 have hrow2:nws (wrs (upd (upd hp' g .dead) n (.L e' (rowOf st id))) x.wr) (n+1) x.nw n= .L e' xs:=by
  rw[nws_get,if_neg (fun hc=>hnw1 (mem_news.2 hc)), ←hlk]
  exact wrs_base _ (by rw[upd_same,upd_same])
 obtain⟨p2,b1,b2⟩:=m2.L hrow2
 have hsn:=s2 n
 rw[upd_same,b1]at hsn
 have hS:xs.length=(rowOf st id).length∧p2=(q.row id).1:=by
  generalize hl:xs.length=k at hsn
  cases hsn
  exact⟨rfl,rfl⟩
 obtain⟨hS1,hS2⟩:=hS
 rw[hS2]at b2 b1
 have hown1: ∀b,owned (upd σ n (.S e'.sz (rowOf st id).length (q.row id).1 none)) (upd (upd hp' g .dead) n (.L e' (rowOf st id))) b→plB (q.row id).1 b∨ ∃k,k≠g∧k≠n∧blks (hp' k) (σ k) b:=fun b ⟨k,hb⟩=>by
  by_cases h1:k=n
  ·subst h1
   rw[upd_same,upd_same]at hb
   exact .inl hb
  ·rw[upd_ne _ _ h1,upd_ne _ _ h1]at hb
   by_cases h2:k=g
   ·subst h2
    rw[upd_same]at hb
    cases hs:σ k<;>rw[hs]at hb<;>exact hb.elim
   ·rw[upd_ne _ _ h2]at hb
    exact .inr ⟨k,h2,h1,hb⟩
 have hrest: ∀b,blks (hp' g) (σ g) b→ ¬plB (q.row id).1 b→ ¬owned (upd σ n (.S e'.sz (rowOf st id).length (q.row id).1 none)) (upd (upd hp' g .dead) n (.L e' (rowOf st id))) b:=fun b hb hp ho=>by
  rcases hown1 b ho with h1|⟨k,h1,_,h2⟩
  ·exact hp h1
  ·exact h1 (m.sep k g b h2 hb)
 have hrsame: ∀b,blks (hp' g) (σ g) b→ ¬plB (q.row id).1 b→w'.heap[b]?=w.heap[b]?∧ ¬Z' b:=fun b hb hp=>by
  refine⟨x2.same b (m.olt ⟨g,hb⟩).1 (hrest b hb hp),fun hz=>?_⟩
  rcases x2.zn b hz with h1|h1|h1
  ·exact(m.olt ⟨g,hb⟩).2 h1
  ·exact hrest b hb hp h1
  ·have:=(m.olt ⟨g,hb⟩).1
   omega
 have hhead: ∀b,plB p b→blks (hp' g) (σ g) b∧ ¬plB (q.row id).1 b:=fun b hb=>⟨by rw[hg',a1];exact .inl hb,fun hp=>a3.off b id hb (hin b hp) hp⟩
 have hrowj: ∀j b,j<st.length→j≠id→plB (q.row j).1 b→blks (hp' g) (σ g) b∧ ¬plB (q.row id).1 b:=fun j b hj hne hb=>⟨by rw[hg',a1];exact .inr (.inl ⟨j,hj,hb⟩),fun hp=>hne (a3.sep b j id hj (hin b hp) hb hp)⟩
 have hnum:numOf ids (st.set id xs)=numOf ids st:=by cases ids<;>simp[numOf]
 have hN:Rws Z' w' e' ids (st.set id xs) none p { q with pd:=none }:=by
  refine { sz:=a3.sz,out:=fun k hk'=>a3.out k (by simpa using hk'),len:=fun k zs hz=>?_,own:=fun k zs hz=>?_,head:=fun k hk'=>?_,blk:=fun b' s' m' e=>?_,off:=fun b' k hb' hk'=>a3.off b' k hb' (by simpa using hk'),sep:=fun b' k k' hk1 hk2=>a3.sep b' k k' (by simpa using hk1) (by simpa using hk2),pd0:=fun _=>rfl,pd1:=fun _ _ h=>(by cases h) }
  ·by_cases hki:id=k
   ·subst hki
    have hid:id<st.length:=by have:=(List.getElem?_eq_some_iff.1 hz).1;simpa using this
    rw[List.getElem?_set_self hid]at hz
    cases hz
    show(q.row id).2=xs.length
    rw[hS1,hrl]
   ·rw[List.getElem?_set_ne hki]at hz
    exact a3.len k zs hz
  ·by_cases hki:id=k
   ·subst hki
    have hid:id<st.length:=by have:=(List.getElem?_eq_some_iff.1 hz).1;simpa using this
    rw[List.getElem?_set_self hid]at hz
    cases hz
    exact b2
   ·rw[List.getElem?_set_ne hki]at hz
    have hkl:=(List.getElem?_eq_some_iff.1 hz).1
    exact(a3.own k zs hz).kept k2 (fun b' hb'=>(hrsame b' (hrowj k b' hkl (Ne.symm hki) hb').1 (hrowj k b' hkl (Ne.symm hki) hb').2).1) (fun b' hb'=>(hrsame b' (hrowj k b' hkl (Ne.symm hki) hb').1 (hrowj k b' hkl (Ne.symm hki) hb').2).2)
  ·rw[hnum]at hk'
   obtain⟨b',s',m',x0,g1,g2,g3⟩:=a3.head k hk'
   refine⟨b',s',m',x0,g1,?_,g3⟩
   have hb':plB p b':=by simp[g1,plB]
   rw[World.cell?_of_block (w:=w) (a:=⟨b',s'+k,none⟩) (hrsame b' (hhead b' hb').1 (hhead b' hb').2).1]
   exact g2
  ·obtain⟨g1,g2,g3⟩:=a3.blk b' s' m' e
   have hb':plB p b':=by simp[e,plB]
   exact⟨by rw[hnum];exact g1,g2.kept (hrsame b' (hhead b' hb').1 (hhead b' hb').2).1,(hrsame b' (hhead b' hb').1 (hhead b' hb').2).2⟩
 obtain⟨hpF,hhpF⟩: ∃hpF:Nat→Ob,nws (wrs hp' (x.wr.filter (fun q=>!Nat.beq q.1 n)++[(g, .N e' ids (st.set id xs) v none)])) n (.dead::x.nw)=hpF:=⟨_,rfl⟩
 have hF1:hpF n= .dead:=by
  rw[←hhpF,nws_get,if_pos (by simp)]
  simp
 have hF2:hpF g= .N e' ids (st.set id xs) v none:=by
  rw[←hhpF]
  simp only[nws]
  rw[nws_get,if_neg (fun hc=>hnotnew g (by rw[a1];simp) (mem_news.2 hc)),upd_ne _ _ (Ne.symm hng),wrs_app]
  simp only[wrs]
  rw[upd_same]
 have hF3: ∀k,k≠n→k≠g→hpF k=nws (wrs (upd (upd hp' g .dead) n (.L e' (rowOf st id))) x.wr) (n+1) x.nw k:=fun k h1 h2=>by
  rw[←hhpF]
  simp only[nws]
  rw[nws_get,nws_get]
  split
  ·rfl
  ·rw[upd_ne _ _ h1,wrs_app]
   simp only[wrs]
   rw[upd_ne _ _ h2,wrs_filter h1]
   exact wrs_base _ (by rw[upd_ne _ _ h1,upd_ne _ _ h2])
 have hs1: ∀k,k≠n→upd σ n (.S e'.sz (rowOf st id).length (q.row id).1 none) k=σ k:=fun k h1=>by rw[upd_ne _ _ h1]
 have hg2:σ2 g=σ g:=by
  have:=un2 g hgrd (hnotnew g (by rw[a1];simp))
  rw[hs1 g (Ne.symm hng)]at this
  exact this
 obtain⟨σF,hσF⟩: ∃σF:Nat→Sh,upd (upd σ2 n .no) g (.S 1 (numOf ids st) p (some { q with pd:=none }))=σF:=⟨_,rfl⟩
 have hG1:σF n= .no:=by rw[←hσF,upd_ne _ _ hng,upd_same]
 have hG2:σF g= .S 1 (numOf ids st) p (some { q with pd:=none }):=by rw[←hσF,upd_same]
 have hG3: ∀k,k≠n→k≠g→σF k=σ2 k:=fun k h1 h2=>by rw[←hσF,upd_ne _ _ h2,upd_ne _ _ h1]
 have hsF2: ∀k,Sle (σF k) (σ2 k):=fun k=>by
  by_cases h1:k=g
  ·subst h1
   rw[hG2,hg2,a1]
   exact .rows _ _ _ _ _ (.inr ⟨rfl,rfl,rfl, .inr rfl⟩)
  ·by_cases h2:k=n
   ·subst h2
    rw[hG1,b1]
    exact .dead _ (by simp)
   ·rw[hG3 k h2 h1]
    exact .same _
 have hsF: ∀k,Sle (σF k) (σ k):=fun k=>(hsF2 k).trans ((s2 k).trans (hsle1 k))
 have hunF: ∀k,σF k= .un↔σ2 k= .un:=fun k=>by
  by_cases h1:k=g
  ·subst h1
   rw[hG2,hg2,a1]
   simp
  ·by_cases h2:k=n
   ·subst h2
    rw[hG1,b1]
    simp
   ·rw[hG3 k h2 h1]
 have hownF: ∀k,k≠g→ ∀b,blks (hpF k) (σF k) b→k≠n∧blks (nws (wrs (upd (upd hp' g .dead) n (.L e' (rowOf st id))) x.wr) (n+1) x.nw k) (σ2 k) b:=fun k h1 b hb=>by
  by_cases h2:k=n
  ·subst h2
   rw[hF1]at hb
   cases hs:σF k<;>rw[hs]at hb<;>exact hb.elim
  ·rw[hF3 k h2 h1,hG3 k h2 h1]at hb
   exact⟨h2,hb⟩
 have hblN: ∀b,blks (hpF g) (σF g) b→blks (hp' g) (σ g) b:=fun b hb=>by
  rw[hF2,hG2]at hb
  rw[hg',a1]
  rcases hb with hb|⟨j,hj,hb⟩|⟨hb,_⟩
  ·exact .inl hb
  ·exact .inr (.inl ⟨j,by simpa using hj,hb⟩)
  ·cases hb
 have hsepF: ∀k b,k≠g→blks (hpF k) (σF k) b→ ¬blks (hp' g) (σ g) b:=fun k b h1 hb hbg=>by
  obtain⟨h2,hb⟩:=hownF k h1 b hb
  by_cases hp:plB (q.row id).1 b
  ·exact h2 (m2.sep k n b hb (by rw[hrow2,b1];exact hp))
  ·rcases x2.own b ⟨k,hb⟩with h3|h3
   ·exact hrest b hbg hp h3
   ·have:=(m.olt ⟨g,hbg⟩).1
    omega
 have mF:MR gv Z' w' σF hpF:=by
  refine⟨fun k hk=>?_,fun k hk=>?_,fun k k' b h1 h2=>?_,m2.zlt,fun g0=>(m.gl g0).free (hgv g0) k2⟩
  ·by_cases h1:k=g
   ·subst h1
    rw[hF2,hG2]
    exact⟨p,{ q with pd:=none },by rw[hnum],a2,hN⟩
   ·by_cases h2:k=n
    ·subst h2
     rw[hF1,hG1]
     simp[OR]
    ·rw[hF3 k h2 h1]
     have h3:σ2 k≠ .un:=fun e=>hk ((hunF k).2 e)
     have:=(m2.ob k h3).kept (Kept.refl Z' w') (fun j _=>hsF2 j) (fun _ _=>rfl) (fun b hb=>(m2.olt ⟨k,hb⟩).2)
     rw[hG3 k h2 h1]
     exact this
  ·have h3:=(hunF k).1 hk
   have h1:k≠g:=fun e=>by rw[e,hg2,a1]at h3;cases h3
   have h2:k≠n:=fun e=>by rw[e,b1]at h3;cases h3
   rw[hF3 k h2 h1]
   exact m2.un k h3
  ·by_cases e1:k=g
   ·by_cases e2:k'=g
    ·rw[e1,e2]
    ·subst e1
     exact absurd (hblN b h1) (hsepF k' b e2 h2)
   ·by_cases e2:k'=g
    ·subst e2
     exact absurd (hblN b h2) (hsepF k b e1 h1)
    ·exact m2.sep k k' b (hownF k e1 b h1).2 (hownF k' e2 b h2).2
 have ho1: ∀b,owned (upd σ n (.S e'.sz (rowOf st id).length (q.row id).1 none)) (upd (upd hp' g .dead) n (.L e' (rowOf st id))) b→owned σ hp' b:=fun b hb=>by
  rcases hown1 b hb with h1|⟨k,_,_,h1⟩
  ·exact⟨g,hbl b h1⟩
  ·exact⟨k,h1⟩
 subst hhpF
 refine⟨Z',σF,w1.mono (Kept.refl Z' w') fun j _=>hsF2 j,mF,⟨x2.os,x2.tape,x2.out,x2.size,fun b hb hno=>x2.same b hb fun ho=>hno (ho1 b ho),x2.z,fun b hb=>?_,fun b ⟨k,hb⟩=>?_⟩,hsF,⟨fun k hk e=>?_,fun k hk e=>?_,fun k hu hk=>?_⟩,k2,fun k h1 h2=>?_⟩
 ·rcases x2.zn b hb with h1|h1|h1
  ·exact .inl h1
  ·exact .inr (.inl (ho1 b h1))
  ·exact .inr (.inr h1)
 ·by_cases e1:k=g
  ·subst e1
   exact .inl ⟨k,hblN b hb⟩
  ·rcases x2.own b ⟨k,(hownF k e1 b hb).2⟩with h1|h1
   ·exact .inl (ho1 b h1)
   ·exact .inr h1
 ·have h3:=(hunF k).1 e
  have h2:k≠n:=fun e=>hk (by rw[e];exact hn)
  exact nw2.old k (by rw[hs1 k h2];exact hk) h3
 ·have h3:=(hunF k).1 e
  simp only[news,List.mem_cons]at hk
  rcases hk with hk|hk
  ·rw[hk,b1]at h3
   cases h3
  ·exact nw2.new k hk h3
 ·simp only[news,List.mem_cons,not_or]at hk
  exact(hunF k).2 (nw2.no k (by rw[hs1 k hk.1];exact hu) hk.2)
 ·simp only[news,List.mem_cons,not_or]at h1 h2
  rw[hG3 k h2.1 h1.1,un2 k (fun hm=>h1.2 (List.mem_filter.2 ⟨hm,?_⟩)) h2.2,hs1 k h2.1]
  cases hb:Nat.beq k n
  ·rfl
  ·exact absurd (Nat.eq_of_beq_eq_true hb) h2.1
theorem fix1_VR {Z:Nat→Prop} {w:World} {σ:Nat→Sh} {t:Ty} {v:AV} {l:List Value} (h:VR Z w σ v l):VR Z w σ (fix1 t v) l:=by
 unfold fix1
 split
 ·cases h
  exact⟨rfl,none,0,rfl,Nat.le_refl _, .inl rfl⟩
 ·exact h
theorem fixC_VR {Z:Nat→Prop} {w:World} {σ:Nat→Sh}: ∀{t:Ty} {v:AV} {l:List Value},VR Z w σ v l→VR Z w σ (fixC t v) l∧(isL v=true→isL (fixC t v)=true):=by
 intro t v l h
 unfold fixC
 split
 ·rename_i a b v r
  obtain⟨u,q,rfl,h1,h2,il⟩:=h
  have:=fixC_VR (t:=b) h2
  exact⟨⟨u,q,rfl,fix1_VR h1,this.1,this.2 il⟩,fun _=>rfl⟩
 ·obtain⟨u,q,rfl,h1,h2,il⟩:=h
  exact⟨⟨u,q,rfl,fix1_VR h1,h2,il⟩,fun _=>rfl⟩
 ·exact⟨h,id⟩
theorem fixL_VR {Z:Nat→Prop} {w:World} {σ:Nat→Sh}: ∀{ts:List Nat} {v:AV} {l:List Value},VR Z w σ v l→VR Z w σ (fixL E ts v) l∧(isL v=true→isL (fixL E ts v)=true):=by
 intro ts v l h
 unfold fixL
 split
 ·rename_i t ts v r
  obtain⟨u,q,rfl,h1,h2,il⟩:=h
  have:=fixL_VR (ts:=ts) h2
  refine⟨⟨u,q,rfl,?_,this.1,this.2 il⟩,fun _=>rfl⟩
  split
  ·exact fix1_VR h1
  ·obtain⟨c,e,h3,il2⟩:=h1
   have:=fixC_VR (t:=(E.ti t).ec) h3
   exact⟨c,e,this.1,this.2 il2⟩
  ·exact h1
 ·exact⟨h,id⟩
end
section
variable {P:Program} {E:Env} {gv:Nat→AV} {o:Oper} {tm:Nat→AV} {hp:Nat→Ob} {n:Nat} {K:Eff→Option FRes} {r:FRes}
theorem snd_call (hg:E.gl=gv) (hO: ∀f s sp,E.orc f s=some sp→Impl P gv f sp) (hgv: ∀g,hs (gv g)=[]) {c:Call} (ho:o.op= .call c) {x:Operand} (hcal:c.callee= .value x) {f:Nat} {caps:AV} (hx:evA E tm x= .clo f caps)
  (h:callE E hp n f ((fixL E c.argTypes.toList (avs E tm c.args.toList)).app caps) K=some r):Snd P gv o tm hp n K r:=by
 obtain⟨sp,hI,e,hK,hc⟩:=callE_snd hO hgv h
 refine⟨e,hK,?_⟩
 intro tm' hp' Z w σ a h1 h2 _ h4 h5 h6 K' Q hK'
 have hxo:x∈o.op.operands:=by simp[ho,Op.operands,Call.operands,hcal]
 have hv:VR Z w σ (evA E tm x) [a.eval x]:=evA_op hg h5 h1 hxo
 rw[hx]at hv
 obtain⟨cs,e1,hv,il⟩:=hv
 simp only[List.cons.injEq,and_true]at e1
 obtain⟨k1,k2⟩:=avs_op (E:=E) hg h5 h1 (l:=c.args.toList) (fun y hy=>by
  simp only[ho,Op.operands,Call.operands,hcal]
  have:y∈c.args:=by simpa using hy
  simp[this])
 obtain⟨k3,k4⟩:=fixL_VR (E:=E) (ts:=c.argTypes.toList) k1
 have hargs:=VR.app k3 (k4 k2) hv il
 obtain⟨fn,f1,f2,f3⟩:=hI.fn
 have hrun:(execOp a.eval o).run P w= .ok (.enter f (c.args.map a.eval++cs)) w:=by
  simp only[execOp,ho,resolve,hcal,e1,Deferred.ofValue,invoke,callFunc,Sem.run_bind,Sem.run_pure,Result.andThen_ok,run_program,f1,f2,f3]
  simp
 unfold Oper.wp
 rw[hrun]
 refine Calls.mono (hc hp' Z w σ _ h5.mem h2 h4 (by simpa using hargs)) fun en w' hen=>?_
 cases en with
 | panicked _=>exact hen.elim
 | outgrown=>exact hen.elim
 | returned v=>
  obtain⟨Z',σ',w1,m2,x2,s2,nw2,k5,_⟩:=hen
  exact hK' _ w' Z' σ' (h5.put m2 k5 s2 w1 h6) x2 s2 nw2 (size_put _ _ _) (defers_put _ _ _)
theorem opE_snd (hE:EnvOk P E) (hg:E.gl=gv) (hO: ∀f s sp,E.orc f s=some sp→Impl P gv f sp) (hgv: ∀g,hs (gv g)=[]) (h:opE E tm hp n o K=some r):Snd P gv o tm hp n K r:=by
 unfold opE at h
 split at h
 case h_1 x ho=>exact snd_move hg (.inl ho) h
 case h_2 x ho=>exact snd_move hg (.inr ho) h
 case h_3 c x y ho=>exact snd_pick hg ho h
 case h_4 t ho=>exact snd_alloc hE ho h
 case h_5 t x ho=>exact snd_box hg ho h
 case h_6 t ps ho=>exact snd_build hE hg ho h
 case h_7 t len ps ho=>exact snd_buildSlice hE hg ho h
 case h_8 t x ho=>exact snd_load hE hg ho h
 case h_9 t x y ho=>exact snd_store hE hg ho h
 case h_10 x ho=>exact snd_nilCheck hg ho h
 case h_11 op t x y q ho=>exact snd_bin hE hg ho h
 case h_12 op t x ho=>exact snd_un hg ho h
 case h_13 s d x ho=>exact snd_convert hE hg ho h
 case h_14 f first caps ho=>exact snd_makeFunc hg ho h
 case h_15 t l c ho=>exact snd_makeSlice hE hg ho h
 case h_16 t x lo hi mx ho=>exact snd_slice hE hg ho h
 case h_17 t x f ho=>exact snd_fieldAddr hE hg ho h
 case h_18 t x f ho=>exact snd_field hE hg ho h
 case h_19 t x i ho=>exact snd_indexAddr hE hg ho h
 case h_20 t x i ho=>exact snd_index hE hg ho h
 case h_21 x i ho=>exact snd_extract hg ho h
 case h_22 c ho=>
  split at h
  ·rename_i b hcal
   unfold builtinE at h
   split at h
   ·split at h
    ·rename_i t x hats hargs
     exact snd_len hE hg ho hcal hats hargs h
    ·cases h
   ·split at h
    ·rename_i t t2 x y hats hargs
     exact snd_append hE hg ho hcal hats hargs h
    ·cases h
   ·split at h
    ·rename_i k a k' b hargs
     exact snd_minmax (mx:=false) hg ho hcal hargs h
    ·cases h
   ·split at h
    ·rename_i k a k' b hargs
     exact snd_minmax (mx:=true) hg ho hcal hargs h
    ·cases h
   ·cases h
  ·rename_i x hcal
   split at h
   ·rename_i f caps hx
    exact snd_call hg hO hgv ho hcal hx h
   ·cases h
  ·cases h
 case h_23=>cases h
end
inductive Bef (ops:List Oper):Nat→Nat→Prop
 | one {i:Nat} {o:Oper} {e:Edge} (h:ops[i]?=some o) (he:e∈o.after) (hb:Region.binds .any e=true):Bef ops i e.on
 | step {i j:Nat} {o:Oper} {e:Edge} (h:ops[i]?=some o) (he:e∈o.after) (hb:Region.binds .any e=true) (k:Bef ops e.on j):Bef ops i j
theorem befs_spec (ops:List Oper): ∀(r:List Oper) (acc:List Nat),(∀k o,r[k]?=some o→ops[acc.length+k]?=some o)→(∀i j,(acc.getD i 0).testBit j=true→Bef ops i j)→ ∀i j,((befs r acc).getD i 0).testBit j=true→Bef ops i j
 | [],acc,_,ha,i,j,h=>ha i j h
 | o::r,acc,hr,ha,i,j,h=>by
  simp only[befs]at h
  have h0:=hr 0 o rfl
  rw[Nat.add_zero]at h0
  have hfold: ∀(l:List Edge) (m:Nat),(∀e∈l,e∈o.after)→(∀j,m.testBit j=true→Bef ops acc.length j)→
    ∀j,(l.foldl (fun m e=>bif Region.binds .any e then m|||2^e.on|||acc.getD e.on 0 else m) m).testBit j=true→Bef ops acc.length j:=by
   intro l
   induction l with
   | nil=>intro m _ hm j h;exact hm j h
   | cons e l ih=>
    intro m hl hm j h
    refine ih _ (fun e' he'=>hl e' (by simp[he'])) (fun j' hj'=>?_) j h
    have hj':(bif Region.binds .any e then m|||2^e.on|||acc.getD e.on 0 else m).testBit j'=true:=hj'
    cases hb:Region.binds .any e
    ·rw[hb]at hj'
     exact hm j' hj'
    ·rw[hb]at hj'
     simp only[cond_true,Nat.testBit_or,Bool.or_eq_true]at hj'
     rcases hj' with (hj'|hj')|hj'
     ·exact hm j' hj'
     ·rw[Nat.testBit_two_pow]at hj'
      have:e.on=j':=by simpa using hj'
      subst this
      exact .one h0 (hl e (by simp)) hb
     ·exact .step h0 (hl e (by simp)) hb (ha _ _ hj')
  refine befs_spec ops r _ (fun k o' hk=>?_) (fun i' j' hij=>?_) i j h
  ·have:=hr (k+1) o' (by simpa using hk)
   rw[List.length_append,List.length_singleton]
   rw[←this]
   congr 1
   omega
  ·rw[List.getD_eq_getElem?_getD,List.getElem?_append]at hij
   split at hij
   ·rw[←List.getD_eq_getElem?_getD]at hij
    exact ha i' j' hij
   ·rename_i hlt
    by_cases hi:i'=acc.length
    ·subst hi
     simp only[Nat.sub_self,List.getElem?_cons_zero,Option.getD_some]at hij
     exact hfold _ 0 (fun e he=>by simpa using he) (by simp) j' hij
    ·have:([o.after.toList.foldl (fun m e=>bif Region.binds .any e then m|||2^e.on|||acc.getD e.on 0 else m) 0]:List Nat)[i'-acc.length]?=none:=by
      rw[List.getElem?_eq_none]
      simp
      omega
     rw[this]at hij
     simp at hij
theorem edges_lt {ops:List Oper} (h:edgesOk ops=true) {i:Nat} {o:Oper} {e:Edge} (ho:ops[i]?=some o) (he:e∈o.after) (hb:Region.binds .any e=true):e.on<i:=by
 simp only[edgesOk,List.all_eq_true,Bool.or_eq_true,Bool.not_eq_true',decide_eq_true_eq]at h
 have hm:(o,i)∈ops.zipIdx:=by
  rw[List.mem_iff_getElem?]
  exact⟨i,by rw[List.getElem?_zipIdx,ho];simp⟩
 rcases h (o,i) hm e (by simpa using he)with hx|hx
 ·rw[hb]at hx;cases hx
 ·exact hx
theorem Bef.lt {ops:List Oper} (h:edgesOk ops=true) {i j:Nat} (hb:Bef ops i j):j<i:=by
 induction hb with
 | one h1 h2 h3=>exact edges_lt h h1 h2 h3
 | step h1 h2 h3 _ ih=>exact Nat.lt_trans ih (edges_lt h h1 h2 h3)
theorem Bef.done {ops:List Oper} {D:Nat→Bool} (hD: ∀i o,ops[i]?=some o→D i=true→ ∀e∈o.after,Region.binds .any e=true→D e.on=true) {i j:Nat} (hb:Bef ops i j):
  (∀o,ops[i]?=some o→ ∀e∈o.after,Region.binds .any e=true→D e.on=true)→D j=true:=by
 induction hb with
 | one h1 h2 h3=>exact fun hi=>hi _ h1 _ h2 h3
 | step h1 h2 h3 _ ih=>exact fun hi=>ih fun o ho=>hD _ o ho (hi _ h1 _ h2 h3)
structure Stp where
 i:Nat
 o:Oper
 n:Nat
 e:Eff
 rc:Rec
abbrev X2:=(Nat→AV)×(Nat→Ob)
def apS (x:X2) (s:Stp):X2:=(putD x.1 s.o.dst s.e.v,nws (wrs x.2 s.e.wr) s.n s.e.nw)
def foldD (D:Nat→Bool):List Stp→X2→X2
 | [],x=>x
 | s::r,x=>foldD D r (if D s.i=true then apS x s else x)
def Stp.keys (s:Stp):List Nat:=s.e.wr.map (·.1)++news s.n s.e.nw
theorem putD_ne {tm:Nat→AV} {d:Option Nat} {v:AV} {t:Nat} (h:d≠some t):putD tm d v t=tm t:=by
 cases d with
 | none=>rfl
 | some d=>exact upd_ne _ _ fun e=>h (by rw[e])
theorem wrs_no {h:Nat}: ∀{l:List (Nat×Ob)} {hp:Nat→Ob},h∉l.map (·.1)→wrs hp l h=hp h
 | [],_,_=>rfl
 | (g,o)::l,hp,hn=>by
  simp only[List.map_cons,List.mem_cons,not_or]at hn
  simp only[wrs]
  rw[wrs_no hn.2,upd_ne _ _ hn.1]
theorem wrs_yes {h:Nat}: ∀{l:List (Nat×Ob)} {f g:Nat→Ob},h∈l.map (·.1)→wrs f l h=wrs g l h
 | (k,o)::l,f,g,hm=>by
  simp only[wrs]
  by_cases hk:h=k
  ·subst hk
   exact wrs_base l (by rw[upd_same,upd_same])
  ·simp only[List.map_cons,List.mem_cons]at hm
   exact wrs_yes (hm.resolve_left hk)
theorem apS_tm_no {x:X2} {s:Stp} {t:Nat} (h:s.o.dst≠some t):(apS x s).1 t=x.1 t:=putD_ne h
theorem apS_tm_yes {x y:X2} {s:Stp} {t:Nat} (h:s.o.dst=some t):(apS x s).1 t=(apS y s).1 t:=by
 simp only[apS,h,putD,upd_same]
theorem apS_hp_no {x:X2} {s:Stp} {h:Nat} (hn:h∉s.keys):(apS x s).2 h=x.2 h:=by
 simp only[Stp.keys,List.mem_append,not_or]at hn
 simp only[apS]
 rw[nws_get,if_neg (fun hc=>hn.2 (mem_news.2 hc)),wrs_no hn.1]
theorem apS_hp_yes {x y:X2} {s:Stp} {h:Nat} (hn:h∈s.keys):(apS x s).2 h=(apS y s).2 h:=by
 simp only[apS]
 rw[nws_get,nws_get]
 split
 ·rfl
 ·rename_i hc
  simp only[Stp.keys,List.mem_append]at hn
  exact wrs_yes (hn.resolve_right fun hm=>hc (mem_news.1 hm))
theorem foldD_tm {D1 D2:Nat→Bool} {t:Nat}: ∀{T:List Stp} {x y:X2},(∀s∈T,D1 s.i≠D2 s.i→s.o.dst≠some t)→x.1 t=y.1 t→(foldD D1 T x).1 t=(foldD D2 T y).1 t
 | [],_,_,_,h=>h
 | s::r,x,y,hd,h=>by
  simp only[foldD]
  refine foldD_tm (fun s' hs'=>hd s' (by simp[hs'])) ?_
  have h1:=hd s (by simp)
  by_cases hw:s.o.dst=some t
  ·have h2:D1 s.i=D2 s.i:=by
    by_cases he:D1 s.i=D2 s.i
    ·exact he
    ·exact absurd hw (h1 he)
   rw[h2]
   split
   ·exact apS_tm_yes hw
   ·exact h
  ·split<;>split<;>simp only[apS_tm_no hw,h]
theorem foldD_hp {D1 D2:Nat→Bool} {h:Nat}: ∀{T:List Stp} {x y:X2},(∀s∈T,D1 s.i≠D2 s.i→h∉s.keys)→x.2 h=y.2 h→(foldD D1 T x).2 h=(foldD D2 T y).2 h
 | [],_,_,_,h=>h
 | s::r,x,y,hd,hh=>by
  simp only[foldD]
  refine foldD_hp (fun s' hs'=>hd s' (by simp[hs'])) ?_
  have h1:=hd s (by simp)
  by_cases hw:h∈s.keys
  ·have h2:D1 s.i=D2 s.i:=by
    by_cases he:D1 s.i=D2 s.i
    ·exact he
    ·exact absurd hw (h1 he)
   rw[h2]
   split
   ·exact apS_hp_yes hw
   ·exact hh
  ·split<;>split<;>simp only[apS_hp_no hw,hh]
theorem foldD_false: ∀(T:List Stp) (x:X2),foldD (fun _=>false) T x=x
 | [],_=>rfl
 | s::r,x=>by simp only[foldD,Bool.false_eq_true,if_false];exact foldD_false r x
theorem foldD_app (D:Nat→Bool): ∀(A B:List Stp) (x:X2),foldD D (A++B) x=foldD D B (foldD D A x)
 | [],_,_=>rfl
 | s::r,B,x=>by simp only[List.cons_append,foldD];exact foldD_app D r B _
theorem foldD_congr {D1 D2:Nat→Bool}: ∀{T:List Stp} {x:X2},(∀s∈T,D1 s.i=D2 s.i)→foldD D1 T x=foldD D2 T x
 | [],_,_=>rfl
 | s::r,x,h=>by
  simp only[foldD]
  rw[h s (by simp),foldD_congr fun s' hs'=>h s' (by simp[hs'])]
def Far (s s':Stp):Prop:=(∀t,s.o.dst=some t→s'.o.dst≠some t)∧ ∀h∈s.keys,h∉s'.keys
theorem apS_comm {x:X2} {s s':Stp} (h:Far s s'):apS (apS x s) s'=apS (apS x s') s:=by
 refine Prod.ext (funext fun t=>?_) (funext fun k=>?_)
 ·by_cases h1:s'.o.dst=some t
  ·have h2:s.o.dst≠some t:=fun e=>h.1 t e h1
   rw[apS_tm_no (x:=apS x s') h2]
   exact apS_tm_yes h1
  ·rw[apS_tm_no h1]
   by_cases h2:s.o.dst=some t
   ·exact apS_tm_yes h2
   ·rw[apS_tm_no h2,apS_tm_no h2,apS_tm_no h1]
 ·by_cases h1:k∈s'.keys
  ·have h2:k∉s.keys:=fun e=>h.2 k e h1
   rw[apS_hp_no (x:=apS x s') h2]
   exact apS_hp_yes h1
  ·rw[apS_hp_no h1]
   by_cases h2:k∈s.keys
   ·exact apS_hp_yes h2
   ·rw[apS_hp_no h2,apS_hp_no h2,apS_hp_no h1]
theorem foldD_late {D:Nat→Bool} {s:Stp}: ∀{B:List Stp} {x:X2},(∀s'∈B,D s'.i=true→Far s s')→foldD D B (apS x s)=apS (foldD D B x) s
 | [],_,_=>rfl
 | s'::r,x,h=>by
  simp only[foldD]
  split
  ·rename_i hd
   rw[apS_comm (h s' (by simp) hd)]
   exact foldD_late fun s'' hs''=>h s'' (by simp[hs''])
  ·exact foldD_late fun s'' hs''=>h s'' (by simp[hs''])
theorem foldD_insert {D:Nat→Bool} {A B:List Stp} {s:Stp} {x:X2} (hs:D s.i=false) (hA: ∀s'∈A,s'.i≠s.i) (hB: ∀s'∈B,s'.i≠s.i) (hf: ∀s'∈B,D s'.i=true→Far s s'):
  foldD (fun j=>j==s.i||D j) (A++s::B) x=apS (foldD D (A++s::B) x) s:=by
 have e1: ∀{L:List Stp} {y:X2},(∀s'∈L,s'.i≠s.i)→foldD (fun j=>j==s.i||D j) L y=foldD D L y:=fun h=>foldD_congr fun s' hs'=>by simp[h s' hs']
 rw[foldD_app,foldD_app,e1 hA]
 simp only[foldD,beq_self_eq_true,Bool.true_or,if_true,hs,Bool.false_eq_true,if_false]
 rw[e1 hB]
 exact foldD_late hf
section
variable {P:Program} {E:Env} {gv:Nat→AV} {ops:Array Oper}
def StpOk (P:Program) (gv:Nat→AV) (ops:Array Oper) (tm:Nat→AV) (hp:Nat→Ob) (s:Stp):Prop:=
 s.rc.i=s.i∧s.rc.wt=s.o.dst.toList∧s.rc.wh=s.keys∧
 ((OpSnd P gv s.o tm hp s.n s.e∧(∀t∈opT s.o,t∈s.rc.rt)∧(∀h∈s.e.rd,h∈s.rc.rh)∧(s.o.guard=none∨ ∃j want d,s.o.guard=some (j,want)∧(ops[j]?).bind (·.dst)=some d∧tm d=ab want∧d∈s.rc.rt))∨
 (s.e={ v:=avU }∧ ∃j want d,s.o.guard=some (j,want)∧(ops[j]?).bind (·.dst)=some d∧d∈s.rc.rt∧(tm d=ab (!want)∨ ∃vs,tm d= .k (.tuple vs))))
def Chain (P:Program) (gv:Nat→AV) (ops:Array Oper):List Stp→X2→Nat→Prop
 | [],_,_=>True
 | s::r,x,n=>s.n=n∧StpOk P gv ops x.1 x.2 s∧Chain P gv ops r (apS x s) (n+s.e.nw.length)
def totN:List Stp→Nat
 | []=>0
 | s::r=>s.e.nw.length+totN r
theorem upd_self {α:Type} (f:Nat→α) {i:Nat} {v:α} (h:f i=v):upd f i v=f:=by
 funext j
 by_cases hj:j=i
 ·subst hj
  rw[upd_same,h]
 ·rw[upd_ne _ _ hj]
def stX (x:X2) (n:Nat):St:={ tm:=x.1,hp:=x.2,n:=n }
theorem evOps_chain (hE:EnvOk P E) (hg:E.gl=gv) (hO: ∀f s sp,E.orc f s=some sp→Impl P gv f sp) (hgv: ∀g,hs (gv g)=[]): ∀(l:List (Nat×Oper)) (s:St) (tr:List Rec) (K:St→List Rec→Option FRes) (r:FRes),
  evOps E (fun i=>(ops[i]?).bind (·.dst)) l s tr K=some r→ ∃T:List Stp,T.map (fun t=>(t.i,t.o))=l∧Chain P gv ops T (s.tm,s.hp) s.n∧K (stX (foldD (fun _=>true) T (s.tm,s.hp)) (s.n+totN T)) ((T.map (·.rc)).reverse++tr)=some r
 | [],s,tr,K,r,h=>⟨[],rfl,trivial,h⟩
 | (i,o)::l,s,tr,K,r,h=>by
  have cont: ∀(st:Stp),st.i=i→st.o=o→st.n=s.n→StpOk P gv ops s.tm s.hp st→
    evOps E (fun i=>(ops[i]?).bind (·.dst)) l { tm:=putD s.tm o.dst st.e.v,hp:=nws (wrs s.hp st.e.wr) s.n st.e.nw,n:=s.n+st.e.nw.length } (st.rc::tr) K=some r→
    ∃T:List Stp,T.map (fun t=>(t.i,t.o))=(i,o)::l∧Chain P gv ops T (s.tm,s.hp) s.n∧K (stX (foldD (fun _=>true) T (s.tm,s.hp)) (s.n+totN T)) ((T.map (·.rc)).reverse++tr)=some r:=by
   intro st h1 h2 h3 h4 h5
   obtain⟨T,t1,t2,t3⟩:=evOps_chain hE hg hO hgv l _ _ K r h5
   have hx:apS (s.tm,s.hp) st=(putD s.tm o.dst st.e.v,nws (wrs s.hp st.e.wr) s.n st.e.nw):=by simp only[apS,h2,h3]
   refine⟨st::T,by simp[t1,h1,h2],⟨h3,h4,by rw[hx];exact t2⟩,?_⟩
   simp only[foldD,if_true,hx,totN,List.map_cons,List.reverse_cons,List.append_assoc,List.singleton_append]
   rw[←Nat.add_assoc]
   exact t3
  have run: ∀(g:List Nat),(o.guard=none∨ ∃j want d,o.guard=some (j,want)∧(ops[j]?).bind (·.dst)=some d∧s.tm d=ab want∧d∈g)→
    (opE E s.tm s.hp s.n o fun e=>evOps E (fun i=>(ops[i]?).bind (·.dst)) l (s.ap o.dst e) (recOf i o g s.n e::tr) K)=some r→
    ∃T:List Stp,T.map (fun t=>(t.i,t.o))=(i,o)::l∧Chain P gv ops T (s.tm,s.hp) s.n∧K (stX (foldD (fun _=>true) T (s.tm,s.hp)) (s.n+totN T)) ((T.map (·.rc)).reverse++tr)=some r:=by
   intro g hgd hop
   obtain⟨e,h1,h2⟩:=opE_snd hE hg hO hgv hop
   refine cont { i:=i,o:=o,n:=s.n,e:=e,rc:=recOf i o g s.n e } rfl rfl rfl ⟨rfl,rfl,rfl, .inl ⟨h2,fun t ht=>?_,fun h hh=>hh,?_⟩⟩ h1
   ·simp[recOf,ht]
   ·rcases hgd with hgd|⟨j,want,d,a1,a2,a3,a4⟩
    ·exact .inl hgd
    ·exact .inr ⟨j,want,d,a1,a2,a3,by simp[recOf,a4]⟩
  have skip: ∀(j:Nat) (want:Bool) (d:Nat),o.guard=some (j,want)→(ops[j]?).bind (·.dst)=some d→(s.tm d=ab (!want)∨ ∃vs,s.tm d= .k (.tuple vs))→
    evOps E (fun i=>(ops[i]?).bind (·.dst)) l { s with tm:=putD s.tm o.dst avU } ({ i:=i,rt:=[d],wt:=o.dst.toList,rh:=[],wh:=[] }::tr) K=some r→
    ∃T:List Stp,T.map (fun t=>(t.i,t.o))=(i,o)::l∧Chain P gv ops T (s.tm,s.hp) s.n∧K (stX (foldD (fun _=>true) T (s.tm,s.hp)) (s.n+totN T)) ((T.map (·.rc)).reverse++tr)=some r:=by
   intro j want d a1 a2 a3 a4
   exact cont { i:=i,o:=o,n:=s.n,e:={ v:=avU },rc:={ i:=i,rt:=[d],wt:=o.dst.toList,rh:=[],wh:=[] } } rfl rfl rfl ⟨rfl,rfl,rfl, .inr ⟨rfl,j,want,d,a1,a2,by simp,a3⟩⟩ a4
  simp only[evOps]at h
  split at h
  ·rename_i hgd
   exact run [] (.inl hgd) h
  ·rename_i j want hgd
   split at h
   case h_2=>cases h
   rename_i d hd
   split at h
   ·rename_i b hb
    obtain⟨q,hq⟩: ∃q:Bool,q=b:=⟨b,rfl⟩
    subst hq
    cases q
    ·have hb':s.tm d=ab false:=hb
     rw[upd_self s.tm hb']at h
     cases want
     ·exact run [d] (.inr ⟨j,false,d,hgd,hd,hb,by simp⟩) h
     ·exact skip j true d hgd hd (.inl hb) h
    ·have hb':s.tm d=ab true:=hb
     rw[upd_self s.tm hb']at h
     cases want
     ·exact skip j false d hgd hd (.inl hb) h
     ·exact run [d] (.inr ⟨j,true,d,hgd,hd,hb,by simp⟩) h
   ·rename_i vs hb
    exact skip j want d hgd hd (.inr ⟨vs,hb⟩) h
   ·cases h
structure Reach (gv:Nat→AV) (Z0:Nat→Prop) (w0:World) (σ0:Nat→Sh) (hp0:Nat→Ob) (a0:Act) (x:X2) (Z:Nat→Prop) (w:World) (σ:Nat→Sh) (a:Act):Prop where
 sr:SR gv Z w σ x.1 x.2 a
 ext:Ext Z0 w0 σ0 hp0 Z w σ x.2
 sle: ∀h,Sle (σ h) (σ0 h)
 sz:a.tmps.size=a0.tmps.size
 df:a.defers=a0.defers
theorem step_snd {s:Stp} {tm:Nat→AV} {hp:Nat→Ob} (h:StpOk P gv ops tm hp s) (hi:ops[s.i]?=some s.o) {x:X2} {Z:Nat→Prop} {w:World} {σ:Nat→Sh} {a:Act} (hs:SR gv Z w σ x.1 x.2 a) (ht: ∀t∈s.rc.rt,x.1 t=tm t) (hh: ∀h∈s.rc.rh,x.2 h=hp h) (hw: ∀h∈s.e.wr.map (·.1),x.2 h=hp h)
  (hn: ∀h∈news s.n s.e.nw,σ h= .un) (hd: ∀d,s.o.dst=some d→d<a.tmps.size) {Q:Exit→Act→World→Prop} {K:Act→World→Prop}
  (hK: ∀a' w' Z' σ',SR gv Z' w' σ' (apS x s).1 (apS x s).2 a'→Ext Z w σ x.2 Z' w' σ' (apS x s).2→(∀h,Sle (σ' h) (σ h))→Nw s.n s.e.nw σ σ'→a'.tmps.size=a.tmps.size→a'.defers=a.defers→K a' w'):wpOp P ops Q s.i K a w:=by
 have hy: ∀d j,(ops[j]?).bind (·.dst)=some d→ ∀b:Bool,tm d=ab b→d∈s.rc.rt→yielded ops a.tmps j=some b:=fun d j h1 b h2 h3=>by
  have h4:=hs.tms d
  rw[ht d h3,h2]at h4
  have h5:=h4.boolp
  unfold yielded
  rw[h1]
  simp only[Option.bind_some]
  have h6:a.tmps[d]?=some (Value.bool b):=by
   cases h7:a.tmps[d]? with
   | none=>
    rw[Array.getD_eq_getD_getElem?,h7]at h5
    simp[undef]at h5
   | some v=>
    rw[Array.getD_eq_getD_getElem?,h7]at h5
    rw[←h5]
    rfl
  rw[h6]
 unfold wpOp
 rw[hi]
 simp only
 obtain⟨_,_,_,h⟩:=h
 rcases h with ⟨h1,h2,h3,h4⟩|⟨h1,j,want,d,h2,h3,h4,h5⟩
 ·have hwant:Region.wanted s.o (yielded ops a.tmps)=true:=by
   unfold Region.wanted
   rcases h4 with h4|⟨j,want,d,b1,b2,b3,b4⟩
   ·rw[h4]
   ·rw[b1]
    simp only
    rw[hy d j b2 want b3 b4]
    simp
  rw[if_pos hwant]
  exact .inl (h1 x.1 x.2 Z w σ a (fun t htt=>ht t (h2 t htt)) (fun h hm=>hh h (h3 h hm)) hw hn hs hd K Q hK)
 ·have hwant:Region.wanted s.o (yielded ops a.tmps)=false:=by
   unfold Region.wanted
   rw[h2]
   simp only
   rcases h5 with h5|⟨vs,h5⟩
   ·rw[hy d j h3 _ h5 h4]
    cases want<;>rfl
   ·have h6:=hs.tms d
    rw[ht d h4,h5]at h6
    have h7:a.tmps.getD d undef= .tuple vs:=by simpa[VR]using h6
    unfold yielded
    rw[h3]
    simp only[Option.bind_some]
    rw[Array.getD_eq_getD_getElem?]at h7
    cases h8:a.tmps[d]? with
    | none=>rfl
    | some v=>
     rw[h8]at h7
     have h7:v= .tuple vs:=h7
     subst h7
     rfl
  rw[if_neg (by simp[hwant])]
  have hx:(apS x s).2=x.2:=by simp only[apS,h1];rfl
  have hx1:(apS x s).1=putD x.1 s.o.dst avU:=by simp only[apS,h1]
  refine hK _ w Z σ ?_ (by rw[hx];exact Ext.refl _ _ _ _) (fun _=> .same _) ⟨fun _ h=>h,fun h hm=>by rw[h1]at hm;simp[news]at hm,fun _ h _=>h⟩ (size_put _ _ _) (defers_put _ _ _)
  rw[hx,hx1]
  exact hs.put hs.mem (Kept.refl Z w) (fun _=> .same _) (v:=undef) rfl hd
theorem Chain.app: ∀{A:List Stp} {s:Stp} {B:List Stp} {x:X2} {n:Nat},Chain P gv ops (A++s::B) x n→s.n=n+totN A∧StpOk P gv ops (foldD (fun _=>true) A x).1 (foldD (fun _=>true) A x).2 s∧Chain P gv ops B (apS (foldD (fun _=>true) A x) s) (s.n+s.e.nw.length)
 | [],s,B,x,n,h=>by
  obtain⟨h1,h2,h3⟩:=h
  subst h1
  exact⟨by simp[totN],h2,h3⟩
 | a::A,s,B,x,n,h=>by
  obtain⟨h1,h2,h3⟩:=h
  obtain⟨k1,k2,k3⟩:=Chain.app (A:=A) h3
  refine⟨by rw[k1];simp only[totN];omega,?_,?_⟩
  ·simpa[foldD]using k2
  ·simpa[foldD]using k3
theorem Chain.ge: ∀{T:List Stp} {x:X2} {n:Nat},Chain P gv ops T x n→ ∀s∈T,n≤s.n∧s.n+s.e.nw.length≤n+totN T
 | [],_,_,_,s,hs=>by cases hs
 | a::T,x,n,h,s,hs=>by
  obtain⟨h1,h2,h3⟩:=h
  rcases List.mem_cons.1 hs with rfl|hs
  ·subst h1
   exact⟨Nat.le_refl _,by simp only[totN];omega⟩
  ·have:=Chain.ge h3 s hs
   simp only[totN]
   omega
theorem wpOps_snd {Q:Exit→Act→World→Prop}: ∀{T:List Stp} {x:X2} {n:Nat} {Z:Nat→Prop} {w:World} {σ:Nat→Sh} {a:Act},Chain P gv ops T x n→(∀s∈T,ops[s.i]?=some s.o)→SR gv Z w σ x.1 x.2 a→(∀h,n≤h→σ h= .un)→(∀s∈T, ∀d,s.o.dst=some d→d<a.tmps.size)→
  (∀a' w' Z' σ',SR gv Z' w' σ' (foldD (fun _=>true) T x).1 (foldD (fun _=>true) T x).2 a'→Ext Z w σ x.2 Z' w' σ' (foldD (fun _=>true) T x).2→(∀h,Sle (σ' h) (σ h))→(∀h,n+totN T≤h→σ' h= .un)→a'.tmps.size=a.tmps.size→a'.defers=a.defers→Q .normal a' w')→
  wpOps P ops Q (T.map (·.i)) a w
 | [],x,n,Z,w,σ,a,_,_,hs,hu,_,hK=>hK a w Z σ hs (Ext.refl _ _ _ _) (fun _=> .same _) (by simpa[totN]using hu) rfl rfl
 | s::T,x,n,Z,w,σ,a,hc,hi,hs,hu,hd,hK=>by
  obtain⟨h1,h2,h3⟩:=hc
  subst h1
  rw[List.map_cons,wpOps_cons]
  refine step_snd h2 (hi s (by simp)) hs (fun _ _=>rfl) (fun _ _=>rfl) (fun _ _=>rfl) (fun h hm=>hu h (mem_news.1 hm).1) (hd s (by simp)) fun a' w' Z' σ' k1 k2 k3 k4 k5 k6=>?_
  refine wpOps_snd h3 (fun t ht=>hi t (by simp[ht])) k1 (fun h hh=>k4.no h (hu h (by omega)) fun hm=>by have:=mem_news.1 hm;omega) (fun t ht d hdd=>by rw[k5];exact hd t (by simp[ht]) d hdd) fun a2 w2 Z2 σ2 j1 j2 j3 j4 j5 j6=>?_
  refine hK a2 w2 Z2 σ2 ?_ ?_ (fun h=>(j3 h).trans (k3 h)) (fun h hh=>j4 h (by simp only[totN]at hh;omega)) (j5.trans k5) (j6.trans k6)
  ·simpa[foldD]using j1
  ·simp only[foldD,if_true]
   exact k2.trans j2
end
theorem allApart_mem {B:List Nat}: ∀{U:List Rec} {x:Rec} {V:List Rec},allApart B (U++x::V)=true→ ∀y∈V,apart B x y=true
 | [],x,V,h,y,hy=>by
  simp only[List.nil_append,allApart,Bool.and_eq_true,List.all_eq_true]at h
  exact h.1 y hy
 | u::U,x,V,h,y,hy=>by
  simp only[List.cons_append,allApart,Bool.and_eq_true]at h
  exact allApart_mem (U:=U) h.2 y hy
def cnt (D:Nat→Bool):Nat→Nat
 | 0=>0
 | n+1=>cnt D n+(!D n).toNat
theorem cnt_zero {D:Nat→Bool}: ∀{N:Nat},cnt D N=0→ ∀j,j<N→D j=true
 | N+1,h,j,hj=>by
  simp only[cnt]at h
  cases hd:D N
  ·rw[hd]at h
   simp at h
  ·by_cases e:j=N
   ·rw[e];exact hd
   ·exact cnt_zero (N:=N) (by omega) j (by omega)
theorem cnt_insert {D:Nat→Bool} {i:Nat} (hd:D i=false): ∀{N:Nat},(i<N→cnt (fun j=>j==i||D j) N+1=cnt D N)∧(N≤i→cnt (fun j=>j==i||D j) N=cnt D N)
 | 0=>⟨by omega,fun _=>rfl⟩
 | N+1=>by
  obtain⟨h1,h2⟩:=cnt_insert hd (N:=N)
  simp only[cnt]
  refine⟨fun h=>?_,fun h=>?_⟩
  ·by_cases e:i=N
   ·subst e
    rw[h2 (Nat.le_refl _)]
    simp[hd]
   ·have:=h1 (by omega)
    have e2:(N==i)=false:=by simp;omega
    simp only[e2,Bool.false_or]
    omega
  ·rw[h2 (by omega)]
   have e2:(N==i)=false:=by simp;omega
   simp only[e2,Bool.false_or]
theorem cnt_le (D:Nat→Bool): ∀N,cnt D N≤N
 | 0=>Nat.le_refl _
 | N+1=>by
  have:=cnt_le D N
  simp only[cnt]
  cases D N<;>simp<;>omega
section
variable {P:Program} {gv:Nat→AV} {ops:Array Oper}
theorem Chain.pre: ∀{A B:List Stp} {x:X2} {n:Nat},Chain P gv ops (A++B) x n→Chain P gv ops A x n
 | [],_,_,_,_=>trivial
 | a::A,B,x,n,h=>⟨h.1,h.2.1,Chain.pre h.2.2⟩
theorem apart_spec {B:List Nat} {x y:Rec} (h:apart B x y=true):(B.getD y.i 0).testBit x.i=true∨(B.getD x.i 0).testBit y.i=true∨
  (∀t∈x.wt,t∉y.rt)∧(∀t∈x.wt,t∉y.wt)∧(∀t∈y.wt,t∉x.rt)∧(∀t∈x.wh,t∉y.rh)∧(∀t∈x.wh,t∉y.wh)∧ ∀t∈y.wh,t∉x.rh:=by
 simp only[apart,Bool.or_eq_true,Bool.and_eq_true]at h
 rcases h with (h|h)|h
 ·exact .inl h
 ·exact .inr (.inl h)
 ·exact .inr (.inr ⟨disj_spec h.1.1.1.1.1,disj_spec h.1.1.1.1.2,disj_spec h.1.1.1.2,disj_spec h.1.1.2,disj_spec h.1.2,disj_spec h.2⟩)
theorem wpAny_snd {Q:Exit→Act→World→Prop} {T:List Stp} {x0:X2} {n0:Nat} {Z0:Nat→Prop} {w0:World} {σ0:Nat→Sh} {a0:Act} (hc:Chain P gv ops T x0 n0) (hT:T.map (fun t=>(t.i,t.o))=ops.toList.zipIdx.map fun q=>(q.2,q.1)) (hord:orderOk ops.toList (T.map (·.rc)).reverse=true)
  (hd: ∀s∈T, ∀d,s.o.dst=some d→d<a0.tmps.size)
  (hK: ∀a' w' Z' σ',SR gv Z' w' σ' (foldD (fun _=>true) T x0).1 (foldD (fun _=>true) T x0).2 a'→Ext Z0 w0 σ0 x0.2 Z' w' σ' (foldD (fun _=>true) T x0).2→(∀h,Sle (σ' h) (σ0 h))→(∀h,n0+totN T≤h→σ' h= .un)→a'.tmps.size=a0.tmps.size→a'.defers=a0.defers→Q .normal a' w'):
  ∀(fuel:Nat) (listed:Array Bool) (a:Act) (w:World) (Z:Nat→Prop) (σ:Nat→Sh),listed.size=ops.size→cnt (fun j=>listed.getD j false) ops.size≤fuel→(∀i o,ops.toList[i]?=some o→listed.getD i false=true→ ∀e∈o.after,Region.binds .any e=true→listed.getD e.on false=true)→
   Reach gv Z0 w0 σ0 x0.2 a0 (foldD (fun j=>listed.getD j false) T x0) Z w σ a→(∀h,n0≤h→(∀s∈T,listed.getD s.i false=true→h∉news s.n s.e.nw)→σ h= .un)→wpAny P .any ops Q fuel listed a w:=by
 have hTl:T.length=ops.size:=by
  have:=congrArg List.length hT
  simpa using this
 have hTi: ∀(k:Nat) (s:Stp),T[k]?=some s→s.i=k∧ops[k]?=some s.o:=fun k s hk=>by
  have h1:(T.map fun t=>(t.i,t.o))[k]?=some (s.i,s.o):=by rw[List.getElem?_map,hk];rfl
  rw[hT,List.getElem?_map,List.getElem?_zipIdx]at h1
  simp only[Nat.zero_add,Option.map_map]at h1
  obtain⟨o,h2,h3⟩:=Option.map_eq_some_iff.1 h1
  simp only[Function.comp,Prod.mk.injEq]at h3
  rw[Array.getElem?_toList]at h2
  exact⟨h3.1.symm,by rw[h2,h3.2]⟩
 simp only[orderOk,Bool.and_eq_true]at hord
 obtain⟨hed,hap⟩:=hord
 have hbef: ∀i j,((befs ops.toList []).getD i 0).testBit j=true→Bef ops.toList i j:=befs_spec ops.toList ops.toList [] (fun k o h=>by simpa using h) (fun i j h=>by simp at h)
 have hend: ∀(listed:Array Bool) (a:Act) (w:World) (Z:Nat→Prop) (σ:Nat→Sh),(∀j,j<ops.size→listed.getD j false=true)→Reach gv Z0 w0 σ0 x0.2 a0 (foldD (fun j=>listed.getD j false) T x0) Z w σ a→
   (∀h,n0≤h→(∀s∈T,listed.getD s.i false=true→h∉news s.n s.e.nw)→σ h= .un)→Q .normal a w:=by
  intro listed a w Z σ hall hR hun
  have e:foldD (fun j=>listed.getD j false) T x0=foldD (fun _=>true) T x0:=foldD_congr fun s hs=>by
   obtain⟨k,hk⟩:=List.mem_iff_getElem?.1 hs
   obtain⟨h1,h2⟩:=hTi k s hk
   rw[h1]
   exact hall k (by rw[←hTl];exact(List.getElem?_eq_some_iff.1 hk).1)
  rw[e]at hR
  refine hK a w Z σ hR.sr hR.ext hR.sle (fun h hh=>hun h (by omega) fun s hs _ hm=>?_) hR.sz hR.df
  have:=(hc.ge s hs).2
  have:=mem_news.1 hm
  omega
 have hnone: ∀(listed:Array Bool),listed.size=ops.size→Region.ready .any ops listed=[]→ ∀j,j<ops.size→listed.getD j false=true:=by
  intro listed hsz hr j
  induction j using Nat.strongRecOn with
  | _ j ih=>
   intro hj
   cases hl:listed.getD j false with
   | true=>rfl
   | false=>
    exfalso
    have hm:j∈Region.ready .any ops listed:=by
     rw[mem_ready]
     refine⟨?_,ops[j],by simp[hj],fun e he hb=>?_⟩
     ·rw[Array.getD_eq_getD_getElem?]at hl ⊢
      have:listed[j]?=some listed[j]:=by simp[show j<listed.size by omega]
      rw[this]at hl ⊢
      exact hl
     ·have hlt:=edges_lt hed (i:=j) (o:=ops[j]) (by simp[hj]) he hb
      exact ih e.on hlt (by omega)
    rw[hr]at hm
    cases hm
 intro fuel
 induction fuel with
 | zero=>
  intro listed a w Z σ hsz hcnt hcl hR hun
  have hall:=cnt_zero (Nat.le_zero.1 hcnt)
  refine⟨?_,hend listed a w Z σ hall hR hun⟩
  cases hr:Region.ready .any ops listed with
  | nil=>rfl
  | cons i r=>
   have hm:i∈Region.ready .any ops listed:=by rw[hr];simp
   rw[mem_ready]at hm
   obtain⟨h1,o,h2,_⟩:=hm
   have hi:=(Array.getElem?_eq_some_iff.1 h2).1
   have:=hall i hi
   rw[Array.getD_eq_getD_getElem?]at h1 this
   have e:listed[i]?=some listed[i]:=by simp[show i<listed.size by omega]
   rw[e]at h1 this
   simp only[Option.getD_some]at h1 this
   rw[h1]at this
   cases this
 | succ fuel ih=>
  intro listed a w Z σ hsz hcnt hcl hR hun
  refine⟨fun hr=>hend listed a w Z σ (hnone listed hsz hr) hR hun,fun i hi=>?_⟩
  rw[mem_ready]at hi
  obtain⟨hli,o,ho,hdeps⟩:=hi
  have hin:=(Array.getElem?_eq_some_iff.1 ho).1
  have hDi:listed.getD i false=false:=by
   rw[Array.getD_eq_getD_getElem?]at hli ⊢
   have e:listed[i]?=some listed[i]:=by simp[show i<listed.size by omega]
   rw[e]at hli ⊢
   exact hli
  have hTn:T[i]?=some (T[i]'(by omega)):=by simp[show i<T.length by omega]
  obtain⟨s,hs⟩: ∃s,T[i]?=some s:=⟨_,hTn⟩
  obtain⟨hsi,hso⟩:=hTi i s hs
  rw[ho]at hso
  have hso:o=s.o:=Option.some.inj hso
  have hsplit:T=T.take i++s::T.drop (i+1):=by
   have hlt:i<T.length:=by omega
   have:s=T[i]:=by
    rw[List.getElem?_eq_getElem hlt]at hs
    exact(Option.some.inj hs).symm
   rw[this,List.getElem_cons_drop,List.take_append_drop]
  have hAi: ∀s'∈T.take i,s'.i<i∧s'∈T:=fun s' hs'=>by
   obtain⟨k,hk⟩:=List.mem_iff_getElem?.1 hs'
   rw[List.getElem?_take]at hk
   split at hk
   ·rename_i hlt
    exact⟨by rw[(hTi k s' hk).1];exact hlt,List.mem_of_getElem? hk⟩
   ·cases hk
  have hBi: ∀s'∈T.drop (i+1),i<s'.i∧s'∈T:=fun s' hs'=>by
   obtain⟨k,hk⟩:=List.mem_iff_getElem?.1 hs'
   rw[List.getElem?_drop]at hk
   exact⟨by rw[(hTi _ s' hk).1];omega,List.mem_of_getElem? hk⟩
  have hsT:s∈T:=List.mem_of_getElem? hs
  have hstp: ∀s'∈T,s'.rc.i=s'.i∧s'.rc.wt=s'.o.dst.toList∧s'.rc.wh=s'.keys:=by
   intro s' hs'
   obtain⟨k,hk⟩:=List.mem_iff_getElem?.1 hs'
   have hlt:=(List.getElem?_eq_some_iff.1 hk).1
   have e:T=T.take k++s'::T.drop (k+1):=by
    have:s'=T[k]:=by
     rw[List.getElem?_eq_getElem hlt]at hk
     exact(Option.some.inj hk).symm
    rw[this,List.getElem_cons_drop,List.take_append_drop]
   have hc':=hc
   rw[e]at hc'
   have:=(Chain.app hc').2.1
   exact⟨this.1,this.2.1,this.2.2.1⟩
  have hrev:(T.map (·.rc)).reverse=((T.drop (i+1)).map (·.rc)).reverse++s.rc::((T.take i).map (·.rc)).reverse:=by
   conv=>lhs;rw[hsplit]
   rw[List.map_append,List.map_cons,List.reverse_append,List.reverse_cons,List.append_assoc]
   rfl
  have hAf: ∀s'∈T.take i,listed.getD s'.i false=false→(∀t∈s'.rc.wt,t∉s.rc.rt)∧(∀t∈s'.rc.wh,t∉s.rc.rh)∧(∀t∈s'.rc.wh,t∉s.rc.wh):=by
   intro s' hs' hds'
   obtain⟨hlt,hm⟩:=hAi s' hs'
   have h1:apart (befs ops.toList []) s.rc s'.rc=true:=by
    rw[hrev]at hap
    exact allApart_mem hap s'.rc (List.mem_reverse.2 (List.mem_map.2 ⟨s',hs',rfl⟩))
   rcases apart_spec h1 with h2|h2|⟨_,_,h4,_,h6,h7⟩
   ·rw[(hstp s' hm).1,(hstp s hsT).1]at h2
    have:=(hbef _ _ h2).lt hed
    omega
   ·rw[(hstp s' hm).1,(hstp s hsT).1]at h2
    have:=(hbef _ _ h2).done (D:=fun j=>listed.getD j false) hcl fun o' ho' e he hb=>hdeps e (by
     rw[hsi,Array.getElem?_toList,ho]at ho'
     cases ho'
     exact he) hb
    rw[this]at hds'
    cases hds'
   ·exact⟨h4,h7,fun t ht hh=>h6 t hh ht⟩
  have hBf: ∀s'∈T.drop (i+1),listed.getD s'.i false=true→(∀t∈s'.rc.wt,t∉s.rc.rt)∧(∀t∈s'.rc.wh,t∉s.rc.rh)∧(∀t∈s'.rc.wh,t∉s.rc.wh)∧(∀t∈s'.rc.wt,t∉s.rc.wt):=by
   intro s' hs' hds'
   obtain⟨hlt,hm⟩:=hBi s' hs'
   have h1:apart (befs ops.toList []) s'.rc s.rc=true:=by
    rw[hrev]at hap
    obtain⟨U,V,hUV⟩: ∃U V,((T.drop (i+1)).map (·.rc)).reverse=U++s'.rc::V:=List.append_of_mem (List.mem_reverse.2 (List.mem_map.2 ⟨s',hs',rfl⟩))
    rw[hUV,List.append_assoc,List.cons_append]at hap
    exact allApart_mem hap s.rc (by simp)
   rcases apart_spec h1 with h2|h2|⟨h3,h4,_,h6,h7,_⟩
   ·rw[(hstp s' hm).1,(hstp s hsT).1]at h2
    have:=(hbef _ _ h2).lt hed
    omega
   ·rw[(hstp s' hm).1,(hstp s hsT).1,hsi]at h2
    have:=(hbef _ _ h2).done (D:=fun j=>listed.getD j false) hcl fun o' ho' e he hb=>hcl _ o' ho' hds' e he hb
    rw[hDi]at this
    cases this
   ·exact⟨h3,h6,h7,h4⟩
  have hx:foldD (fun j=>listed.getD j false) T x0=foldD (fun j=>listed.getD j false) (T.drop (i+1)) (foldD (fun j=>listed.getD j false) (T.take i) x0):=by
   conv=>lhs;rw[hsplit]
   rw[foldD_app]
   simp only[foldD,hsi,hDi,Bool.false_eq_true,if_false]
  have hwtm: ∀s'∈T, ∀t,s'.o.dst=some t→t∈s'.rc.wt:=fun s' hs' t h=>by rw[(hstp s' hs').2.1,h];simp
  have hag1: ∀t∈s.rc.rt,(foldD (fun j=>listed.getD j false) T x0).1 t=(foldD (fun _=>true) (T.take i) x0).1 t:=fun t ht=>by
   rw[hx]
   have e1:=foldD_tm (D1:=fun j=>listed.getD j false) (D2:=fun _=>false) (t:=t) (T:=T.drop (i+1)) (x:=foldD (fun j=>listed.getD j false) (T.take i) x0) (y:=foldD (fun j=>listed.getD j false) (T.take i) x0) (fun s' hs' hne e=>(hBf s' hs' (by simpa using hne)).1 t (hwtm s' (hBi s' hs').2 t e) ht) rfl
   rw[foldD_false]at e1
   rw[e1]
   exact foldD_tm (fun s' hs' hne e=>(hAf s' hs' (by simpa using hne)).1 t (hwtm s' (hAi s' hs').2 t e) ht) rfl
  have hag2: ∀h,(∀s'∈T.drop (i+1),listed.getD s'.i false=true→h∉s'.rc.wh)→(∀s'∈T.take i,listed.getD s'.i false=false→h∉s'.rc.wh)→(foldD (fun j=>listed.getD j false) T x0).2 h=(foldD (fun _=>true) (T.take i) x0).2 h:=fun h h1 h2=>by
   rw[hx]
   have e1:=foldD_hp (D1:=fun j=>listed.getD j false) (D2:=fun _=>false) (h:=h) (T:=T.drop (i+1)) (x:=foldD (fun j=>listed.getD j false) (T.take i) x0) (y:=foldD (fun j=>listed.getD j false) (T.take i) x0) (fun s' hs' hne e=>h1 s' hs' (by simpa using hne) (by rw[(hstp s' (hBi s' hs').2).2.2];exact e)) rfl
   rw[foldD_false]at e1
   rw[e1]
   exact foldD_hp (fun s' hs' hne e=>h2 s' hs' (by simpa using hne) (by rw[(hstp s' (hAi s' hs').2).2.2];exact e)) rfl
  have hc':=hc
  rw[hsplit]at hc'
  obtain⟨hsn,hsok,hcB⟩:=Chain.app hc'
  have hcA:=Chain.pre hc'
  have hfar: ∀s'∈T.drop (i+1),listed.getD s'.i false=true→Far s s':=fun s' hs' hds'=>by
   obtain⟨_,_,f3,f4⟩:=hBf s' hs' hds'
   refine⟨fun t h1 h2=>f4 t (hwtm s' (hBi s' hs').2 t h2) (hwtm s hsT t h1),fun h h1 h2=>f3 h ?_ ?_⟩
   ·rw[(hstp s' (hBi s' hs').2).2.2];exact h2
   ·rw[(hstp s hsT).2.2];exact h1
  have hfi:foldD (fun j=>j==s.i||listed.getD j false) T x0=apS (foldD (fun j=>listed.getD j false) T x0) s:=by
   have:=foldD_insert (D:=fun j=>listed.getD j false) (A:=T.take i) (B:=T.drop (i+1)) (s:=s) (x:=x0) (by rw[hsi];exact hDi) (fun s' hs' e=>by have:=(hAi s' hs').1;omega) (fun s' hs' e=>by have:=(hBi s' hs').1;omega) hfar
   rw[←hsplit]at this
   exact this
  have hlist:(fun j=>(listed.setIfInBounds i true).getD j false)=fun j=>j==s.i||listed.getD j false:=by
   funext j
   rw[hsi]
   by_cases hj:j=i
   ·subst hj
    simp[show j<listed.size by omega]
   ·have:(j==i)=false:=by simpa using hj
    rw[this,Bool.false_or]
    exact getD_set_ne false (Ne.symm hj)
  have hstep:=step_snd (ops:=ops) (Q:=Q) (K:=wpAny P .any ops Q fuel (listed.setIfInBounds i true)) hsok (by rw[hsi,ho,hso]) hR.sr hag1 (fun h hh=>hag2 h (fun s' hs' hd' hm=>(hBf s' hs' hd').2.1 h hm hh) (fun s' hs' hd' hm=>(hAf s' hs' hd').2.1 h hm hh))
   (fun h hh=>by
    have hk:h∈s.rc.wh:=by rw[(hstp s hsT).2.2];exact List.mem_append.2 (.inl hh)
    exact hag2 h (fun s' hs' hd' hm=>(hBf s' hs' hd').2.2.1 h hm hk) (fun s' hs' hd' hm=>(hAf s' hs' hd').2.2 h hm hk))
   (fun h hh=>hun h (by have:=mem_news.1 hh;omega) fun s' hs' hd' hm=>by
    have h1:=mem_news.1 hh
    have h2:=mem_news.1 hm
    rw[hsplit]at hs'
    rcases List.mem_append.1 hs' with hs'|hs'
    ·have:=(hcA.ge s' hs').2
     omega
    ·rcases List.mem_cons.1 hs' with rfl|hs'
     ·rw[hsi,hDi]at hd';cases hd'
     ·have:=(hcB.ge s' hs').1
      omega)
   (fun d hdd=>by rw[hR.sz];exact hd s hsT d hdd)
   (fun a' w' Z' σ' k1 k2 k3 k4 k5 k6=>by
    refine ih _ a' w' Z' σ' (by simpa using hsz) ?_ ?_ ?_ ?_
    ·rw[hlist]
     have:=(cnt_insert (D:=fun j=>listed.getD j false) (i:=s.i) (by rw[hsi];exact hDi) (N:=ops.size)).1 (by rw[hsi];exact hin)
     omega
    ·intro j o' ho' hj e he hb
     by_cases hji:j=i
     ·subst hji
      rw[Array.getElem?_toList,ho]at ho'
      cases ho'
      exact getD_set_true (hdeps e he hb)
     ·rw[getD_set_ne false (Ne.symm hji)]at hj
      exact getD_set_true (hcl j o' ho' hj e he hb)
    ·rw[hlist,hfi]
     exact⟨k1,hR.ext.trans k2,fun h=>(k3 h).trans (hR.sle h),k5.trans hR.sz,k6.trans hR.df⟩
    ·intro h hh hno
     refine k4.no h (hun h hh fun s' hs' hd'=>hno s' hs' (getD_set_true hd')) (hno s hsT ?_)
     rw[hsi]
     simp[show i<listed.size by omega])
  rw[hsi]at hstep
  exact hstep
end
structure Inv (gv:Nat→AV) (nr:Nat) (Z0:Nat→Prop) (w0:World) (σ0:Nat→Sh) (hp0:Nat→Ob) (N:Nat) (s:St) (a:Act) (w:World) (Z:Nat→Prop) (σ:Nat→Sh):Prop where
 sr:SR gv Z w σ s.tm s.hp a
 ext:Ext Z0 w0 σ0 hp0 Z w σ s.hp
 rt: ∀h,h<nr→SleW (σ h) (σ0 h)
 rl: ∀h,h<nr→σ0 h≠ .un
 un: ∀h,s.n≤h→σ h= .un
 sz:a.tmps.size=N
 df:a.defers=[]
section
variable {gv:Nat→AV} {nr N:Nat} {Z0 Z Z':Nat→Prop} {w0 w w':World} {σ0 σ σ':Nat→Sh} {hp0 hp hp':Nat→Ob} {s s':St} {a:Act}
theorem Inv.step (I:Inv gv nr Z0 w0 σ0 hp0 N s a w Z σ) {n':Nat} (m:MR gv Z' w σ' hp') (x:Ext Z w σ s.hp Z' w σ' hp') (sl: ∀h,Sle (σ' h) (σ h)) (hu: ∀h,n'≤h→σ' h= .un):Inv gv nr Z0 w0 σ0 hp0 N { tm:=s.tm,hp:=hp',n:=n' } a w Z' σ':=
 ⟨⟨m,fun t=>(I.sr.tms t).mono ⟨x.z,fun _ _=>rfl⟩ fun h _=>sl h⟩,I.ext.trans x,fun h hh=>((sl h).w ((I.rt h hh).un (I.rl h hh))).trans (I.rt h hh),I.rl,hu,I.sz,I.df⟩
def At (s:St) (a:Act) (w:World) (σ:Nat→Sh) (t:Nat) (c:Option Nat) (u:Value):Prop:=match c with
 | none=>u=a.tmps.getD t undef
 | some c=>match s.tm t with
  | .agg _=> ∃cs,a.tmps.getD t undef= .agg cs∧cs[c]?=some u
  | .ptr h _ _=>match s.hp h with
   | .B _=> ∃b k cc el,σ h= .B b k∧w.heap[b]?=some (.cells cc el (0,0))∧cc[c]?=some u
   | _=>False
  | _=>False
theorem getP_at (h:SR gv Z w σ s.tm s.hp a) {t:Nat} {c:Option Nat} {v:AV} (hs:setP s t c v=some s'): ∃u,At s a w σ t c u∧VR Z w σ (getP s t c) [u]:=by
 cases c with
 | none=>exact⟨_,rfl,h.tms t⟩
 | some c=>
  simp only[setP]at hs
  simp only[At,getP]
  split at hs
  ·rename_i cs ht
   split at hs
   case isFalse=>cases hs
   rename_i hc
   have hv:=h.tms t
   rw[ht]at hv
   obtain⟨c',e,hv,il⟩:=hv
   simp only[List.cons.injEq,and_true]at e
   obtain⟨u,h1,h2⟩:=hv.nth hc
   rw[ht]
   exact⟨u,⟨c',e,by simpa using h1⟩,h2⟩
  ·rename_i g i k ht
   split at hs
   case h_2=>cases hs
   rename_i cs hg
   split at hs
   case isFalse=>cases hs
   rename_i hc
   obtain⟨b,c0,el,h1,h2,h3,h4,h5⟩:=h.mem.B hg
   obtain⟨u,h6,h7⟩:=h4.nth hc.2
   rw[ht]
   simp only[hg]
   exact⟨u,⟨b,_,c0,el,h1,h2,by simpa using h6⟩,h7⟩
  ·cases hs
theorem splice_same {l:List Value} {c:Nat} {u:Value} (h:l[c]?=some u):l.take c++[u]++l.drop (c+1)=l:=by
 obtain⟨h1,h2⟩:=List.getElem?_eq_some_iff.1 h
 rw[List.append_assoc,List.singleton_append, ←h2,List.getElem_cons_drop,List.take_append_drop]
theorem setP_snd (h:SR gv Z w σ s.tm s.hp a) {t:Nat} {c:Option Nat} {v:AV} {u:Value} (hat:At s a w σ t c u) (hv:VR Z w σ v [u]) (hs:setP s t c v=some s'):
  SR gv Z w σ s'.tm s'.hp a∧s'.n=s.n∧Ext Z w σ s.hp Z w σ s'.hp:=by
 cases c with
 | none=>
  simp only[setP,Option.some.injEq]at hs
  subst hs
  refine⟨⟨h.mem,fun t'=>?_⟩,rfl,Ext.refl _ _ _ _⟩
  have hat:u=a.tmps.getD t undef:=hat
  by_cases e:t'=t
  ·subst e
   show VR Z w σ (upd s.tm t' v t') _
   rw[upd_same, ←hat]
   exact hv
  ·show VR Z w σ (upd s.tm t v t') _
   rw[upd_ne _ _ e]
   exact h.tms t'
 | some c=>
  simp only[setP]at hs
  simp only[At]at hat
  split at hs
  ·rename_i cs ht
   split at hs
   case isFalse=>cases hs
   rename_i hc
   simp only[Option.some.injEq]at hs
   subst hs
   rw[ht]at hat
   obtain⟨c',e1,e2⟩:=hat
   have hv':=h.tms t
   rw[ht,e1]at hv'
   obtain⟨c'',e,hv',il⟩:=hv'
   cases e
   obtain⟨p1,p2,p3⟩:=put_VR (off:=c) (vs:= .cn v .e0) (m:=[u]) hv' il ⟨u,[],rfl,hv,rfl,rfl⟩ rfl (by simp[AV.len];omega)
   rw[List.length_singleton,splice_same (by simpa using e2)]at p1
   refine⟨⟨h.mem,fun t'=>?_⟩,rfl,Ext.refl _ _ _ _⟩
   by_cases e:t'=t
   ·subst e
    show VR Z w σ (upd s.tm t' _ t') _
    rw[upd_same,e1]
    exact⟨c',rfl,p1,p2⟩
   ·show VR Z w σ (upd s.tm t _ t') _
    rw[upd_ne _ _ e]
    exact h.tms t'
  ·rename_i g i k ht
   split at hs
   case h_2=>cases hs
   rename_i cs hg
   split at hs
   case isFalse=>cases hs
   rename_i hc
   simp only[Option.some.injEq]at hs
   subst hs
   rw[ht]at hat
   simp only[hg]at hat
   obtain⟨b,k',cc,el,e1,e2,e3⟩:=hat
   obtain⟨b',c0,el',h1,h2,h3,h4,h5⟩:=h.mem.B hg
   rw[e1]at h1
   cases h1
   rw[e2]at h2
   cases h2
   obtain⟨p1,p2,p3⟩:=put_VR (off:=c) (vs:= .cn v .e0) (m:=[u]) h4 h5 ⟨u,[],rfl,hv,rfl,rfl⟩ rfl (by simp[AV.len];omega)
   rw[List.length_singleton,splice_same (by simpa using e3)]at p1
   have hst:=MR.step (w':=w) (Z':=Z) (σ':=σ) (hp':=upd s.hp g (.B (cs.put c (.cn v .e0)))) h.mem (· =g) (fun g h=>g=h) (fun _ _=>False) rfl rfl rfl (Nat.le_refl _) (fun _ _ _=>rfl) (fun _ h=>h) (fun _ h=> .inl h) h.mem.zlt (fun _=> .same _)
    (fun j hj=>⟨upd_ne _ _ hj,rfl,fun b hb=>⟨rfl,(h.mem.olt ⟨j,hb⟩).2⟩⟩)
    (fun j hj=>by
     subst hj
     rw[upd_same]
     exact⟨fun _=>⟨b,cc,el,by rw[e1,p3],e2,h3,p1,p2⟩,fun e=>(by rw[e1]at e;cases e),fun b' hb'=> .inl ⟨j,rfl,by rw[hg,e1];rw[e1]at hb';exact hb'⟩⟩)
    (fun _ _=>rfl) (fun _ _ _ e1 e2=>e1.symm.trans e2) (fun _ _ h=>h.elim) (fun _ _ _ h=>h.elim)
   exact⟨⟨hst.1,h.tms⟩,rfl,hst.2⟩
  ·cases hs
theorem At.kept {t:Nat} {c:Option Nat} {u:Value} (h:At s a w σ t c u) (ht:s'.tm=s.tm) (hb: ∀g cs,s.hp g= .B cs→s'.hp g= .B cs∧σ' g=σ g):At s' a w σ' t c u:=by
 cases c with
 | none=>exact h
 | some c=>
  simp only[At]at h ⊢
  rw[ht]
  split
  ·rename_i cs hc
   rw[hc]at h
   exact h
  ·rename_i g i k hc
   rw[hc]at h
   simp only at h
   split at h
   ·rename_i cs hg
    obtain⟨e1,e2⟩:=hb g cs hg
    simp only[e1]
    obtain⟨b,k',cc,el,h1,h2,h3⟩:=h
    exact⟨b,k',cc,el,e2.trans h1,h2,h3⟩
   ·exact h.elim
  ·rename_i h1 h2
   split at h
   ·rename_i cs hc
    exact absurd hc (h1 cs)
   ·rename_i g i k hc
    exact absurd hc (h2 g i k)
   ·exact h
theorem B_same (m:MR gv Z w σ hp) (m':MR gv Z' w' σ' hp') (sl: ∀h,Sle (σ' h) (σ h)) {g:Nat} {cs:AV} (h:hp g= .B cs) (h':hp' g= .B cs):σ' g=σ g:=by
 obtain⟨b,c,el,e1,_⟩:=m.B h
 obtain⟨b',c',el',e2,_⟩:=m'.B h'
 have:=sl g
 rw[e1,e2]at this ⊢
 cases this
 rfl
theorem MR.bare (m:MR gv Z w σ hp) {n:Nat} (hn:σ n= .un) {sh:Sh} {ob:Ob} (hs:sh≠ .un) (hor:OR Z w (upd σ n sh) ob sh) (hbl: ∀b, ¬blks ob sh b):
  MR gv Z w (upd σ n sh) (upd hp n ob)∧Ext Z w σ hp Z w (upd σ n sh) (upd hp n ob)∧(∀h,Sle (upd σ n sh h) (σ h)):=by
 have hsle: ∀h,Sle (upd σ n sh h) (σ h):=fun h=>by
  by_cases hh:h=n
  ·subst hh
   rw[hn]
   exact .new _
  ·rw[upd_ne _ _ hh]
   exact .same _
 have hst:=MR.step (σ':=upd σ n sh) (hp':=upd hp n ob) (Z':=Z) (w':=w) m (· =n) (fun g h=>g=h) (fun _ _=>False) rfl rfl rfl (Nat.le_refl _) (fun _ _ _=>rfl) (fun _ h=>h) (fun b hb=> .inl hb) m.zlt hsle
  (fun h hh=>⟨upd_ne _ _ hh,upd_ne _ _ hh,fun b hb=>⟨rfl,(m.olt ⟨h,hb⟩).2⟩⟩)
  (fun h hh=>by
   subst hh
   rw[upd_same,upd_same]
   exact⟨fun _=>hor,fun e=>absurd e hs,fun b hb=>absurd hb (hbl b)⟩)
  (fun _ _=>rfl) (fun g h h' e1 e2=>e1.symm.trans e2) (fun _ _ h=>h.elim) (fun _ _ _ h=>h.elim)
 exact⟨hst.1,hst.2,hsle⟩
theorem mkL_nil (e:Ty): ∃sh,sh≠ .un∧(∀b, ¬blks (mkL e []) sh b)∧(∀Z w σ,OR Z w σ (mkL e []) sh)∧ ∀h,HV sh (.sl h none none) (.slice none 0 0):=by
 have flat: ∃sh,sh≠ .un∧(∀b, ¬blks (.L e []) sh b)∧(∀Z w σ,OR Z w σ (.L e []) sh)∧ ∀h,HV sh (.sl h none none) (.slice none 0 0):=
  ⟨.S e.sz 0 none none,by simp,fun _ h=>h,fun _ _ _=>⟨none,rfl,rfl⟩,fun _=>⟨⟨none,0,rfl,Nat.le_refl _, .inl rfl⟩,by simp[ofs,slenN]⟩⟩
 have rows: ∀e':Ty, ∃sh,sh≠ .un∧(∀b, ¬blks (.N e' none [] 0 none) sh b)∧(∀Z w σ,OR Z w σ (.N e' none [] 0 none) sh)∧ ∀h,HV sh (.sl h none none) (.slice none 0 0):=fun e'=>
  ⟨.S 1 0 none (some { v:=0,sz:=e'.sz,row:=fun _=>(none,0),pd:=none }),by simp,(fun b h=>by
   rcases h with h|⟨i,hi,_⟩|⟨h,_⟩
   ·exact h
   ·simp at hi
   ·cases h),fun Z w σ=>⟨none,_,rfl,rfl,{ sz:=rfl,out:=fun _ _=>rfl,len:=fun i xs hx=>(by simp at hx),own:=fun i xs hx=>(by simp at hx),head:=fun i hi=>(by simp[numOf]at hi),blk:=fun _ _ _ h=>(by cases h),off:=fun _ _ h=>h.elim,sep:=fun _ i _ hi=>(by simp at hi),pd0:=fun _=>rfl,pd1:=fun _ _ h=>(by cases h) }⟩,
   fun _=>⟨⟨none,0,rfl,Nat.le_refl _, .inl rfl⟩,by simp[ofs,slenN]⟩⟩
 cases e with
 | sl e'=>cases e' with
  | int k=>exact rows _
  | bool=>exact rows _
  | _=>exact flat
 | _=>exact flat
theorem frz_obj {hp:Nat→Ob}: ∀{v v':AV} {fs:List Nat},frz hp v=some (v',fs)→ ∀g∈fs, ∀cs,hp g≠ .B cs
 | .sl h off len,v',fs,e,g,hg,cs=>by
  simp only[frz]at e
  split at e
  ·rename_i hh;cases e;simp only[List.mem_singleton]at hg;rw[hg,hh];simp
  ·rename_i hh;cases e;simp only[List.mem_singleton]at hg;rw[hg,hh];simp
  ·rename_i hh;cases e;simp only[List.mem_singleton]at hg;rw[hg,hh];simp
  ·cases e
 | .p t x,v',fs,e,g,hg,cs=>by cases e;cases hg
 | .nil,v',fs,e,g,hg,cs=>by cases e;cases hg
 | .e0,v',fs,e,g,hg,cs=>by cases e;cases hg
 | .cn a b,v',fs,e,g,hg,cs=>by
  simp only[frz]at e
  split at e
  case h_2=>cases e
  rename_i a' l1 ha
  split at e
  case h_2=>cases e
  rename_i b' l2 hb
  cases e
  rcases List.mem_append.1 hg with hg|hg
  ·exact frz_obj ha g hg cs
  ·exact frz_obj hb g hg cs
 | .agg c,v',fs,e,g,hg,cs=>by
  simp only[frz]at e
  split at e
  case h_2=>cases e
  rename_i c' l1 hc
  cases e
  exact frz_obj hc g hg cs
 | .any,_,_,e,_,_,_=>by cases e
 | .k _,_,_,e,_,_,_=>by cases e
 | .ptr _ _ _,_,_,e,_,_,_=>by cases e
 | .row _ _ _ _ _,_,_,e,_,_,_=>by cases e
 | .prw _ _ _ _ _,_,_,e,_,_,_=>by cases e
 | .pap _ _,_,_,e,_,_,_=>by cases e
 | .tup _,_,_,e,_,_,_=>by cases e
 | .clo _ _,_,_,e,_,_,_=>by cases e
 | .rp _ _,_,_,e,_,_,_=>by cases e
 | .rl _ _ _ _,_,_,e,_,_,_=>by cases e
theorem MR.rename (m:MR gv Z w σ hp) (hgv: ∀g,hs (gv g)=[]) {ord:List Nat} (hnd:ord.Nodup) (hlive: ∀h∈ord,σ h≠ .un):
  ∃σc:Nat→Sh,(∀i h,ord[i]?=some h→σc i=shCo (hp h) (σ h))∧(∀i,ord.length≤i→σc i= .un)∧(∀i,i<ord.length→σc i≠ .un)∧MR gv Z w σc (obsF (ord.map fun h=>renO (fun h=>idxOf h ord 0) (vers hp) (hp h)))∧
   (∀b,owned σc (obsF (ord.map fun h=>renO (fun h=>idxOf h ord 0) (vers hp) (hp h))) b→owned σ hp b)∧ ∀{v:AV} {l:List Value},VR Z w σ v l→VR Z w σc (ren (fun h=>idxOf h ord 0) (vers hp) v) l:=by
 have hidx: ∀h j,idxOf h ord 0=some j→ord[j]?=some h:=fun h j e=>by
  obtain⟨k,e1,e2⟩:=idxOf_some e
  have:j=k:=by omega
  rw[this]
  exact e2
 obtain⟨σc,hσcd⟩: ∃σc:Nat→Sh,(fun i=>match ord[i]? with|some h=>shCo (hp h) (σ h)|none=>Sh.un)=σc:=⟨_,rfl⟩
 have hσc: ∀i h,ord[i]?=some h→σc i=shCo (hp h) (σ h):=fun i h e=>by rw[←hσcd];simp only[e]
 have hσcn: ∀i,ord[i]?=none→σc i= .un:=fun i e=>by rw[←hσcd];simp only[e]
 have hrenc: ∀g j,idxOf g ord 0=some j→RenOk (vers hp g) (σ g) (σc j):=fun g j e=>by
  rw[hσc j g (hidx g j e)]
  exact renOk_Co fun hd sz k p q hs=>vers_ok (hp:=hp) m rfl hd hs
 have hins: ∀i h,ord[i]?=some h→obsF (ord.map fun h=>renO (fun h=>idxOf h ord 0) (vers hp) (hp h)) i=renO (fun h=>idxOf h ord 0) (vers hp) (hp h):=fun i h e=>by
  simp only[obsF,List.getD_eq_getElem?_getD,List.getElem?_map,e]
  rfl
 have hinn: ∀i,ord[i]?=none→obsF (ord.map fun h=>renO (fun h=>idxOf h ord 0) (vers hp) (hp h)) i= .dead:=fun i e=>by
  simp only[obsF,List.getD_eq_getElem?_getD,List.getElem?_map,e]
  rfl
 have hobc: ∀i h,ord[i]?=some h→OR Z w σc (renO (fun h=>idxOf h ord 0) (vers hp) (hp h)) (shCo (hp h) (σ h))∧ ∀b,blks (renO (fun h=>idxOf h ord 0) (vers hp) (hp h)) (shCo (hp h) (σ h)) b→blks (hp h) (σ h) b:=fun i h e=>by
  obtain⟨h3,_,h4,_⟩:=renO_OR (f:=fun h=>idxOf h ord 0) (c:=vers hp) (σ':=σc) (m.ob h (hlive h (List.mem_of_getElem? e))) fun g _ j hj=>hrenc g j hj
  exact⟨h3,h4⟩
 have hbl: ∀i b,blks (obsF (ord.map fun h=>renO (fun h=>idxOf h ord 0) (vers hp) (hp h)) i) (σc i) b→ ∃h,ord[i]?=some h∧blks (hp h) (σ h) b:=fun i b hb=>by
  cases e:ord[i]? with
  | none=>rw[hinn i e]at hb;cases hs:σc i<;>rw[hs]at hb<;>exact hb.elim
  | some h=>
   rw[hins i h e,hσc i h e]at hb
   exact⟨h,rfl,(hobc i h e).2 b hb⟩
 refine⟨σc,hσc,fun i hi=>hσcn i (List.getElem?_eq_none_iff.2 hi),fun i hi=>?_,⟨fun i hi=>?_,fun i hi=>?_,fun i i' b h1 h2=>?_,m.zlt,fun g=>(m.gl g).free (hgv g) (Kept.refl Z w)⟩,fun b ⟨i,hb⟩=>?_,fun hv=>ren_VR hv fun h _ j hj=>hrenc h j hj⟩
 ·have e:ord[i]?=some ord[i]:=by simp[hi]
  rw[hσc i _ e]
  exact shCo_ne (hlive _ (by simp))
 ·cases e:ord[i]? with
  | none=>exact absurd (hσcn i e) hi
  | some h=>
   rw[hins i h e,hσc i h e]
   exact(hobc i h e).1
 ·cases e:ord[i]? with
  | none=>exact hinn i e
  | some h=>
   rw[hσc i h e]at hi
   exact absurd hi (shCo_ne (hlive h (List.mem_of_getElem? e)))
 ·obtain⟨h,e,h3⟩:=hbl i b h1
  obtain⟨h',e',h4⟩:=hbl i' b h2
  have:=m.sep h h' b h3 h4
  subst this
  exact nodup_get hnd e e'
 ·obtain⟨h,_,h3⟩:=hbl i b hb
  exact⟨h,h3⟩
theorem Ext.sub (x:Ext Z0 w0 σ0 hp0 Z w σ hp) (h: ∀b,owned σ' hp' b→owned σ hp b):Ext Z0 w0 σ0 hp0 Z w σ' hp':=⟨x.os,x.tape,x.out,x.size,x.same,x.z,x.zn,fun b hb=>x.own b (h b hb)⟩
theorem shCo_w {o:Ob} {s s0:Sh} (h:SleW s s0) (hs:s0≠ .un):SleW (shCo o s) s0:=by
 have hn:=h.un hs
 have: ∀s,SleW s s0→SleW (shC s) s0:=fun s h=>by
  cases s with
  | S sz n p r=>cases r with
   | none=>exact h
   | some r=>cases h with
    | same=>exact .rows _ _ _ _ _
    | rows=>exact .rows _ _ _ _ _
  | _=>exact h
 cases o with
 | dead=>exact .dead _ hs
 | _=>exact this s h
theorem lk_map {f:Nat→AV} {t:Nat}: ∀{ts:List Nat},lk (ts.map fun t=>(t,f t)) t=if t∈ts then f t else .any
 | []=>by simp[lk]
 | x::ts=>by
  simp only[List.map_cons,lk]
  by_cases h:x=t
  ·subst h
   simp[Nat.beq_refl]
  ·have:Nat.beq x t=false:=by
    cases hb:Nat.beq x t
    ·rfl
    ·exact absurd (Nat.eq_of_beq_eq_true hb) h
   rw[this,cond_false,lk_map]
   simp[Ne.symm h]
theorem slotsV_hs {tm:Nat→AV} {h:Nat}: ∀{ts:List Nat},h∈hs (slotsV tm ts)→ ∃t∈ts,h∈hs (tm t)
 | x::ts,hh=>by
  simp only[slotsV,hs,List.mem_append]at hh
  rcases hh with hh|hh
  ·exact⟨x,by simp,hh⟩
  ·obtain⟨t,h1,h2⟩:=slotsV_hs hh
   exact⟨t,by simp[h1],h2⟩
end
end Go.Proofs.YtkeiedikiiccpaaGreatDoor.Am
