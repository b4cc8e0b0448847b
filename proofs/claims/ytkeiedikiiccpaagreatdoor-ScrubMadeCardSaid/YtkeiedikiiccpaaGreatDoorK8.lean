/- A part of the proof of ScrubMade: lemmas. No conditions beyond those of each lemma. -/
import Derived.Test.YtkeiedikiiccpaaGreatDoorK7
import Derived.Test.YtkeiedikiiccpaaGreatDoorK1
import Derived.ChangeShapes
import Derived.ChangeArms
import Derived.OpenShut
import Derived.DataReads
set_option linter.all false
namespace Go.Proofs.YtkeiedikiiccpaaGreatDoor.Am
open Go
section
variable {gv:Nat→AV} {nr N:Nat} {Z0 Z Z1:Nat→Prop} {w0 w:World} {σ0 σ σ1:Nat→Sh} {hp0:Nat→Ob} {s s1 s':St} {a:Act}
theorem setP_same (ht:s1.tm=s.tm) (hB: ∀h cs,s1.hp h= .B cs↔s.hp h= .B cs) {t:Nat} {c:Option Nat} {v:AV} (h:setP s1 t c v=some s'): ∃s2,setP s t c v=some s2:=by
 cases c with
 | none=>exact⟨_,rfl⟩
 | some c=>
  simp only[setP,ht]at h ⊢
  split at h
  ·split at h
   ·rename_i hc
    exact⟨_,by rw[if_pos hc]⟩
   ·cases h
  ·rename_i g i k hg
   split at h
   ·rename_i cs hb
    rw[(hB g cs).1 hb]
    split at h
    ·rename_i hc
     exact⟨_,by simp only[if_pos hc];rfl⟩
    ·cases h
   ·cases h
  ·cases h
theorem ghost_set (I:Inv gv nr Z0 w0 σ0 hp0 N s a w Z σ) (I1:Inv gv nr Z0 w0 σ0 hp0 N s1 a w Z1 σ1) (ht:s1.tm=s.tm) (hB: ∀h cs,s1.hp h= .B cs↔s.hp h= .B cs) (sl: ∀h,Sle (σ1 h) (σ h)) {t:Nat} {c:Option Nat} {v:AV}
  (hv: ∀u,VR Z w σ (getP s t c) [u]→VR Z1 w σ1 v [u]) (hs:setP s1 t c v=some s'):Inv gv nr Z0 w0 σ0 hp0 N s' a w Z1 σ1:=by
 obtain⟨s2,h2⟩:=setP_same ht hB hs
 obtain⟨u,h3,h4⟩:=getP_at I.sr h2
 obtain⟨h5,h6,h7⟩:=setP_snd I1.sr (h3.kept ht fun g cs hg=>⟨(hB g cs).2 hg,B_same I.sr.mem I1.sr.mem sl hg ((hB g cs).2 hg)⟩) (hv u h4) hs
 exact⟨h5,I1.ext.trans h7,I1.rt,I1.rl,fun h hh=>I1.un h (by rw[h6]at hh;exact hh),I1.sz,I1.df⟩
theorem toF_notB (hp:Nat→Ob) (h:Nat) (cs:AV):(toF hp h).2≠ .B cs:=by
 unfold toF
 cases hp h with
 | N e ids st v pd=>cases ids<;>simp
 | _=>simp
theorem mkL_notB (e:Ty) (xs:List e.den) (cs:AV):mkL e xs≠ .B cs:=by
 cases e with
 | sl e'=>cases e'<;>simp[mkL]
 | _=>simp[mkL]
theorem Rws.norm {e:Ty} {l:List Nat} {st:List (List e.den)} {pd:Option (Nat×List e.den)} {p:Pl} {r:NI} (h:Rws Z w e (some l) st pd p r) (hn:l.Nodup) (hl: ∀i∈l,i<st.length) (v:Nat):
  Rws Z w e none (l.map (rowOf st)) none p { v:=v,sz:=r.sz,row:=fun j=>match l[j]? with|some i=>r.row i|none=>(none,0),pd:=none }:=by
 have hrow: ∀(j i:Nat),l[j]?=some i→(match l[j]? with|some i=>r.row i|none=>((none:Pl),0))=r.row i:=fun j i e=>by rw[e]
 have hget: ∀j,j<l.length→ ∃i,l[j]?=some i∧i<st.length:=fun j hj=>⟨l[j],by simp[hj],hl _ (by simp)⟩
 refine { sz:=h.sz,out:=fun j hj=>?_,len:=fun j xs hx=>?_,own:=fun j xs hx=>?_,head:=fun j hj=>?_,blk:=fun b s m e=>?_,off:=fun b j hb hj hx=>?_,sep:=fun b j k hj hk h1 h2=>?_,pd0:=fun _=>rfl,pd1:=fun _ _ h=>(by cases h) }
 ·rw[List.length_map]at hj
  simp only[List.getElem?_eq_none hj]
 ·rw[List.getElem?_map]at hx
  obtain⟨i,h1,rfl⟩:=Option.map_eq_some_iff.1 hx
  simp only[h1]
  have hi:=hl i (List.mem_of_getElem? h1)
  exact h.len i _ (by simp[rowOf,hi])
 ·rw[List.getElem?_map]at hx
  obtain⟨i,h1,rfl⟩:=Option.map_eq_some_iff.1 hx
  simp only[h1]
  have hi:=hl i (List.mem_of_getElem? h1)
  exact h.own i _ (by simp[rowOf,hi])
 ·simp only[numOf,List.length_map]at hj
  obtain⟨b,s,m,x,e1,e2,e3⟩:=h.head j hj
  obtain⟨i,h1,h2⟩:=hget j hj
  refine⟨b,s,m,x,e1,e2,?_⟩
  have:idAt (some l) j=i:=by simp[idAt,h1]
  rw[this]at e3
  show Hdr e.sz (match l[j]? with|some i=>r.row i|none=>((none:Pl),0)).1 0 (match l[j]? with|some i=>r.row i|none=>((none:Pl),0)).2 x
  rw[hrow j i h1]
  exact e3
 ·obtain⟨h1,h2,h3⟩:=h.blk b s m e
  exact⟨by simpa[numOf]using h1,h2,h3⟩
 ·rw[List.length_map]at hj
  obtain⟨i,h1,h2⟩:=hget j hj
  simp only[h1]at hx
  exact h.off b i hb h2 hx
 ·rw[List.length_map]at hj hk
  obtain⟨i,e1,e2⟩:=hget j hj
  obtain⟨i',e3,e4⟩:=hget k hk
  simp only[e1]at h1
  simp only[e3]at h2
  have:=h.sep b i i' e2 e4 h1 h2
  subst this
  exact nodup_get hn e1 e3
theorem gE_snd (hgv: ∀g,hs (gv g)=[]) {g:G} {K:St→Option FRes} {r:FRes} {s:St} (h:gE nr g s K=some r): ∃s',K s'=some r∧ ∀{N:Nat} {Z0:Nat→Prop} {w0:World} {σ0:Nat→Sh} {hp0:Nat→Ob} {a:Act} {w:World} {Z:Nat→Prop} {σ:Nat→Sh},
  Inv gv nr Z0 w0 σ0 hp0 N s a w Z σ→ ∃Z' σ',Inv gv nr Z0 w0 σ0 hp0 N s' a w Z' σ':=by
 cases g with
 | frz t c=>
  simp only[gE]at h
  split at h
  case h_2=>cases h
  rename_i v fs hf
  split at h
  case h_2=>cases h
  rename_i s' hs
  refine⟨s',h,fun {N Z0 w0 σ0 hp0 a w Z σ} I=>?_⟩
  obtain⟨u0,_,hvu⟩: ∃u,True∧VR Z w σ (getP s t c) [u]:=by
   have hB0: ∀h cs,wrs s.hp (fs.map (toF s.hp)) h= .B cs↔s.hp h= .B cs:=fun h cs=>by
    rw[wrs_F]
    split
    ·rename_i hm
     exact⟨fun e=>absurd e (toF_notB s.hp h cs),fun e=>absurd e (frz_obj hf h hm cs)⟩
    ·exact Iff.rfl
   obtain⟨s2,h2⟩:=setP_same (s1:={ s with hp:=wrs s.hp (fs.map (toF s.hp)) }) (s:=s) rfl hB0 hs
   obtain⟨u,_,h4⟩:=getP_at I.sr h2
   exact⟨u,trivial,h4⟩
  have hB: ∀h cs,wrs s.hp (fs.map (toF s.hp)) h= .B cs↔s.hp h= .B cs:=fun h cs=>by
   rw[wrs_F]
   split
   ·rename_i hm
    exact⟨fun e=>absurd e (toF_notB s.hp h cs),fun e=>absurd e (frz_obj hf h hm cs)⟩
   ·exact Iff.rfl
  have hlive:=(frz_VR (σ':=σ) I.sr.mem (ZF_kept I.sr.mem fs) hf (fun _ _=>rfl) (fun h hm b hb=> .inr ⟨h,hm,hb⟩) hvu).2.1
  obtain⟨σ1,m1,x1,s1,u1,_,_⟩:=I.sr.mem.frz fs hlive
  have I1:=I.step (n':=s.n) m1 x1 s1 fun h hh=>(u1 h).2 (I.un h hh)
  exact⟨_,σ1,ghost_set I I1 rfl hB s1 (fun u hu=>(frz_VR (σ':=σ1) I.sr.mem (ZF_kept I.sr.mem fs) hf (fun _ _=>rfl) (fun h hm b hb=> .inr ⟨h,hm,hb⟩) hu).1) hs⟩
 | own t c e=>
  simp only[gE]at h
  split at h
  ·rename_i hg
   split at h
   case h_2=>cases h
   rename_i s' hs
   refine⟨s',h,fun {N Z0 w0 σ0 hp0 a w Z σ} I=>?_⟩
   have hun:σ s.n= .un:=I.un s.n (Nat.le_refl _)
   obtain⟨sh,h1,h2,h3,h4⟩:=mkL_nil e
   obtain⟨m1,x1,s1⟩:=I.sr.mem.bare hun h1 (h3 Z w _) h2
   have I1:=I.step (n':=s.n+1) m1 x1 s1 fun h hh=>by rw[upd_ne _ _ (by omega)];exact I.un h (by omega)
   have hB: ∀h cs,upd s.hp s.n (mkL e []) h= .B cs↔s.hp h= .B cs:=fun h cs=>by
    by_cases hh:h=s.n
    ·subst hh
     rw[upd_same,I.sr.mem.un s.n hun]
     exact⟨fun e'=>absurd e' (mkL_notB e [] cs),fun e'=>by cases e'⟩
    ·rw[upd_ne _ _ hh]
   refine⟨_,_,ghost_set I I1 rfl hB s1 (fun u hu=>?_) hs⟩
   rw[hg]at hu
   cases hu
   refine⟨_,rfl,?_⟩
   rw[upd_same]
   exact h4 _
  ·exact⟨s,h,fun I=>⟨_,_,I⟩⟩
 | dat t c e=>
  simp only[gE]at h
  split at h
  ·rename_i hg
   split at h
   case h_2=>cases h
   rename_i s' hs
   refine⟨s',h,fun {N Z0 w0 σ0 hp0 a w Z σ} I=>?_⟩
   refine⟨Z,σ,ghost_set I I rfl (fun _ _=>Iff.rfl) (fun _=> .same _) (fun u hu=>?_) hs⟩
   rw[hg]at hu
   cases hu
   exact⟨rfl,none,0,rfl,Nat.le_refl _, .inl rfl⟩
  ·exact⟨s,h,fun I=>⟨_,_,I⟩⟩
 | shr t c=>
  simp only[gE]at h
  split at h
  ·exact⟨s,h,fun I=>⟨_,_,I⟩⟩
  ·rename_i g off len hne hg
   split at h
   case h_2=>cases h
   rename_i e xs hob
   split at h
   case isFalse=>cases h
   rename_i hnr
   split at h
   case h_2=>cases h
   rename_i s' hs
   refine⟨s',h,fun {N Z0 w0 σ0 hp0 a w Z σ} I=>?_⟩
   have hun:σ s.n= .un:=I.un s.n (Nat.le_refl _)
   obtain⟨p,p1,p2⟩:=I.sr.mem.L hob
   have hgn:g≠s.n:=fun e=>by rw[e,hun]at p1;cases p1
   have hB: ∀h cs,upd (upd s.hp g .dead) s.n (.L e (win xs off len)) h= .B cs↔s.hp h= .B cs:=fun h cs=>by
    by_cases hh:h=s.n
    ·subst hh
     rw[upd_same,I.sr.mem.un s.n hun]
     exact⟨fun e'=>(by cases e'),fun e'=>by cases e'⟩
    ·rw[upd_ne _ _ hh]
     by_cases hg':h=g
     ·subst hg'
      rw[upd_same,hob]
      exact⟨fun e'=>(by cases e'),fun e'=>by cases e'⟩
     ·rw[upd_ne _ _ hg']
   obtain⟨u0,hu0⟩: ∃u,VR Z w σ (getP s t c) [u]:=by
    obtain⟨s2,h2⟩:=setP_same (s1:={ s with hp:=upd (upd s.hp g .dead) s.n (.L e (win xs off len)),n:=s.n+1 }) (s:=s) rfl hB hs
    obtain⟨u,_,h4⟩:=getP_at I.sr h2
    exact⟨u,h4⟩
   rw[hg]at hu0
   obtain⟨_,e1,hv⟩:=hu0
   cases e1
   rw[p1]at hv
   obtain⟨_,hle⟩:=hv
   have hwl:=win_len xs off len hle
   obtain⟨p',q1,q2,q3⟩: ∃p':Pl,Own Z w p' e (win xs off len)∧(∀b,plB p' b→plB p b)∧ ∀u,Hdr e.sz p (ofs off) (slenN xs.length off len) u→Hdr e.sz p' 0 (slenN xs.length off len) u:=by
    match p,p2 with
    | none,p2=>
     have hx:xs=[]:=p2
     subst hx
     refine⟨none,List.eq_nil_of_length_eq_zero (by rw[hwl];simp at hle;exact hle.2),fun b hb=>hb,fun u hu=>?_⟩
     obtain⟨a0,c0,e1,e2,e3⟩:=hu
     exact⟨a0,c0,e1,e2, .inl (e3.resolve_right fun⟨_,_,_,e,_⟩=>by cases e)⟩
    | some (b,s0,m0),⟨o1,o2,o3,o4⟩=>
     refine⟨some (b,s0+ofs off*e.sz,m0-ofs off),⟨by rw[hwl];omega,?_,o3,?_⟩,fun b hb=>hb,fun u hu=>?_⟩
     ·have:s0+ofs off*e.sz+(m0-ofs off)*e.sz=s0+m0*e.sz:=by
       rw[Nat.add_assoc, ←Nat.add_mul,Nat.add_sub_cancel' (by omega)]
      rw[this]
      exact o2
     ·rw[win_eq xs off len hle]
      exact o4.cut
     ·obtain⟨a0,c0,e1,e2,e3⟩:=hu
      refine⟨a0,c0,e1,e2,?_⟩
      rcases e3 with e3|⟨b',s',m',e3,e4,e5⟩
      ·exact .inl e3
      ·cases e3
       exact .inr ⟨b,_,_,rfl,by rw[e4];simp,by omega⟩
   obtain⟨σ1,m1,x1,s1,u1,n1⟩:=I.sr.mem.move (w':=w) hun [g] (by simp[hob]) rfl rfl rfl (Nat.le_refl _) (fun _ _ _=>rfl) (s:= .S e.sz (win xs off len).length p' none) (ob:= .L e (win xs off len)) (by simp)
    (fun _ _ _=>⟨p',rfl,q1⟩) (fun b hb=> .inl ⟨g,by simp,by rw[hob,p1];exact q2 b hb⟩)
   have I1:=I.step (n':=s.n+1) m1 x1 s1 fun h hh=>(u1 h).2 ⟨I.un h (by omega),by omega⟩
   refine⟨_,σ1,ghost_set I I1 rfl hB s1 (fun u hu=>?_) hs⟩
   rw[hg]at hu
   obtain⟨_,e1,hv⟩:=hu
   cases e1
   rw[p1]at hv
   refine⟨u,rfl,?_⟩
   rw[n1]
   have:=q3 u hv.1
   rw[←hwl]at this
   exact⟨by simpa[ofs,slenN]using this,by simp[ofs,slenN]⟩
  ·exact⟨s,h,fun I=>⟨_,_,I⟩⟩
 | nrm t c=>
  simp only[gE]at h
  split at h
  ·rename_i g off len hg
   split at h
   ·rename_i e l st v pd hob
    split at h
    case isFalse=>cases h
    rename_i hc
    obtain⟨hn,hl⟩:=hc
    have hl: ∀i∈l,i<st.length:=by simpa using hl
    refine⟨_,h,fun {N Z0 w0 σ0 hp0 a w Z σ} I=>?_⟩
    obtain⟨p,r0,p1,p2,p3⟩:=I.sr.mem.N hob
    have hs0:=p3.norm hn hl (v+1)
    have hnum:numOf (some l) st=numOf none (l.map (rowOf st)):=by simp[numOf]
    have hsle: ∀h,Sle (upd σ g (.S 1 (numOf none (l.map (rowOf st))) p (some { v:=v+1,sz:=r0.sz,row:=fun j=>match l[j]? with|some i=>r0.row i|none=>(none,0),pd:=none })) h) (σ h):=fun h=>by
     by_cases hh:h=g
     ·subst hh
      rw[upd_same,p1,hnum]
      exact .rows _ _ _ _ _ (.inl (by simp[p2]))
     ·rw[upd_ne _ _ hh]
      exact .same _
    have hst:=MR.step (w':=w) (Z':=Z) (σ':=upd σ g (.S 1 (numOf none (l.map (rowOf st))) p (some { v:=v+1,sz:=r0.sz,row:=fun j=>match l[j]? with|some i=>r0.row i|none=>(none,0),pd:=none }))) (hp':=upd s.hp g (.N e none (l.map (rowOf st)) (v+1) none)) I.sr.mem (· =g) (fun g h=>g=h) (fun _ _=>False) rfl rfl rfl (Nat.le_refl _) (fun _ _ _=>rfl) (fun _ h=>h) (fun _ h=> .inl h) I.sr.mem.zlt hsle
     (fun j hj=>⟨upd_ne _ _ hj,upd_ne _ _ hj,fun b hb=>⟨rfl,(I.sr.mem.olt ⟨j,hb⟩).2⟩⟩)
     (fun j hj=>by
      subst hj
      rw[upd_same,upd_same]
      refine⟨fun _=>⟨p,_,rfl,rfl,hs0⟩,fun e=>(by cases e),fun b hb=> .inl ⟨j,rfl,?_⟩⟩
      rw[hob,p1]
      rcases hb with hb|⟨k,hk,hb⟩|⟨hb,_⟩
      ·exact .inl hb
      ·rw[List.length_map]at hk
       have e:l[k]?=some l[k]:=by simp[hk]
       simp only[e]at hb
       exact .inr (.inl ⟨l[k],hl _ (by simp),hb⟩)
      ·cases hb)
     (fun _ _=>rfl) (fun _ _ _ e1 e2=>e1.symm.trans e2) (fun _ _ h=>h.elim) (fun _ _ _ h=>h.elim)
    have hgn: ∀k,s.n≤k→k≠g:=fun k hk e=>by rw[←e,I.un k hk]at p1;cases p1
    exact⟨Z,_,I.step (n':=s.n) hst.1 hst.2 hsle fun k hk=>by rw[upd_ne _ _ (hgn k hk)];exact I.un k hk⟩
   ·exact⟨s,h,fun I=>⟨_,_,I⟩⟩
  ·exact⟨s,h,fun I=>⟨_,_,I⟩⟩
 | fl t c=>
  simp only[gE]at h
  split at h
  ·rename_i g off len hg
   split at h
   ·rename_i e st v pd hob
    refine⟨_,h,fun {N Z0 w0 σ0 hp0 a w Z σ} I=>?_⟩
    obtain⟨p,r0,p1,p2,p3⟩:=I.sr.mem.N hob
    have hbl: ∀b,(∃i,i<st.length∧plB (r0.row i).1 b)→blks (s.hp g) (σ g) b:=fun b hb=>by rw[hob,p1];exact .inr (.inl hb)
    have hbh: ∀b,plB p b→blks (s.hp g) (σ g) b:=fun b hb=>by rw[hob,p1];exact .inl hb
    have hk:Kept Z w (fun b=>Z b∨ ∃i,i<st.length∧plB (r0.row i).1 b) w:=⟨fun _ h=> .inl h,fun _ _=>rfl⟩
    have hsle: ∀h,Sle (upd σ g (.S 1 st.length p none) h) (σ h):=fun h=>by
     by_cases hh:h=g
     ·subst hh
      rw[upd_same,p1]
      exact .flat _ _ _ _
     ·rw[upd_ne _ _ hh]
      exact .same _
    have hown:Own (fun b=>Z b∨ ∃i,i<st.length∧plB (r0.row i).1 b) w p (.sl e) st:=by
     match p,p3,hbh with
     | none,p3,_=>
      have:st=[]:=by
       cases st with
       | nil=>rfl
       | cons _ _=>obtain⟨_,_,_,_,e,_⟩:=p3.head 0 (by simp[numOf]);cases e
      exact this
     | some (b,s0,m0),p3,hbh=>
      obtain⟨b1,b2,b3⟩:=p3.blk b s0 m0 rfl
      refine⟨b1,by simpa[Ty.sz]using b2,fun hz=>?_,fun i x hx=>?_⟩
      ·rcases hz with hz|⟨i,hi,hz⟩
       ·exact b3 hz
       ·exact p3.off b i rfl hi hz
      ·have hi:i<st.length:=(List.getElem?_eq_some_iff.1 hx).1
       obtain⟨b',s',m',u,e1,e2,e3⟩:=p3.head i hi
       cases e1
       refine⟨[u],?_,fun j y hj=>?_⟩
       ·have h5:idAt none i=i:=rfl
        rw[h5,p3.len i x hx]at e3
        have h4:Frz (fun b=>Z b∨ ∃i,i<st.length∧plB (r0.row i).1 b) w (r0.row i).1 e x:=Frz.own (p3.own i x hx) hk fun b hb=> .inr ⟨i,hi,hb⟩
        have:=PV_hdr (off:=none) (len:=none) h4 (v:=u) e3 (by simp[ofs,slenN])
        simpa[win]using this
       ·cases j with
        | zero=>
         simp only[List.getElem?_cons_zero,Option.some.injEq]at hj
         subst hj
         simpa[Ty.sz]using e2
        | succ j=>simp at hj
    have hst:=MR.step (w':=w) (Z':=fun b=>Z b∨ ∃i,i<st.length∧plB (r0.row i).1 b) (σ':=upd σ g (.S 1 st.length p none)) (hp':=upd s.hp g (.L (.sl e) st)) I.sr.mem (· =g) (fun g h=>g=h) (fun _ _=>False) rfl rfl rfl (Nat.le_refl _) (fun _ _ _=>rfl) (fun _ h=> .inl h)
     (fun b hb=>hb.elim .inl fun h=> .inr (.inl ⟨g,hbl b h⟩)) (fun b hb=>hb.elim (I.sr.mem.zlt b) fun h=>(I.sr.mem.olt ⟨g,hbl b h⟩).1) hsle
     (fun j hj=>⟨upd_ne _ _ hj,upd_ne _ _ hj,fun b hb=>⟨rfl,fun hz=>hz.elim (I.sr.mem.olt ⟨j,hb⟩).2 fun h=>hj (I.sr.mem.sep j g b hb (hbl b h))⟩⟩)
     (fun j hj=>by
      subst hj
      rw[upd_same,upd_same]
      exact⟨fun _=>⟨p,rfl,hown⟩,fun e=>(by cases e),fun b hb=> .inl ⟨j,rfl,hbh b hb⟩⟩)
     (fun _ _=>rfl) (fun _ _ _ e1 e2=>e1.symm.trans e2) (fun _ _ h=>h.elim) (fun _ _ _ h=>h.elim)
    have hgn: ∀k,s.n≤k→k≠g:=fun k hk e=>by rw[←e,I.un k hk]at p1;cases p1
    exact⟨_,_,I.step (n':=s.n) hst.1 hst.2 hsle fun k hk=>by rw[upd_ne _ _ (hgn k hk)];exact I.un k hk⟩
   ·exact⟨s,h,fun I=>⟨_,_,I⟩⟩
  ·exact⟨s,h,fun I=>⟨_,_,I⟩⟩
 | kp ts=>
  simp only[gE]at h
  split at h
  case isFalse=>cases h
  rename_i hc
  simp only[Bool.and_eq_true,decide_eq_true_eq]at hc
  obtain⟨hnd,htk⟩:=hc
  generalize hord:keepOrd nr s.hp (slotsV s.tm ts)=ord at h hnd htk
  have hnd:=nodupB_iff hnd
  refine⟨_,h,fun {N Z0 w0 σ0 hp0 a w Z σ} I=>?_⟩
  have hlive: ∀h∈ord,σ h≠ .un:=by
   subst hord
   refine clos_live (hp:=s.hp) I.sr.mem (fun h hh=>?_) (fun _ _=>rfl)
   rcases mem_addNew.1 hh with hh|hh
   ·have:=List.mem_range.1 hh
    exact(I.rt h this).un (I.rl h this)
   ·obtain⟨t,_,h2⟩:=slotsV_hs hh
    exact(I.sr.tms t).live h h2
  obtain⟨σc,c1,c2,c3,c4,c5,c6⟩:=I.sr.mem.rename hgv hnd hlive
  refine⟨Z,σc,⟨⟨c4,fun t=>?_⟩,I.ext.sub c5,fun h hh=>?_,I.rl,fun h hh=>c2 h (by simpa[stC]using hh),I.sz,I.df⟩⟩
  ·show VR Z w σc (lk (ts.map fun t=>(t,ren (fun h=>idxOf h ord 0) (vers s.hp) (s.tm t))) t) _
   rw[lk_map]
   split
   ·exact c6 (I.sr.tms t)
   ·exact⟨_,rfl⟩
  ·have e:ord[h]?=some h:=by
    have:=congrArg (fun l=>l[h]?) htk
    simp only[List.getElem?_take,if_pos hh,List.getElem?_range hh]at this
    exact this
   rw[c1 h h e]
   exact shCo_w (I.rt h hh) (I.rl h hh)
theorem gsE_snd (hgv: ∀g,hs (gv g)=[]) {K:St→Option FRes} {r:FRes}: ∀{l:List G} {s:St},gsE nr l s K=some r→ ∃s',K s'=some r∧ ∀{N:Nat} {Z0:Nat→Prop} {w0:World} {σ0:Nat→Sh} {hp0:Nat→Ob} {a:Act} {w:World} {Z:Nat→Prop} {σ:Nat→Sh},
  Inv gv nr Z0 w0 σ0 hp0 N s a w Z σ→ ∃Z' σ',Inv gv nr Z0 w0 σ0 hp0 N s' a w Z' σ'
 | [],s,h=>⟨s,h,fun I=>⟨_,_,I⟩⟩
 | g::l,s,h=>by
  obtain⟨s1,h1,k1⟩:=gE_snd hgv h
  obtain⟨s2,h2,k2⟩:=gsE_snd hgv h1
  refine⟨s2,h2,fun I=>?_⟩
  obtain⟨Z1,σ1,I1⟩:=k1 I
  exact k2 I1
end
def QX (gv:Nat→AV) (nr:Nat) (Z0:Nat→Prop) (w0:World) (σ0:Nat→Sh) (hp0:Nat→Ob) (N:Nat) (x:X) (s:St):Exit→Act→World→Prop
 | .normal,a,w=>x= .nm∧ ∃Z σ,Inv gv nr Z0 w0 σ0 hp0 N s a w Z σ
 | .exit id,a,w=>x= .ex id∧ ∃Z σ,Inv gv nr Z0 w0 σ0 hp0 N s a w Z σ
 | .ret,a,w=>x= .rt∧ ∃Z σ,Inv gv nr Z0 w0 σ0 hp0 N s a w Z σ
 | _,_,_=>False
def dstC (M:Nat):Code→Bool
 | .region _ ops _=>ops.toList.all fun o=>match o.dst with
  | some d=>Nat.blt d M
  | none=>true
 | .seq a b=>dstC M a&&dstC M b
 | .cond _ a b=>dstC M a&&dstC M b
 | .block _ a=>dstC M a
 | .loop a=>dstC M a
 | _=>true
theorem wp_loop_fuel {P:Program} {Q:Exit→Act→World→Prop} {c:Code} (I:Nat→Act→World→Prop) (round: ∀n a w,I n a w→c.wp P (Exit.then (fun a' w'=> ∃m,m<n∧I m a' w') Q) a w) {n:Nat} {a:Act} {w:World} (h0:I n a w):(Code.loop c).wp P Q a w:=by
 intro b k cs
 have key: ∀n a w,I n a w→ ∃e a' w',Q e a' w'∧Arrives P (lone (b.at a (.code c:: .inLoop c::k)) cs w) b k cs e a' w':=by
  intro n
  induction n using Nat.strongRecOn with
  | _ n ih=>
   intro a w hI
   obtain⟨e,a₁,w₁,hq,harr⟩:=round n a w hI b (.inLoop c::k) cs
   cases e with
   | normal=>
    obtain⟨m,hlt,hI₁⟩:=hq
    obtain⟨e₂,a₂,w₂,hq₂,harr₂⟩:=ih m hlt a₁ w₁ hI₁
    exact⟨e₂,a₂,w₂,hq₂, .of_steps (Steps.trans harr (.one step_inLoop)) harr₂⟩
   | exit id=>exact⟨_,a₁,w₁,hq, .pass (x:= .inLoop c) rfl (fun _ _=> .inl (by simp)) harr⟩
   | goto l=>exact⟨_,a₁,w₁,hq, .pass (x:= .inLoop c) rfl (fun _ _=> .inl (by simp)) harr⟩
   | ret=>exact⟨_,a₁,w₁,hq, .pass (x:= .inLoop c) rfl (fun _ _=> .inl (by simp)) harr⟩
   | panic ch=>exact⟨_,a₁,w₁,hq, .pass (x:= .inLoop c) rfl (fun _ _=> .inl (by simp)) harr⟩
   | outgrown=>exact⟨_,a₁,w₁,hq, .pass (x:= .inLoop c) rfl (fun _ _=> .inl (by simp)) harr⟩
 obtain⟨e,a',w',hq,harr⟩:=key _ a w h0
 exact⟨e,a',w',hq, .of_steps (.one step_loop) harr⟩
section
variable {P:Program} {E:Env} {gv:Nat→AV} {nr N j:Nat} {Z0:Nat→Prop} {w0:World} {σ0:Nat→Sh} {hp0:Nat→Ob}
theorem SR.drew {Z:Nat→Prop} {w:World} {σ:Nat→Sh} {tm:Nat→AV} {hp:Nat→Ob} {a:Act} (h:SR gv Z w σ tm hp a):SR gv Z { w with drawn:=w.drawn+1 } σ tm hp a∧Ext Z w σ hp Z { w with drawn:=w.drawn+1 } σ hp:=by
 have hst:=MR.step (w':={ w with drawn:=w.drawn+1 }) (Z':=Z) (σ':=σ) (hp':=hp) h.mem (fun _=>False) (fun g h=>g=h) (fun _ _=>False) rfl rfl rfl (Nat.le_refl _) (fun _ _ _=>rfl) (fun _ h=>h) (fun _ h=> .inl h) h.mem.zlt (fun _=> .same _)
  (fun j _=>⟨rfl,rfl,fun b hb=>⟨rfl,(h.mem.olt ⟨j,hb⟩).2⟩⟩) (fun _ hj=>hj.elim) (fun _ _=>rfl) (fun _ _ _ e1 e2=>e1.symm.trans e2) (fun _ _ h=>h.elim) (fun _ _ _ h=>h.elim)
 exact⟨⟨hst.1,fun t=>VR.mono (Z:=Z) (Z':=Z) (w:=w) (w':={ w with drawn:=w.drawn+1 }) (σ:=σ) (σ':=σ) ⟨fun _ h=>h,fun _ _=>rfl⟩ (h.tms t) fun _ _=> .same _⟩,hst.2⟩
def Ends (P:Program) (gv:Nat→AV) (nr N:Nat) (c:Code) (s:St) (x:X) (s':St):Prop:= ∀{Z0:Nat→Prop} {w0:World} {σ0:Nat→Sh} {hp0:Nat→Ob} {a:Act} {w:World} {Z:Nat→Prop} {σ:Nat→Sh},
 Inv gv nr Z0 w0 σ0 hp0 N s a w Z σ→c.wp P (QX gv nr Z0 w0 σ0 hp0 N x s') a w
inductive Rounds (P:Program) (gv:Nat→AV) (nr N:Nat) (c:Code) (g:List G):Nat→St→X→St→Prop
 | last {n:Nat} {s s':St} {x:X} (hx:x≠ .nm) (h:Ends P gv nr N c s x s'):Rounds P gv nr N c g (n+1) s x s'
 | more {n:Nat} {s s1 s2 s':St} {x:X} (h:Ends P gv nr N c s .nm s1) (hg: ∀{Z0:Nat→Prop} {w0:World} {σ0:Nat→Sh} {hp0:Nat→Ob} {a:Act} {w:World} {Z:Nat→Prop} {σ:Nat→Sh},Inv gv nr Z0 w0 σ0 hp0 N s1 a w Z σ→ ∃Z' σ',Inv gv nr Z0 w0 σ0 hp0 N s2 a w Z' σ')
   (k:Rounds P gv nr N c g n s2 x s'):Rounds P gv nr N c g (n+1) s x s'
theorem rounds_wp {c:Code} {g:List G} {n:Nat} {s s':St} {x:X} (h:Rounds P gv nr N c g n s x s') {a:Act} {w:World} {Z:Nat→Prop} {σ:Nat→Sh} (I:Inv gv nr Z0 w0 σ0 hp0 N s a w Z σ):(Code.loop c).wp P (QX gv nr Z0 w0 σ0 hp0 N x s') a w:=by
 refine wp_loop_fuel (fun n a w=> ∃s Z σ,Rounds P gv nr N c g n s x s'∧Inv gv nr Z0 w0 σ0 hp0 N s a w Z σ) (fun n a w hn=>?_) ⟨s,Z,σ,h,I⟩
 obtain⟨s1,Z1,σ1,h1,I1⟩:=hn
 cases h1 with
 | last hx h2=>
  refine wp_mono (h2 I1) fun e a' w' hq=>?_
  cases e with
  | normal=>exact absurd hq.1 hx
  | exit id=>exact hq
  | ret=>exact hq
  | goto l=>exact hq.elim
  | panic _=>exact hq.elim
  | outgrown=>exact hq.elim
 | more h2 hg k=>
  refine wp_mono (h2 I1) fun e a' w' hq=>?_
  cases e with
  | normal=>
   obtain⟨_,Z2,σ2,I2⟩:=hq
   obtain⟨Z3,σ3,I3⟩:=hg I2
   exact⟨_,Nat.lt_succ_self _,_,Z3,σ3,k,I3⟩
  | exit id=>exact absurd hq.1 (by simp)
  | ret=>exact absurd hq.1 (by simp)
  | goto l=>exact hq.elim
  | panic _=>exact hq.elim
  | outgrown=>exact hq.elim
theorem evC_snd (hm:P.follows .mixedOrders=true) (hE:EnvOk P E) (hg:E.gl=gv) (hO: ∀f s sp,E.orc f s=some sp→Impl P gv f sp) (hgv: ∀g,hs (gv g)=[]) {r:FRes}:
  ∀(c:Code) {h:H} {s:St} {K:KX},evC E nr j c h s K=some r→dstC N c=true→ ∃x s',K x s'=some r∧Ends P gv nr N c s x s'
 | .skip,h,s,K,he,_=>⟨.nm,s,he,fun I=>wp_skip ⟨rfl,_,_,I⟩⟩
 | .region id ops draw,h,s,K,he,hd=>by
  simp only[evC]at he
  obtain⟨T,t1,t2,t3⟩:=evOps_chain hE hg hO hgv _ _ _ _ _ he
  have hTl:T.length=ops.size:=by
   have:=congrArg List.length t1
   simpa using this
  have hTi: ∀(k:Nat) (s:Stp),T[k]?=some s→s.i=k∧ops[k]?=some s.o:=fun k s hk=>by
   have h1:(T.map fun t=>(t.i,t.o))[k]?=some (s.i,s.o):=by rw[List.getElem?_map,hk];rfl
   rw[t1,List.getElem?_map,List.getElem?_zipIdx]at h1
   simp only[Nat.zero_add,Option.map_map]at h1
   obtain⟨o,h2,h3⟩:=Option.map_eq_some_iff.1 h1
   simp only[Function.comp,Prod.mk.injEq]at h3
   rw[Array.getElem?_toList]at h2
   exact⟨h3.1.symm,by rw[h2,h3.2]⟩
  have hTo: ∀s∈T,ops[s.i]?=some s.o:=fun s hs=>by
   obtain⟨k,hk⟩:=List.mem_iff_getElem?.1 hs
   obtain⟨h1,h2⟩:=hTi k s hk
   rw[h1]
   exact h2
  have hTd: ∀s∈T, ∀d,s.o.dst=some d→d<N:=fun s hs d hdd=>by
   simp only[dstC,List.all_eq_true]at hd
   have:=hd s.o (by have:=hTo s hs;exact Array.mem_toList_iff.2 (Array.mem_of_getElem? this))
   rw[hdd]at this
   simpa[Nat.blt_eq]using this
  have hrg:K .nm (stX (foldD (fun _=>true) T (s.tm,s.hp)) (s.n+totN T))=some r∧(draw=true→orderOk ops.toList (T.map (·.rc)).reverse=true):=by
   simp only[rgK,List.append_nil]at t3
   obtain⟨h1,h2⟩:=bif_spec t3
   refine⟨h2,fun e=>?_⟩
   rw[e]at h1
   simpa using h1
  refine⟨.nm,_,hrg.1,fun {Z0 w0 σ0 hp0 a w Z σ} I=>?_⟩
  have hfin: ∀{w2:World},Ext Z w σ s.hp Z w2 σ s.hp→ ∀(a':Act) (w':World) (Z':Nat→Prop) (σ':Nat→Sh),SR gv Z' w' σ' (foldD (fun _=>true) T (s.tm,s.hp)).1 (foldD (fun _=>true) T (s.tm,s.hp)).2 a'→Ext Z w2 σ s.hp Z' w' σ' (foldD (fun _=>true) T (s.tm,s.hp)).2→
    (∀h,Sle (σ' h) (σ h))→(∀h,s.n+totN T≤h→σ' h= .un)→a'.tmps.size=a.tmps.size→a'.defers=a.defers→QX gv nr Z0 w0 σ0 hp0 N .nm (stX (foldD (fun _=>true) T (s.tm,s.hp)) (s.n+totN T)) .normal a' w':=fun hx a' w' Z' σ' k1 k2 k3 k4 k5 k6=>
   ⟨rfl,Z',σ',k1,I.ext.trans (hx.trans k2),fun h hh=>((k3 h).w ((I.rt h hh).un (I.rl h hh))).trans (I.rt h hh),I.rl,k4,k5.trans I.sz,k6.trans I.df⟩
  cases draw with
  | false=>
   refine wp_region ?_
   have hri:T.map (·.i)=List.range ops.size:=by
    apply List.ext_getElem?
    intro k
    rw[List.getElem?_map]
    by_cases hk:k<ops.size
    ·have e:T[k]?=some (T[k]'(by omega)):=by simp[show k<T.length by omega]
     rw[e,List.getElem?_range hk]
     simp[(hTi k _ e).1]
    ·rw[List.getElem?_eq_none (by omega),List.getElem?_eq_none (by simp;omega)]
     rfl
   rw[←hri]
   exact wpOps_snd t2 hTo I.sr I.un (fun s hs d hdd=>by rw[I.sz];exact hTd s hs d hdd) (hfin (Ext.refl _ _ _ _))
  | true=>
   refine wp_region_any hm ?_
   obtain⟨d1,d2⟩:=I.sr.drew
   refine wpAny_snd t2 t1 (hrg.2 rfl) (fun s hs d hdd=>by rw[I.sz];exact hTd s hs d hdd) (hfin d2) ops.size _ a _ Z σ (by simp) (cnt_le _ _) (fun i o _ hl=>?_) ⟨?_,?_,fun _=> .same _,rfl,rfl⟩ (fun h hh _=>I.un h hh)
   ·rw[rep_false]at hl
    cases hl
   ·have e:foldD (fun j=>(Array.replicate ops.size false).getD j false) T (s.tm,s.hp)=(s.tm,s.hp):=by
     rw[foldD_congr (D2:=fun _=>false) (fun s' hs'=>rep_false _ _),foldD_false]
    rw[e]
    exact d1
   ·have e:foldD (fun j=>(Array.replicate ops.size false).getD j false) T (s.tm,s.hp)=(s.tm,s.hp):=by
     rw[foldD_congr (D2:=fun _=>false) (fun s' hs'=>rep_false _ _),foldD_false]
    rw[e]
    exact Ext.refl _ _ _ _
 | .seq x y,h,s,K,he,hd=>by
  simp only[dstC,Bool.and_eq_true]at hd
  simp only[evC]at he
  obtain⟨e1,s1,h1,k1⟩:=evC_snd hm hE hg hO hgv x he hd.1
  cases e1 with
  | nm=>
   obtain⟨s2,h2,k2⟩:=gsE_snd hgv h1
   obtain⟨e3,s3,h3,k3⟩:=evC_snd hm hE hg hO hgv y h2 hd.2
   refine⟨e3,s3,h3,fun I=>wp_seq (wp_mono (k1 I) fun e a' w' hq=>?_)⟩
   cases e with
   | normal=>
    obtain⟨_,Z1,σ1,I1⟩:=hq
    obtain⟨Z2,σ2,I2⟩:=k2 I1
    exact k3 I2
   | exit id=>exact absurd hq.1 (by simp)
   | ret=>exact absurd hq.1 (by simp)
   | goto l=>exact hq.elim
   | panic _=>exact hq.elim
   | outgrown=>exact hq.elim
  | ex id=>
   refine⟨.ex id,s1,h1,fun I=>wp_seq (wp_mono (k1 I) fun e a' w' hq=>?_)⟩
   cases e with
   | normal=>exact absurd hq.1 (by simp)
   | exit id=>exact hq
   | ret=>exact hq
   | goto l=>exact hq.elim
   | panic _=>exact hq.elim
   | outgrown=>exact hq.elim
  | rt=>
   refine⟨.rt,s1,h1,fun I=>wp_seq (wp_mono (k1 I) fun e a' w' hq=>?_)⟩
   cases e with
   | normal=>exact absurd hq.1 (by simp)
   | exit id=>exact hq
   | ret=>exact hq
   | goto l=>exact hq.elim
   | panic _=>exact hq.elim
   | outgrown=>exact hq.elim
 | .cond c x y,h,s,K,he,hd=>by
  simp only[dstC,Bool.and_eq_true]at hd
  simp only[evC]at he
  split at he
  case h_2=>cases he
  rename_i b hb
  obtain⟨q,hq⟩: ∃q:Bool,q=b:=⟨b,rfl⟩
  subst hq
  have hcv: ∀{Z0:Nat→Prop} {w0:World} {σ0:Nat→Sh} {hp0:Nat→Ob} {a:Act} {w:World} {Z:Nat→Prop} {σ:Nat→Sh},Inv gv nr Z0 w0 σ0 hp0 N s a w Z σ→a.eval c= .bool q:=fun I=>by
   have hv:=evA_VR hg I.sr c (tm:=s.tm) fun _ _=>rfl
   rw[hb]at hv
   exact hv.boolp
  cases q with
  | true=>
   obtain⟨e1,s1,h1,k1⟩:=evC_snd hm hE hg hO hgv x he hd.1
   exact⟨e1,s1,h1,fun I=>wp_cond_true (hcv I) (k1 I)⟩
  | false=>
   obtain⟨e1,s1,h1,k1⟩:=evC_snd hm hE hg hO hgv y he hd.2
   exact⟨e1,s1,h1,fun I=>wp_cond_false (hcv I) (k1 I)⟩
 | .block id x,h,s,K,he,hd=>by
  simp only[dstC]at hd
  simp only[evC]at he
  obtain⟨e1,s1,h1,k1⟩:=evC_snd hm hE hg hO hgv x he hd
  cases e1 with
  | nm=>
   obtain⟨s2,h2,k2⟩:=gsE_snd hgv h1
   refine⟨.nm,s2,h2,fun I=>wp_block (wp_mono (k1 I) fun e a' w' hq=>?_)⟩
   cases e with
   | normal=>
    obtain⟨_,Z1,σ1,I1⟩:=hq
    exact⟨rfl,k2 I1⟩
   | exit i=>exact absurd hq.1 (by simp)
   | ret=>exact absurd hq.1 (by simp)
   | goto l=>exact hq.elim
   | panic _=>exact hq.elim
   | outgrown=>exact hq.elim
  | ex i=>
   have h1:(if i=id then K .nm s1 else K (.ex i) s1)=some r:=h1
   by_cases hi:i=id
   ·rw[if_pos hi]at h1
    refine⟨.nm,s1,h1,fun {Z0 w0 σ0 hp0 a w Z σ} I=>wp_block (wp_mono (k1 I) fun e a' w' hq=>?_)⟩
    cases e with
    | normal=>exact absurd hq.1 (by simp)
    | exit i'=>
     have hii:i=i':=by
      have:=hq.1
      simpa using this
     show(if i'=id then QX gv nr Z0 w0 σ0 hp0 N .nm s1 .normal a' w' else QX gv nr Z0 w0 σ0 hp0 N .nm s1 (.exit i') a' w')
     rw[if_pos (hii▸hi)]
     exact⟨rfl,hq.2⟩
    | ret=>exact absurd hq.1 (by simp)
    | goto l=>exact hq.elim
    | panic _=>exact hq.elim
    | outgrown=>exact hq.elim
   ·rw[if_neg hi]at h1
    refine⟨.ex i,s1,h1,fun {Z0 w0 σ0 hp0 a w Z σ} I=>wp_block (wp_mono (k1 I) fun e a' w' hq=>?_)⟩
    cases e with
    | normal=>exact absurd hq.1 (by simp)
    | exit i'=>
     have hii:i=i':=by
      have:=hq.1
      simpa using this
     show(if i'=id then QX gv nr Z0 w0 σ0 hp0 N (.ex i) s1 .normal a' w' else QX gv nr Z0 w0 σ0 hp0 N (.ex i) s1 (.exit i') a' w')
     rw[if_neg (hii▸hi)]
     exact hq
    | ret=>exact absurd hq.1 (by simp)
    | goto l=>exact hq.elim
    | panic _=>exact hq.elim
    | outgrown=>exact hq.elim
  | rt=>
   refine⟨.rt,s1,h1,fun I=>wp_block (wp_mono (k1 I) fun e a' w' hq=>?_)⟩
   cases e with
   | normal=>exact absurd hq.1 (by simp)
   | exit i=>exact absurd hq.1 (by simp)
   | ret=>exact hq
   | goto l=>exact hq.elim
   | panic _=>exact hq.elim
   | outgrown=>exact hq.elim
 | .loop x,h,s,K,he,hd=>by
  simp only[dstC]at hd
  simp only[evC]at he
  obtain⟨s1,h1,k1⟩:=gsE_snd hgv he
  have key: ∀(n:Nat) (s:St),lpE (fun s K=>evC E nr j x h.l s (poK nr h.post K)) n s K=some r→ ∃y s',K y s'=some r∧Rounds P gv nr N x h.post n s y s':=by
   intro n
   induction n with
   | zero=>intro s h2;cases h2
   | succ n ih=>
    intro s h2
    simp only[lpE]at h2
    obtain⟨e2,s2,h3,k2⟩:=evC_snd hm hE hg hO hgv x h2 hd
    cases e2 with
    | nm=>
     obtain⟨s3,h4,k3⟩:=gsE_snd hgv h3
     obtain⟨y,s',h5,k4⟩:=ih s3 h4
     exact⟨y,s',h5, .more k2 k3 k4⟩
    | ex id=>exact⟨.ex id,s2,h3, .last (by simp) k2⟩
    | rt=>exact⟨.rt,s2,h3, .last (by simp) k2⟩
  obtain⟨y,s',h2,k2⟩:=key j s1 h1
  refine⟨y,s',h2,fun I=>?_⟩
  obtain⟨Z1,σ1,I1⟩:=k1 I
  exact rounds_wp k2 I1
 | .exit id,h,s,K,he,hd=>by
  simp only[evC]at he
  obtain⟨s1,h1,k1⟩:=gsE_snd hgv he
  exact⟨.ex id,s1,h1,fun I=>wp_exit ⟨rfl,k1 I⟩⟩
 | .ret,h,s,K,he,hd=>by
  simp only[evC]at he
  obtain⟨s1,h1,k1⟩:=gsE_snd hgv he
  exact⟨.rt,s1,h1,fun I=>wp_ret ⟨rfl,k1 I⟩⟩
 | .label _,_,_,_,he,_=>by cases he
 | .goto _,_,_,_,he,_=>by cases he
 | .rangeFunc _ _ _ _,_,_,_,he,_=>by cases he
where
 rep_false (n i:Nat):(Array.replicate n false).getD i false=false:=by
  rw[Array.getD_eq_getD_getElem?]
  cases hq:(Array.replicate n false)[i]? with
  | none=>rfl
  | some b=>
   have:=(Array.getElem?_eq_some_iff.1 hq).2
   simp at this
   rw[←this]
   rfl
end
section
variable {P:Program} {E:Env} {gv:Nat→AV} {nr N j:Nat} {Z0:Nat→Prop} {w0:World} {σ0:Nat→Sh} {hp0:Nat→Ob}
def resOf (a:Act):ResultVar→Sem Value
 | .tmp t=>pure (a.tmps.getD t undef)
 | .cell p t=>do loadVar t (←asAddr (a.tmps.getD p undef))
theorem results_eq (fn:Func) (a:Act):results fn a.tmps=(do let vs←fn.results.mapM (resOf a);pure (if h:vs.size=1 then vs[0]else .tuple vs)):=by
 unfold results
 congr 1
theorem resE_snd (hE:EnvOk P E) {s:St}: ∀{l:List ResultVar} {K:AV→Option FRes} {r:FRes},resE E s l K=some r→
  ∃vs,K vs=some r∧isL vs=true∧ ∀{a:Act} {w:World} {Z:Nat→Prop} {σ:Nat→Sh},SR gv Z w σ s.tm s.hp a→ ∃us,(l.mapM (resOf a)).run P w= .ok us w∧VR Z w σ vs us
 | [],K,r,h=>⟨.e0,h,rfl,fun _=>⟨[],by simp,rfl⟩⟩
 | .tmp t::l,K,r,h=>by
  simp only[resE]at h
  obtain⟨vs,h1,h4,hx⟩:=resE_snd hE h
  refine⟨_,h1,rfl,fun {a w Z σ} h0=>?_⟩
  obtain⟨us,h2,h3⟩:=hx h0
  refine⟨_::us,?_,⟨_,us,rfl,h0.tms t,h3,h4⟩⟩
  have h9:(resOf a (.tmp t)).run P w= .ok (a.tmps.getD t undef) w:=rfl
  rw[List.mapM_cons,Sem.run_bind,h9]
  simp only[Result.andThen_ok]
  rw[Sem.run_bind,h2]
  rfl
 | .cell p t::l,K,r,h=>by
  simp only[resE]at h
  obtain⟨e,h1,_,_,h2⟩:=loadE_snd (gv:=gv) hE h
  obtain⟨vs,h5,h8,hx⟩:=resE_snd hE h1
  refine⟨_,h5,rfl,fun {a w Z σ} h0=>?_⟩
  obtain⟨u,h3,h4⟩:=h2 h0.mem (fun _ _=>rfl) (h0.tms p)
  obtain⟨us,h6,h7⟩:=hx h0
  refine⟨u::us,?_,⟨u,us,rfl,h4,h7,h8⟩⟩
  have h9:(resOf a (.cell p t)).run P w= .ok u w:=by
   unfold resOf
   cases hv:a.tmps.getD p undef with
   | pointer ad=>
    cases ad with
    | none=>rw[hv]at h3;simp[Instr.loadAt,Instr.sureAddr,stuck]at h3
    | some ad=>
     rw[hv]at h3
     simp only[Instr.loadAt,Instr.sureAddr,Sem.run_bind,Sem.run_pure,Result.andThen_ok]at h3
     simp only[hv,asAddr,Sem.run_bind,Sem.run_pure,Result.andThen_ok,h3]
   | _=>rw[hv]at h3;simp[Instr.loadAt,Instr.sureAddr,stuck]at h3
  rw[List.mapM_cons,Sem.run_bind,h9]
  simp only[Result.andThen_ok]
  rw[Sem.run_bind,h6]
  rfl
theorem retV_snd {Z:Nat→Prop} {w:World} {σ:Nat→Sh} {vs:AV} {us:Array Value} (h:VR Z w σ vs us.toList) (il:isL vs=true):VR Z w σ (retV vs) [if h:us.size=1 then us[0]else .tuple us]:=by
 cases vs<;>try cases il
 ·have h0:us= #[]:=by
   apply Array.ext'
   exact h
  subst h0
  exact⟨#[],rfl,rfl,rfl⟩
 ·rename_i a b
  have h':=h
  obtain⟨v,r,e,h1,h2,il2⟩:=h'
  cases b<;>try cases il2
  ·have h3:r=[]:=h2
   subst h3
   have h4:us= #[v]:=by
    apply Array.ext'
    rw[e]
   subst h4
   exact h1
  ·obtain⟨v2,r2,e2,_,_,_⟩:=h2
   have hs:us.size≠1:=by
    rw[←Array.length_toList,e,e2]
    simp
   rw[dif_neg hs]
   exact⟨us,rfl,h,rfl⟩
theorem dstC_mono {M N:Nat} (h:M≤N): ∀{c:Code},dstC M c=true→dstC N c=true
 | .region _ ops _,hc=>by
  simp only[dstC,List.all_eq_true]at hc ⊢
  intro o ho
  have:=hc o ho
  split at this
  ·rename_i d hd
   rw[Nat.blt_eq]at this
   simp only[Nat.blt_eq]
   omega
  ·rfl
 | .seq a b,hc=>by
  simp only[dstC,Bool.and_eq_true]at hc ⊢
  exact⟨dstC_mono h hc.1,dstC_mono h hc.2⟩
 | .cond _ a b,hc=>by
  simp only[dstC,Bool.and_eq_true]at hc ⊢
  exact⟨dstC_mono h hc.1,dstC_mono h hc.2⟩
 | .block _ a,hc=>dstC_mono h (c:=a) hc
 | .loop a,hc=>dstC_mono h (c:=a) hc
 | .skip,_=>rfl
 | .exit _,_=>rfl
 | .ret,_=>rfl
 | .label _,_=>rfl
 | .goto _,_=>rfl
 | .rangeFunc _ _ _ _,_=>rfl
 | .scope _,_=>rfl
 | .refuse _,_=>rfl
theorem nth_out: ∀{cs:AV} {t:Nat},prL cs→cs.len≤t→cs.nth t= .any
 | .e0,_,_,_=>rfl
 | .cn a b,0,_,h=>by simp[AV.len]at h
 | .cn a b,t+1,hp,h=>by
  simp only[AV.len]at h
  exact nth_out (cs:=b) hp (by omega)
theorem evF_snd (hm:P.follows .mixedOrders=true) (hE:EnvOk P E) (hg:E.gl=gv) (hO: ∀f s sp,E.orc f s=some sp→Impl P gv f sp) (hgv: ∀g,hs (gv g)=[]) {f:FuncId} {fn:Func} {c:Code} (hf:P.funcs[f]?=some fn) (hb:fn.body=some c) (hd:dstC fn.ntmps c=true)
  {h:H} {po:List G} {args:AV} {ins:List Ob} {K:FRes→Option FRes} {r:FRes} (he:evF E j fn h po args ins K=some r): ∃fr,K fr=some r∧(addNew [] (hs args)).length≤fr.objs.length∧
   ∀(Z:Nat→Prop) (w:World) (σ:Nat→Sh) (vs:Array Value),VR Z w σ args vs.toList→isL args=true→MR gv Z w σ (obsF ins)→(∀i,σ i= .un↔ins.length≤i)→Calls P f vs w (RetOk gv Z w σ ins (addNew [] (hs args)).length fr):=by
 unfold evF at he
 rw[hb]at he
 simp only at he
 obtain⟨hle,he⟩:=bif_spec he
 have hle:=Nat.le_of_ble_eq_true hle
 generalize hnr:(addNew [] (hs args)).length=nr at he hle ⊢
 have fin: ∀{s:St},(resE E s fn.results.toList fun vs=>finE nr s.hp vs K)=some r→ ∃fr,K fr=some r∧nr≤fr.objs.length∧ ∀{N:Nat} {Z0:Nat→Prop} {w0:World} {σ0:Nat→Sh} {a:Act} {w:World} {Z:Nat→Prop} {σ:Nat→Sh},
   Inv gv nr Z0 w0 σ0 (obsF ins) N s a w Z σ→a.defers=[]∧ ∃v,(results fn a.tmps).run P w= .ok v w∧RetOk gv Z0 w0 σ0 ins nr fr (.returned v) w:=by
  intro s hr
  obtain⟨vs,h1,il,hx⟩:=resE_snd (gv:=gv) hE hr
  unfold finE at h1
  simp only at h1
  split at h1
  case isFalse=>cases h1
  rename_i hc
  simp only[Bool.and_eq_true,decide_eq_true_eq]at hc
  obtain⟨hnd,htk⟩:=hc
  generalize hord:keepOrd nr s.hp vs=ord at h1 hnd htk
  have hnd:=nodupB_iff hnd
  have hlen:nr≤ord.length:=by
   have:=congrArg List.length htk
   rw[List.length_take,List.length_range]at this
   omega
  refine⟨_,h1,by rw[List.length_map];exact hlen,fun {N Z0 w0 σ0 a w Z σ} I=>⟨I.df,?_⟩⟩
  obtain⟨us,h2,h3⟩:=hx I.sr
  have hlive: ∀h∈ord,σ h≠ .un:=by
   subst hord
   refine clos_live (hp:=s.hp) I.sr.mem (fun h hh=>?_) (fun _ _=>rfl)
   rcases mem_addNew.1 hh with hh|hh
   ·have:=List.mem_range.1 hh
    exact(I.rt h this).un (I.rl h this)
   ·exact h3.live h hh
  obtain⟨σc,c1,c2,c3,c4,c5,c6⟩:=I.sr.mem.rename hgv hnd hlive
  refine⟨_,?_,Z,σc,retV_snd (us:=us.toArray) (by simpa using c6 h3) (isL_ren _ _ il),c4,I.ext.sub c5,fun h hh=>?_,fun i=>⟨fun e=>?_,fun e=>c2 i (by simpa using e)⟩⟩
  ·rw[results_eq,Sem.run_bind,Array.mapM_eq_mapM_toList]
   have hmm:(List.toArray<$>fn.results.toList.mapM (resOf a)).run P w= .ok us.toArray w:=by
    simp only[Sem.run_map,h2]
    rfl
   rw[hmm]
   rfl
  ·have e:ord[h]?=some h:=by
    have:=congrArg (fun l=>l[h]?) htk
    simp only[List.getElem?_take,if_pos hh,List.getElem?_range hh]at this
    exact this
   rw[c1 h h e]
   exact shCo_w (I.rt h hh) (I.rl h hh)
  ·rcases Nat.lt_or_ge i ord.length with hi|hi
   ·exact absurd e (c3 i hi)
   ·simpa using hi
 have hN:fn.ntmps≤args.len+(fn.ntmps-args.len):=by omega
 obtain⟨x,s',h1,h2⟩:=evC_snd (N:=args.len+(fn.ntmps-args.len)) hm hE hg hO hgv c he (dstC_mono hN hd)
 have start: ∀(Z:Nat→Prop) (w:World) (σ:Nat→Sh) (vs:Array Value),VR Z w σ args vs.toList→isL args=true→MR gv Z w σ (obsF ins)→(∀i,σ i= .un↔ins.length≤i)→
   Inv gv nr Z w σ (obsF ins) (args.len+(fn.ntmps-args.len)) { tm:=args.nth,hp:=fun i=>ins.getD i .dead,n:=ins.length } { tmps:=vs++Array.replicate (fn.ntmps-vs.size) undef,defers:=[] } w Z σ:=by
  intro Z w σ vs hv il m hu
  have hl:=hv.len il
  rw[Array.length_toList]at hl
  refine⟨⟨m,fun t=>?_⟩,Ext.refl _ _ _ _,fun _ _=> .same _,fun h hh e=>by have:=(hu h).1 e;omega,fun h hh=>(hu h).2 hh,by simp[hl],rfl⟩
  rcases Nat.lt_or_ge t args.len with ht|ht
  ·obtain⟨v,e1,e2⟩:=hv.nth ht
   have e3:(vs++Array.replicate (fn.ntmps-vs.size) undef).getD t undef=v:=by
    rw[Array.getD_eq_getD_getElem?,Array.getElem?_append_left (by omega)]
    rw[Array.getElem?_toList]at e1
    rw[e1]
    rfl
   show VR Z w σ (args.nth t) [(vs++Array.replicate (fn.ntmps-vs.size) undef).getD t undef]
   rw[e3]
   exact e2
  ·show VR Z w σ (args.nth t) _
   rw[nth_out (hv.prL il) ht]
   exact⟨_,rfl⟩
 cases x with
 | ex id=>cases h1
 | nm=>
  obtain⟨s2,h3,h4⟩:=gsE_snd hgv h1
  obtain⟨fr,k1,k2,k3⟩:=fin h3
  refine⟨fr,k1,k2,fun Z w σ vs hv il m hu=>calls_of_wp hf hb (wp_mono (h2 (start Z w σ vs hv il m hu)) fun e a w' hq=>?_)⟩
  cases e with
  | normal=>
   obtain⟨_,Z1,σ1,I1⟩:=hq
   obtain⟨Z2,σ2,I2⟩:=h4 I1
   exact k3 I2
  | ret=>exact absurd hq.1 (by simp)
  | exit _=>exact absurd hq.1 (by simp)
  | goto l=>exact hq.elim
  | panic _=>exact hq.elim
  | outgrown=>exact hq.elim
 | rt=>
  obtain⟨fr,k1,k2,k3⟩:=fin h1
  refine⟨fr,k1,k2,fun Z w σ vs hv il m hu=>calls_of_wp hf hb (wp_mono (h2 (start Z w σ vs hv il m hu)) fun e a w' hq=>?_)⟩
  cases e with
  | normal=>exact absurd hq.1 (by simp)
  | ret=>
   obtain⟨_,Z1,σ1,I1⟩:=hq
   exact k3 I1
  | exit _=>exact absurd hq.1 (by simp)
  | goto l=>exact hq.elim
  | panic _=>exact hq.elim
  | outgrown=>exact hq.elim
end
theorem app_e0: ∀{l:AV},prL l→l.app .e0=l
 | .e0,_=>rfl
 | .cn a b,h=>by
  simp only[AV.app,app_e0 (l:=b) h]
theorem ofS_all {e:Ty} {l:AV} {x:e.den} (h:ofS e l=some (x, .e0)):l=toC e x:=by
 rw[ofS_eq e h,app_e0 (prL_toC e x)]
structure Dec1.Ok {α:Type} (d:Dec1 α):Prop where
 ok: ∀{i j:Nat} {v:AV} {o:List Ob} {x:α},d.dec i j v o=some x→v=d.av i j x∧(d.rs i j x).length=d.nr∧(d.ns i j x).length=d.nn∧
  (∀t,t<d.nr→o[i+t]?=(d.rs i j x)[t]?)∧(∀t,t<d.nn→o[j+t]?=(d.ns i j x)[t]?)
structure Dec.Ok {α:Type} (d:Dec α):Prop where
 ok: ∀{i j:Nat} {v:AV} {o:List Ob} {x:α},d.dc i j v o=some x→v=d.av i j x∧(d.rs i j x).length=d.nr∧(d.ns i j x).length=d.nn∧
  (∀t,t<d.nr→o[i+t]?=(d.rs i j x)[t]?)∧(∀t,t<d.nn→o[j+t]?=(d.ns i j x)[t]?)
theorem dP_ok (t:Ty):(dP t).Ok:=⟨fun {i j v o x} h=>⟨castP_eq h,rfl,rfl,fun t ht=>absurd ht (Nat.not_lt_zero t),fun t ht=>absurd ht (Nat.not_lt_zero t)⟩⟩
theorem dS_ok (e:Ty):(dS e).Ok:=⟨fun {i j v o x} h=>by
 have h':v= .agg (toC e x):=by
  cases v<;>simp only[dS,reduceCtorEq]at h
  rename_i c
  split at h
  ·rename_i y h1
   cases h
   rw[ofS_all h1]
  ·cases h
 exact⟨h',rfl,rfl,fun t ht=>absurd ht (Nat.not_lt_zero t),fun t ht=>absurd ht (Nat.not_lt_zero t)⟩⟩
theorem dR_ok (e:Ty):(dR e).Ok:=⟨fun {i j v o x} h=>by
 have h':v= .rp (toC e x) 0:=by
  cases v<;>simp only[dR,reduceCtorEq]at h
  rename_i c n
  cases n<;>simp only[reduceCtorEq]at h
  split at h
  ·rename_i y h1
   cases h
   rw[ofS_all h1]
  ·cases h
 exact⟨h',rfl,rfl,fun t ht=>absurd ht (Nat.not_lt_zero t),fun t ht=>absurd ht (Nat.not_lt_zero t)⟩⟩
theorem cast_L {e' e:Ty} {x:List e'.den} {y:List e.den} (h:cast (.sl e') (.sl e) x=some y):Ob.L e' x= .L e y:=by
 unfold cast at h
 split at h
 ·rename_i q
  cases q
  cases h
  rfl
 ·cases h
theorem cast_N {e' e:Ty} {x:List (List e'.den)} {y:List (List e.den)} (h:cast (.sl (.sl e')) (.sl (.sl e)) x=some y):Ob.N e' none x 0 none= .N e none y 0 none:=by
 unfold cast at h
 split at h
 ·rename_i q
  cases q
  cases h
  rfl
 ·cases h
theorem dO_ok (e:Ty):(dO e).Ok:=⟨fun {i j v o x} h=>by
 have h':v= .sl i none none∧o[i]?=some (.L e x):=by
  cases v<;>try (simp only[dO,reduceCtorEq]at h;done)
  rename_i a f l
  cases f<;>cases l<;>try (simp only[dO,reduceCtorEq]at h;done)
  simp only[dO]at h
  by_cases hi:a=i
  case neg=>rw[if_neg hi]at h;cases h
  rw[if_pos hi]at h
  subst hi
  cases ho:o[a]? with
  | none=>rw[ho]at h;cases h
  | some ob=>
   rw[ho]at h
   cases ob with
   | L e' y=>exact⟨rfl,by rw[cast_L h]⟩
   | _=>cases h
 refine⟨h'.1,rfl,rfl,fun t ht=>?_,fun t ht=>absurd ht (Nat.not_lt_zero t)⟩
 obtain rfl:t=0:=by have:t<1:=ht;omega
 exact h'.2⟩
theorem dNR_ok (e:Ty):(dNR e).Ok:=⟨fun {i j v o x} h=>by
 have h':v= .sl i none none∧o[i]?=some (.N e none x 0 none):=by
  cases v<;>try (simp only[dNR,reduceCtorEq]at h;done)
  rename_i a f l
  cases f<;>cases l<;>try (simp only[dNR,reduceCtorEq]at h;done)
  simp only[dNR]at h
  by_cases hi:a=i
  case neg=>rw[if_neg hi]at h;cases h
  rw[if_pos hi]at h
  subst hi
  cases ho:o[a]? with
  | none=>rw[ho]at h;cases h
  | some ob=>
   rw[ho]at h
   cases ob with
   | N e' r y k q=>
    cases r<;>try cases h
    cases k<;>try cases h
    cases q<;>try cases h
    exact⟨rfl,by rw[cast_N h]⟩
   | _=>cases h
 refine⟨h'.1,rfl,rfl,fun t ht=>?_,fun t ht=>absurd ht (Nat.not_lt_zero t)⟩
 obtain rfl:t=0:=by have:t<1:=ht;omega
 exact h'.2⟩
theorem unmask_ok: ∀{m:List Bool} {j:Nat} {c:AV} {o:List Ob},prL (unmask m j c o)→
  c=maskC m j (unmask m j c o)∧(maskO m (unmask m j c o)).length=(m.filter id).length∧ ∀t,t<(m.filter id).length→o[j+t]?=(maskO m (unmask m j c o))[t]?
 | [],j,c,o,h=>by
  simp only[unmask]at h ⊢
  exact⟨by cases c<;>rfl,rfl,fun t ht=>absurd ht (Nat.not_lt_zero t)⟩
 | false::m,j,c,o,h=>by
  cases c<;>try (simp[unmask,prL]at h;done)
  rename_i v r
  have h2:prL (unmask m j r o):=by
   simpa only[unmask,prL]using h
  obtain⟨h3,h4,h5⟩:=unmask_ok h2
  simp only[unmask,maskC,maskO,List.filter_cons,id,Bool.false_eq_true,if_false]
  exact⟨by rw[←h3],h4,h5⟩
 | true::m,j,c,o,h=>by
  cases c<;>try (simp[unmask,prL]at h;done)
  rename_i v r
  cases v<;>try (simp[unmask,prL]at h;done)
  rename_i hh f l
  cases f<;>cases l<;>try (simp[unmask,prL]at h;done)
  simp only[unmask]at h ⊢
  by_cases hj:hh=j
  case neg=>simp[if_neg hj,prL]at h
  subst hj
  simp only[if_true]at h ⊢
  cases ho:o[hh]? with
  | none=>simp[ho,prL]at h
  | some ob=>
  cases ob<;>try (simp[ho,prL]at h;done)
  rename_i e x
  simp only[ho]at h ⊢
  have h2:prL (unmask m (hh+1) r o):=by
   simpa only[prL]using h
  have hx:=ho
  obtain⟨h3,h4,h5⟩:=unmask_ok h2
  simp only[if_true,hx,maskC,maskO,List.filter_cons,id,List.length_cons]
  refine⟨by rw[←h3],by rw[h4],fun t ht=>?_⟩
  cases t with
  | zero=>simpa using hx
  | succ t=>
   have:=h5 t (by omega)
   rw[List.getElem?_cons_succ, ←this]
   congr 1
   omega
theorem dB_ok (e:Ty) (m:List Bool):(dB e m).Ok:=⟨fun {i j v o x} h=>by
 have h':v= .ptr i 0 0∧ ∃c,o[i]?=some (.B c)∧unmask m j c o=toC e x:=by
  simp only[dB]at h
  split at h
  ·rename_i a
   split at h
   ·rename_i hi
    subst hi
    split at h
    ·rename_i c hc
     split at h
     ·rename_i y hy
      cases h
      exact⟨rfl,c,hc,ofS_all hy⟩
     ·cases h
    ·cases h
   ·cases h
  ·cases h
 obtain⟨h1,c,h2,h3⟩:=h'
 have h4:=unmask_ok (m:=m) (j:=j) (c:=c) (o:=o) (by rw[h3];exact prL_toC e x)
 rw[h3]at h4
 refine⟨h1,rfl,h4.2.1,fun t ht=>?_,h4.2.2⟩
 obtain rfl:t=0:=by have:t<1:=ht;omega
 show o[i]?=some (Ob.B (maskC m j (toC e x)))
 rw[h2, ←h4.1]⟩
theorem dN_ok:dN.Ok:=⟨fun {i j v o x} h=>by
 have h':v= .e0:=by
  cases v<;>simp only[dN,reduceCtorEq]at h
  rfl
 exact⟨h',rfl,rfl,fun t ht=>absurd ht (Nat.not_lt_zero t),fun t ht=>absurd ht (Nat.not_lt_zero t)⟩⟩
theorem d1_ok {α:Type} {d:Dec1 α} (hd:d.Ok):(d1 d).Ok:=⟨fun {i j v o x} h=>by
 simp only[d1]at h
 split at h
 ·rename_i a
  obtain⟨h1,h2⟩:=hd.ok h
  subst h1
  exact⟨rfl,h2⟩
 ·cases h⟩
theorem dA_ok {α β:Type} {d:Dec1 α} {r:Dec β} (hd:d.Ok) (hr:r.Ok):(dA d r).Ok:=⟨fun {i j v o x} h=>by
 simp only[dA]at h
 split at h
 case h_2=>cases h
 rename_i a b
 split at h
 case h_2=>cases h
 rename_i y hy
 split at h
 case h_2=>cases h
 rename_i z hz
 cases h
 obtain⟨h1,h2,h3,h4,h5⟩:=hd.ok hy
 obtain⟨k1,k2,k3,k4,k5⟩:=hr.ok hz
 refine⟨by rw[h1,k1];rfl,by simp[dA,h2,k2],by simp[dA,h3,k3],fun t ht=>?_,fun t ht=>?_⟩
 ·have ht:t<d.nr+r.nr:=ht
  show o[i+t]?=(d.rs i j y++r.rs (i+d.nr) (j+d.nn) z)[t]?
  rcases Nat.lt_or_ge t d.nr with hl|hl
  ·rw[List.getElem?_append_left (by omega),h4 t hl]
  ·rw[List.getElem?_append_right (by omega),h2, ←k4 (t-d.nr) (by omega)]
   congr 1
   omega
 ·have ht:t<d.nn+r.nn:=ht
  show o[j+t]?=(d.ns i j y++r.ns (i+d.nr) (j+d.nn) z)[t]?
  rcases Nat.lt_or_ge t d.nn with hl|hl
  ·rw[List.getElem?_append_left (by omega),h5 t hl]
  ·rw[List.getElem?_append_right (by omega),h3, ←k5 (t-d.nn) (by omega)]
   congr 1
   omega⟩
theorem dC_ok {α:Type} (f:Nat) {d:Dec α} (hd:d.Ok):(dC f d).Ok:=⟨fun {i j v o x} h=>by
 simp only[dC]at h
 split at h
 ·rename_i g c
  split at h
  ·rename_i hg
   subst hg
   obtain⟨h1,h2⟩:=hd.ok h
   subst h1
   exact⟨rfl,h2⟩
  ·cases h
 ·cases h⟩
theorem Dec.Ok.dec {α:Type} {d:Dec α} (hd:d.Ok) {a:AV} {o:List Ob} {x:α} (h:d.dec a o=some x):a=d.args x∧o=d.ins x:=by
 unfold Dec.dec at h
 split at h
 ·rename_i hl
  obtain⟨h1,h2,h3,h4,h5⟩:=hd.ok h
  refine⟨h1,?_⟩
  unfold Dec.ins
  apply List.ext_getElem?
  intro t
  rcases Nat.lt_or_ge t d.nr with ht|ht
  ·rw[List.getElem?_append_left (by omega), ←h4 t ht,Nat.zero_add]
  ·rcases Nat.lt_or_ge t (d.nr+d.nn)with ht2|ht2
   ·rw[List.getElem?_append_right (by omega),h2, ←h5 (t-d.nr) (by omega)]
    congr 1
    omega
   ·rw[List.getElem?_eq_none (by omega),List.getElem?_eq_none (by simp;omega)]
 ·cases h
def hl (a:H):H:= .n [] [] a .d
def hr (b:H):H:= .n [] [] .d b
def hb (a b:H):H:= .n [] [] a b
def isSeq:Code→Bool| .seq _ _=>true|_=>false
def isCond:Code→Bool| .cond _ _ _=>true|_=>false
def isBlock:Code→Bool| .block _ _=>true|_=>false
def isLoop:Code→Bool| .loop _=>true|_=>false
def codeO:Code→Operand| .cond o _ _=>o|_=> .tmp 0
def codeI:Code→Nat| .block i _=>i|_=>0
section
variable {E:Env} {nr j:Nat}
theorem evC_seq {c:Code} {h:H} (hc:isSeq c=true) (s:St) (K:KX):evC E nr j c h s K=evC E nr j (codeL c) h.l s (poK nr h.post (thK (evC E nr j (codeR c) h.r) K)):=by
 cases c<;>first|rfl|cases hc
theorem evC_cond {c:Code} {h:H} (hc:isCond c=true) (s:St) (K:KX):evC E nr j c h s K=match evA E s.tm (codeO c)with
  | .p .bool x=>cond x (evC E nr j (codeL c) h.l s K) (evC E nr j (codeR c) h.r s K)
  | _=>none:=by
 cases c<;>first|rfl|cases hc
theorem evC_block {c:Code} {h:H} (hc:isBlock c=true) (s:St) (K:KX):evC E nr j c h s K=evC E nr j (codeL c) h.l s (poK nr h.post (blK (codeI c) K)):=by
 cases c<;>first|rfl|cases hc
theorem evC_loop {c:Code} {h:H} (hc:isLoop c=true) (s:St) (K:KX):evC E nr j c h s K=gsE nr h.pre s fun s=>lpE (fun s K=>evC E nr j (codeL c) h.l s (poK nr h.post K)) j s K:=by
 cases c<;>first|rfl|cases hc
def spn:Nat→Code→H→List (Code×H×List G)
 | 0,_,_=>[]
 | n+1,c,h=>(codeL c,h.l,h.post)::spn n (codeR c) h.r
def dropC:Nat→Code→Code|0,c=>c|n+1,c=>dropC n (codeR c)
def dropH:Nat→H→H|0,h=>h|n+1,h=>dropH n h.r
def okS:Nat→Code→Bool|0,_=>true|n+1,c=>isSeq c&&okS n (codeR c)
theorem evC_spn: ∀{n:Nat} {c:Code} {h:H},okS n c=true→evC E nr j c h=evS E nr j (spn n c h) (evC E nr j (dropC n c) (dropH n h))
 | 0,_,_,_=>rfl
 | n+1,c,h,hs=>by
  rw[okS,Bool.and_eq_true]at hs
  funext s K
  rw[evC_seq hs.1,evC_spn (h:=h.r) hs.2]
  rfl
structure SumT {V W U Z:Type} (E:Env) (nr j:Nat) (c:Code) (h:H) (po:List G) (S:V→St) (N:W→St) (R:U→St) (Q:Z→Nat×St):Type 1 where
 F: ∀{α:Type},V→(W→Option α)→(U→Option α)→(Z→Option α)→Option α
 ok:Sum E nr j c h po S N R Q F
variable {V W U Z Y:Type} {c:Code} {h:H} {po:List G} {S:V→St} {N:W→St} {R:U→St} {Q:Z→Nat×St}
def SumT.leaf (F: ∀{α:Type},V→(W→Option α)→(U→Option α)→(Z→Option α)→Option α)
  (hF: ∀(K:KX) (x:V),evC E nr j c h (S x) (poK nr po K)=F x (fun w=>K .nm (N w)) (fun u=>K .rt (R u)) (fun z=>K (.ex (Q z).1) (Q z).2):=by intro K x;kernel_rfl):SumT E nr j c h po S N R Q:=⟨F,hF⟩
def SumT.pre (n:Nat) (T:Y→St) (F: ∀{α:Type},V→(Y→Option α)→(U→Option α)→(Z→Option α)→Option α) (B:SumT E nr j (dropC n c) (dropH n h) po T N R Q)
  (hs:okS n c=true:=by kernel_rfl)
  (hF: ∀(m:St→Option FRes) (K:KX) (x:V),evS E nr j (spn n c h) (fun s _=>m s) (S x) K=F x (fun y=>m (T y)) (fun u=>K .rt (R u)) (fun z=>K (.ex (Q z).1) (Q z).2):=by intro m K x;kernel_rfl):
  SumT E nr j c h po S N R Q:=⟨fun x n r z=>F x (fun y=>B.F y n r z) r z,by
 intro K x
 rw[evC_spn (n:=n) hs,evS_end,hF]
 show F x (fun y=>evC E nr j (dropC n c) (dropH n h) (T y) (poK nr po K)) (fun u=>K .rt (R u)) (fun z=>K (.ex (Q z).1) (Q z).2)=_
 have hB: ∀y,evC E nr j (dropC n c) (dropH n h) (T y) (poK nr po K)=_:=B.ok K
 simp only[hB]⟩
def SumT.seq (T:Y→St) (A:SumT E nr j (codeL c) h.l h.post S T R Q) (B:SumT E nr j (codeR c) h.r po T N R Q) (hc:isSeq c=true:=by kernel_rfl):SumT E nr j c h po S N R Q:=
 ⟨fun x n r z=>A.F x (fun y=>B.F y n r z) r z,by
 intro K x
 rw[evC_seq hc,A.ok]
 show A.F x (fun y=>evC E nr j (codeR c) h.r (T y) (poK nr po K)) (fun u=>K .rt (R u)) (fun z=>K (.ex (Q z).1) (Q z).2)=_
 have hB: ∀y,evC E nr j (codeR c) h.r (T y) (poK nr po K)=_:=B.ok K
 simp only[hB]⟩
def SumT.cond (t:V→Bool) (A:SumT E nr j (codeL c) h.l po S N R Q) (B:SumT E nr j (codeR c) h.r po S N R Q) (hc:isCond c=true:=by kernel_rfl)
  (ht: ∀x,evA E (S x).tm (codeO c)= .p .bool (t x):=by intro x;kernel_rfl):SumT E nr j c h po S N R Q:=
 ⟨fun x n r z=>_root_.cond (t x) (A.F x n r z) (B.F x n r z),by
 intro K x
 rw[evC_cond hc,ht]
 show _root_.cond (t x) (evC E nr j (codeL c) h.l (S x) (poK nr po K)) (evC E nr j (codeR c) h.r (S x) (poK nr po K))=_
 rw[A.ok,B.ok]⟩
theorem qB_ne' {W Z:Type} {id i:Nat} {N:W→St} {Q:Z→Nat×St} (h:Nat.beq i id=false) (hq: ∀z,(Q z).1≠id): ∀z,(qB i N Q z).1≠id:=
 qB_ne (fun e=>by rw[e,Nat.beq_refl]at h;cases h) hq
def SumT.block (A:SumT E nr j (codeL c) h.l h.post S N R (qB (codeI c) N Q)) (hc:isBlock c=true:=by kernel_rfl)
  (hq: ∀z,(Q z).1≠codeI c:=by repeat' first|exact q0_ne|refine qB_ne' ?_ ?_|kernel_rfl):SumT E nr j c h [] S N R Q:=
 ⟨fun x n r z=>A.F x n r (zB n z),by
 intro K x
 rw[evC_block hc,show blK (codeI c) (poK nr [] K)=blK (codeI c) (poK nr [] K)from rfl,A.ok]
 congr 1
 funext z
 cases z with
 | inl w=>simp[blK,poK,gsE,qB,zB]
 | inr z=>simp[blK,poK,hq z,qB,zB]⟩
def SumT.blockP (A:SumT E nr j (codeL c) h.l h.post S N R (qB (codeI c) N Q)) (hc:isBlock c=true:=by kernel_rfl)
  (hq: ∀z,(Q z).1≠codeI c:=by repeat' first|exact q0_ne|refine qB_ne' ?_ ?_|kernel_rfl)
  (hm: ∀(y:W) (K:St→Option FRes),gsE nr po (N y) K=K (N y):=by intro y K;kernel_rfl):SumT E nr j c h po S N R Q:=
 ⟨fun x n r z=>A.F x n r (zB n z),by
 have h1:=Sum.post (N:=N) (po:=po) (m:=fun y=>y) (SumT.block A hc hq).ok hm
 exact h1⟩
def SumT.loop (T:Y→St) (m:V→Y) (A:SumT E nr j (codeL c) h.l h.post T T R Q) (hc:isLoop c=true:=by kernel_rfl)
  (hm: ∀(x:V) (K:St→Option FRes),gsE nr h.pre (S x) K=K (T (m x)):=by intro x K;kernel_rfl):SumT E nr j c h po S N R Q:=
 ⟨fun x _ r z=>lpF (fun x n=>A.F x n r z) j (m x),by
 intro K x
 rw[evC_loop hc,hm,lp_sum A.ok]
 rfl⟩
end
def AllI (P:Program) (gv:Nat→AV):List (Nat×List Nat×Spec)→Prop
 | []=>True
 | (f,_,sp)::r=>Impl P gv f sp∧AllI P gv r
theorem AllI.get {P:Program} {gv:Nat→AV}: ∀{l:List (Nat×List Nat×Spec)},AllI P gv l→ ∀f s sp,lkS l f s=some sp→Impl P gv f sp
 | [],_,_,_,_,h=>by cases h
 | (g,t,sp')::r,hl,f,s,sp,h=>by
  simp only[lkS]at h
  split at h
  ·rename_i hg
   subst hg
   split at h
   ·cases h
    exact hl.1
   ·exact AllI.get hl.2 _ _ _ h
  ·exact AllI.get hl.2 _ _ _ h
theorem envOk {P:Program} {t:TT} {E:Env} (h1:E.ti=t.get) (h:t.all (fun i v=>tiChk P i v)=true):EnvOk P E:=by
 refine⟨fun i hi=>?_⟩
 rw[h1]at hi ⊢
 clear h1
 induction t with
 | lf=>cases hi
 | nd k v l r ih1 ih2=>
  simp only[TT.all,Bool.and_eq_true]at h
  simp only[TT.get]at hi ⊢
  cases hb:Nat.beq k i
  ·rw[hb]at hi
   simp only[cond_false]at hi ⊢
   cases hc:Nat.ble k i
   ·rw[hc]at hi
    exact ih1 h.1.2 hi
   ·rw[hc]at hi
    exact ih2 h.2 hi
  ·rw[Nat.eq_of_beq_eq_true hb]at h
   exact h.1.1
def Dec.St {V:Type} (d:Dec V) (x:V):St:={ tm:=(d.args x).nth,hp:=fun i=>(d.ins x).getD i .dead,n:=(d.ins x).length }
structure World0 (P:Program) (gv:Nat→AV) (t:TT):Prop where
 mix:P.follows .mixedOrders=true
 tab:t.all (fun i v=>tiChk P i v)=true
 gls: ∀g,hs (gv g)=[]
theorem Impl.of {P:Program} {gv:Nat→AV} {t:TT} (W0:World0 P gv t) {l:List (Nat×List Nat×Spec)} (hO:AllI P gv l) {f j nr:Nat} {fn:Func} {V U:Type} {h:H} {po:List G} {R:U→St} {d:Dec V}
  (s:SumT { ti:=t.get,gl:=gv,orc:=lkS l } nr j (bodyOf fn) h po d.St R R q0) (hd:d.Ok) (sp:Spec) (out:U→(FRes→Option FRes)→Option FRes)
  (hf:P.funcs[f]?=some fn:=by kernel_rfl)
  (hb:(fn.name== "runtime.NumGoroutine")=false∧fn.body=some (bodyOf fn)∧dstC fn.ntmps (bodyOf fn)=true:=by exact⟨by kernel_rfl,by kernel_rfl,by kernel_rfl⟩)
  (hr: ∀x,(addNew [] (hs (d.args x))).length=nr:=by intro x;kernel_rfl) (hl: ∀x,Nat.ble nr (d.ins x).length=true:=by intro x;kernel_rfl)
  (hR: ∀(u:U) (K:FRes→Option FRes),(resE { ti:=t.get,gl:=gv,orc:=lkS l } (R u) fn.results.toList fun vs=>finE nr (R u).hp vs K)=out u K:=by intro u K;kernel_rfl)
  (hs: ∀(a:AV) (o:List Ob) (K:FRes→Option FRes),sp.run a o K=(d.dec a o).bind fun x=>s.F x (fun u=>out u K) (fun u=>out u K) (fun z=>nomatch z):=by intro a o K;kernel_rfl):Impl P gv f sp:=by
 refine⟨⟨fn,hf,hb.1,by rw[hb.2.1];rfl⟩,fun args ins K r he=>?_⟩
 rw[hs]at he
 rw[Option.bind_eq_some_iff]at he
 obtain⟨x,hx,he⟩:=he
 obtain⟨rfl,rfl⟩:=hd.dec hx
 have h1:=evF_sum (E:={ ti:=t.get,gl:=gv,orc:=lkS l }) (j:=j) (K:=K) (x:=x) hb.2.1 (hr x) (hl x) s.ok rfl (fun u=>hR u K)
 exact evF_snd W0.mix (envOk rfl W0.tab) rfl (fun f s sp h=>hO.get f s sp h) W0.gls hf hb.2.1 hb.2.2 (h1.trans he)
abbrev E0 (gv:Nat→AV) (t:TT):Env:={ ti:=t.get,gl:=gv,orc:=lkS [] }
theorem run_at {P:Program} {gv:Nat→AV} {t:TT} (W0:World0 P gv t) {f j:Nat} {fn:Func} {c:Code} (hf:P.funcs[f]?=some fn) (hb:fn.body=some c) (hd:dstC fn.ntmps c=true) {h:H} {po:List G} {args:AV} {ins:List Ob} {fr:FRes}
  (he:evF (E0 gv t) j fn h po args ins some=some fr) {Z:Nat→Prop} {w:World} {σ:Nat→Sh} {vs:Array Value} (hv:VR Z w σ args vs.toList) (il:isL args=true) (m:MR gv Z w σ (obsF ins)) (hu: ∀i,σ i= .un↔ins.length≤i):
  Calls P f vs w (RetOk gv Z w σ ins (addNew [] (hs args)).length fr):=by
 obtain⟨fr',h1,_,h3⟩:=evF_snd (E:=E0 gv t) W0.mix (envOk rfl W0.tab) rfl (fun f s sp h=>AllI.get (l:=[]) trivial f s sp h) W0.gls hf hb hd he
 cases h1
 exact h3 Z w σ vs hv il m hu
def hClone (e:Ty):H:=hr (hl (hr (hl (hr (.n [.own 2 none e] [] .d .d)))))
theorem clone_impl {P:Program} {gv:Nat→AV} {t:TT} (W0:World0 P gv t) {f:Nat} {fn:Func} {e:Ty} {n k:Nat} (hf:P.funcs[f]?=some fn)
  (hb:(fn.name== "runtime.NumGoroutine")=false∧fn.body=some (bodyOf fn)∧dstC fn.ntmps (bodyOf fn)=true)
  (h1: ∀(x:e.den) (xs:List e.den),evF (E0 gv t) 0 fn (hClone e) [] (.cn (.p (.sl e) (x::xs:List e.den)) .e0) [] some=if(0+(x::xs).length)*n≤room then some { ret:= .sl 0 none none,objs:=[.L e (x::xs)] } else none)
  (h2: ∀c,evF (E0 gv t) 0 fn (hClone e) [] (.cn (.k (.slice none 0 c)) .e0) [] some=some { ret:= .sl 0 none none,objs:=[.L e []] })
  (h3: ∀a c,evF (E0 gv t) 0 fn (hClone e) [] (.cn (.k (.slice (some a) 0 c)) .e0) [] some=some { ret:= .sl 0 none none,objs:=[.L e []] }):Impl P gv f (cloneS e n k):=by
 refine⟨⟨fn,hf,hb.1,by rw[hb.2.1];rfl⟩,fun args ins K r he=>?_⟩
 obtain⟨xs,hx,h4⟩:=Option.bind_eq_some_iff.1 he
 clear he
 have he:cloneF n k xs (fun y=>K { ret:= .sl 0 none none,objs:=[.L e y] })=some r:=h4
 clear h4
 obtain⟨rfl,rfl⟩:=(d1_ok (dP_ok (.sl e))).dec hx
 unfold cloneF at he
 split at he
 case isFalse=>cases he
 rename_i hn
 refine⟨_,he,Nat.zero_le _,fun Z w σ vs hv il m hu=>?_⟩
 obtain⟨v,r',e1,h4,h5,_⟩:=hv
 have h5:r'=[]:=h5
 subst h5
 cases xs with
 | cons x xs=>
  refine run_at W0 hf hb.2.1 hb.2.2 (args:= .cn (.p (.sl e) (x::xs:List e.den)) .e0) ((h1 x xs).trans (if_pos (by rw[Nat.zero_add];exact hn))) (by rw[e1];exact⟨v,[],rfl,h4,rfl,rfl⟩) rfl m hu
 | nil=>
  obtain⟨a,c,e2,_⟩:=h4.2
  cases e2
  cases a with
  | none=>exact run_at W0 hf hb.2.1 hb.2.2 (args:= .cn (.k (.slice none 0 c)) .e0) (h2 c) (by rw[e1];exact⟨_,[],rfl,rfl,rfl,rfl⟩) rfl m hu
  | some a=>exact run_at W0 hf hb.2.1 hb.2.2 (args:= .cn (.k (.slice (some a) 0 c)) .e0) (h3 a c) (by rw[e1];exact⟨_,[],rfl,rfl,rfl,rfl⟩) rfl m hu
def tyOk:(t:Ty)→t.den→Prop
 | .int k,x=>(Lit.int k x).wf=true
 | .str,x=>ByteArray.size x≤maxLen
 | .sl e,xs=>List.length xs≤room∧ ∀x∈(id (α:=List e.den) xs),tyOk e x
 | .pr a b,x=>tyOk a x.1∧tyOk b x.2
 | _,_=>True
def prOf:List Ty→Ty
 | []=> .un
 | [t]=>t
 | t::r=> .pr t (prOf r)
def cellsF (P:Program) (q:TypeId→Option (List Ty)):List Field→Nat→Option (List Ty)
 | [],_=>some []
 | f::r,o=>match q f.type with
  | some l=>if f.offset=o∧l.length=P.cellsOf f.type then(cellsF P q r (o+l.length)).map (l++ ·)else none
  | none=>none
def repL (l:List Ty):Nat→List Ty
 | 0=>[]
 | n+1=>l++repL l n
def cellsTy (P:Program):Nat→TypeId→Option (List Ty)
 | 0,_=>none
 | d+1,t=>match P.underlying t with
  | some (.int k)=>some [.int k]
  | some .bool=>some [.bool]
  | some .string=>some [.str]
  | some (.slice e)=>match cellsTy P d e with
   | some l=>if(prOf l).sz=P.cellsOf e∧0<P.cellsOf e∧0<P.bytesOf e then some [.sl (prOf l)]else none
   | none=>none
  | some (.struct fs)=>match cellsF P (cellsTy P d) fs.toList 0 with
   | some l=>if l.length=P.cellsOf t then some l else none
   | none=>none
  | some (.array n e)=>match cellsTy P d e with
   | some l=>if l.length=P.cellsOf e∧n*l.length=P.cellsOf t then some (repL l n)else none
   | none=>none
  | _=>none
section
variable {P:Program} {w:World} {Z:Nat→Prop}
def PVL (Z:Nat→Prop) (w:World):List Ty→List Value→Prop
 | [],cs=>cs=[]
 | t::r,cs=> ∃c cs',cs=c++cs'∧(∃x,PV Z w t x c∧tyOk t x)∧PVL Z w r cs'
theorem PVL.append: ∀{l m:List Ty} {a b:List Value},PVL Z w l a→PVL Z w m b→PVL Z w (l++m) (a++b)
 | [],m,a,b,h,k=>by
  cases h
  exact k
 | t::r,m,a,b,h,k=>by
  obtain⟨c,cs',rfl,h1,h2⟩:=h
  exact⟨c,cs'++b,by simp,h1,h2.append k⟩
theorem PVL.one {t:Ty} {cs:List Value} {x:t.den} (h:PV Z w t x cs) (k:tyOk t x):PVL Z w [t] cs:=⟨cs,[],by simp,⟨x,h,k⟩,rfl⟩
theorem PVL.pr: ∀{l:List Ty} {cs:List Value},PVL Z w l cs→ ∃x,PV Z w (prOf l) x cs∧tyOk (prOf l) x
 | [],cs,h=>⟨(),h,trivial⟩
 | [t],cs,h=>by
  obtain⟨c,cs',rfl,h1,h2⟩:=h
  cases h2
  rw[List.append_nil]
  exact h1
 | t::u::r,cs,h=>by
  obtain⟨c,cs',rfl,⟨x,h1,h3⟩,h2⟩:=h
  obtain⟨y,h4,h5⟩:=PVL.pr h2
  exact⟨(x,y),⟨c,cs',rfl,h1,h4⟩,h3,h5⟩
theorem choose_list {α:Type} {R:Nat→α→Prop}: ∀n:Nat,(∀i,i<n→ ∃x,R i x)→ ∃xs:List α,xs.length=n∧ ∀i x,xs[i]?=some x→R i x
 | 0,_=>⟨[],rfl,fun i x h=>by simp at h⟩
 | n+1,h=>by
  obtain⟨xs,h1,h2⟩:=choose_list n fun i hi=>h i (by omega)
  obtain⟨x,hx⟩:=h n (by omega)
  refine⟨xs++[x],by simp[h1],fun i y hy=>?_⟩
  rcases Nat.lt_or_ge i n with hi|hi
  ·rw[List.getElem?_append_left (by omega)]at hy
   exact h2 i y hy
  ·have:i=n:=by
    have:=(List.getElem?_eq_some_iff.1 hy).1
    simp at this
    omega
   subst this
   rw[List.getElem?_append_right (by omega)]at hy
   simp[h1]at hy
   subst hy
   exact hx
theorem take_split {cs:List Value} {o m n:Nat}:(cs.drop o).take (m+n)=(cs.drop o).take m++(cs.drop (o+m)).take n:=by
 rw[List.take_add,List.drop_drop]
theorem cellsF_PVL {q:TypeId→Option (List Ty)} {cs:List Value}: ∀{fs:List Field} {o:Nat} {l:List Ty},cellsF P q fs o=some l→
  (∀f∈fs, ∀m,q f.type=some m→PVL Z w m ((cs.drop f.offset).take (P.cellsOf f.type)))→PVL Z w l ((cs.drop o).take l.length)
 | [],o,l,h,_=>by
  cases h
  simp[PVL]
 | f::r,o,l,h,hf=>by
  simp only[cellsF]at h
  split at h
  case h_2=>cases h
  rename_i m hm
  split at h
  case isFalse=>cases h
  rename_i hc
  obtain⟨l2,h2,rfl⟩:=Option.map_eq_some_iff.1 h
  have h3:=hf f (by simp) m hm
  rw[hc.1, ←hc.2]at h3
  have h4:=cellsF_PVL h2 fun g hg=>hf g (by simp[hg])
  rw[List.length_append,take_split]
  exact h3.append h4
theorem repL_PVL {l:List Ty} {cs:List Value}: ∀{n o:Nat},(∀i,i<n→PVL Z w l ((cs.drop (o+i*l.length)).take l.length))→PVL Z w (repL l n) ((cs.drop o).take (n*l.length))
 | 0,o,_=>by simp[repL,PVL]
 | n+1,o,h=>by
  have h1:=h 0 (by omega)
  have h2:=repL_PVL (n:=n) (o:=o+l.length) fun i hi=>by
   have:=h (i+1) (by omega)
   rw[Nat.succ_mul]at this
   rwa[show o+l.length+i*l.length=o+(i*l.length+l.length) by omega]
  rw[Nat.succ_mul,Nat.add_comm (n*l.length),take_split]
  rw[Nat.zero_mul,Nat.add_zero]at h1
  exact h1.append h2
theorem mem_wAll {H:Type} {e:TypeId} {n:Nat}: ∀{l:List (DataW H)} {d:DataW H},d∈l→n∈d.weights P e→n∈DataW.weightsAll P e l
 | x::l,d,hd,hn=>by
  rw[DataW.weightsAll]
  rcases List.mem_cons.1 hd with rfl|hd
  ·exact List.mem_append_left _ hn
  ·exact List.mem_append_right _ (mem_wAll hd hn)
theorem mem_wEach {H:Type} {n:Nat}: ∀{ts:List TypeId} {l:List (DataW H)} {i:Nat} {t:TypeId} {d:DataW H},ts[i]?=some t→l[i]?=some d→n∈d.weights P t→n∈DataW.weightsEach P ts l
 | u::ts,x::l,0,t,d,h1,h2,hn=>by
  cases h1
  cases h2
  rw[DataW.weightsEach]
  exact List.mem_append_left _ hn
 | u::ts,x::l,i+1,t,d,h1,h2,hn=>by
  rw[DataW.weightsEach]
  exact List.mem_append_right _ (mem_wEach (i:=i) (by simpa using h1) (by simpa using h2) hn)
 | [],_,_,_,_,h1,_,_=>by simp at h1
 | _::_,[],_,_,_,_,h2,_=>by simp at h2
theorem trod_PVL {H:Type} {enc:TypeId×Value→H} {base:Nat} {spare:Nat→Bool} {held:Bool}: ∀{d fuel:Nat} {t:TypeId} {cs:List Value} {r:DataW H×List MemPlace} {l:List Ty},
  DataW.trod enc P w base spare held fuel t cs=some r→cellsTy P d t=some l→(∀n∈r.1.weights P t,n≤reachBytes)→PVL (fun b=>b<w.heap.size) w l cs
 | 0,_,_,_,_,_,_,hl,_=>by cases hl
 | d+1,fuel,t,cs,r,l,h,hl,hz=>by
  unfold cellsTy at hl
  split at hl
  ·rename_i k hu
   cases hl
   obtain⟨n,rfl,_,hw⟩:=DataW.trod_int hu h
   exact PVL.one (t:= .int k) (x:=n) rfl hw
  ·rename_i hu
   cases hl
   obtain⟨b,rfl,_⟩:=DataW.trod_bool hu h
   exact PVL.one (t:= .bool) (x:=b) rfl trivial
  ·rename_i hu
   cases hl
   obtain⟨s,rfl,_,hs⟩:=DataW.trod_string hu h
   exact PVL.one (t:= .str) (x:=s) rfl hs
  ·rename_i e hu
   split at hl
   case h_2=>cases hl
   rename_i l' hl'
   split at hl
   case isFalse=>cases hl
   rename_i hc
   cases hl
   rcases DataW.trod_slice hu h with ⟨rfl,_⟩|⟨a,len,cap,elems,rest,n,_,rfl,rfl,hb,hle,hm,hlen,hel,_⟩
   ·exact PVL.one (t:= .sl (prOf l')) (x:=([]:List (prOf l').den)) ⟨none,0,rfl,Nat.le_refl _, .inl rfl⟩ ⟨Nat.zero_le _,fun x hx=>by cases hx⟩
   ·simp only[DataW.weights,hu,List.mem_cons,List.mem_append,List.length_map]at hz
    have hroom:len≤room:=by
     have h0:=hz _ (.inl rfl)
     have h1:elems.length+rest.length≤(elems.length+rest.length)*P.bytesOf e:=Nat.le_mul_of_pos_right _ hc.2.2
     have h2:reachBytes≤room:=by decide
     omega
    obtain⟨xs,h1,h2⟩:=choose_list (R:=fun i (x:(prOf l').den)=> ∃q,w.cells? base (a.add (i*P.cellsOf e)) (P.cellsOf e)=some q∧PV (fun b=>b<w.heap.size) w (prOf l') x q∧tyOk (prOf l') x) len fun i hi=>by
     have h3:=hel i hi
     rw[show elems[i]?=some elems[i]from List.getElem?_eq_getElem (by omega)]at h3
     obtain⟨q,h4,h5⟩:=Option.bind_eq_some_iff.1 h3
     obtain⟨x,h6,h7⟩:=(trod_PVL h5 hl' fun m hm=>hz m (.inr (.inl (mem_wAll (List.mem_map.2 ⟨_,List.getElem_mem (by omega),rfl⟩) hm)))).pr
     exact⟨x,q,h4,h6,h7⟩
    refine PVL.one (t:= .sl (prOf l')) (x:=xs) ⟨some a,cap,by rw[h1],by omega,?_⟩ ⟨by rw[h1];exact hroom,fun x hx=>?_⟩
    ·by_cases h0:len=0
     ·exact .inl (by omega)
     ·obtain⟨q,h4,h5,_⟩:=h2 0 xs[0] (List.getElem?_eq_getElem (by omega))
      obtain⟨_,h6,h7⟩:=World.cells?_some h4
      have h8:=h7 0 hc.2.1
      have h9:(a.add (0*P.cellsOf e)).add 0=a:=by simp[Addr.add]
      rw[h9,List.getElem?_eq_getElem (by omega)]at h8
      have h10:a.spot=none∧a.block<w.heap.size:=by
       unfold World.cell? at h8
       split at h8
       ·rename_i hh
        refine⟨?_,(Array.getElem?_eq_some_iff.1 hh).1⟩
        split at h8
        ·cases h8
        ·rename_i hs
         simpa using hs
       ·cases h8
      refine .inr ⟨a.block,a.off,by rw[←h10.1],h10.2,fun i x hx=>?_⟩
      obtain⟨q,h4,h5,_⟩:=h2 i x hx
      obtain⟨_,h6,h7⟩:=World.cells?_some h4
      refine⟨q,h5,fun j v hj=>?_⟩
      have hj':j<P.cellsOf e:=by
       have:=(List.getElem?_eq_some_iff.1 hj).1
       omega
      have h11:=h7 j hj'
      rw[hj]at h11
      have h12:(a.add (i*P.cellsOf e)).add j=⟨a.block,a.off+i*(prOf l').sz+j,none⟩:=by
       rw[hc.1]
       have:=h10.1
       cases a
       simp only at this
       subst this
       simp only[Addr.add]
       split<;>split<;>simp_all<;>omega
      rw[←h12]
      exact h11
    ·obtain⟨i,hi⟩:=List.getElem?_of_mem hx
     obtain⟨_,_,_,h3⟩:=h2 i x hi
     exact h3
  ·rename_i fs hu
   split at hl
   case h_2=>cases hl
   rename_i l' hl'
   split at hl
   case isFalse=>cases hl
   rename_i hc
   cases hl
   obtain⟨xs,n,_,rfl,hlen,hxs,hf⟩:=DataW.trod_struct hu h
   simp only[DataW.weights,hu]at hz
   have h1:=cellsF_PVL (P:=P) (Z:=fun b=>b<w.heap.size) (w:=w) (cs:=cs) hl' fun f hmem m hm=>by
    obtain⟨i,hi⟩:=List.getElem?_of_mem hmem
    rw[Array.getElem?_toList]at hi
    have h2:=hf i f hi
    have hi2:i<xs.length:=by
     rw[hxs]
     exact(Array.getElem?_eq_some_iff.1 hi).1
    rw[List.getElem?_eq_getElem hi2]at h2
    exact trod_PVL h2 hm fun q hq=>hz q (mem_wEach (i:=i) (by rw[List.getElem?_map,Array.getElem?_toList,hi];rfl) (by rw[List.getElem?_map,List.getElem?_eq_getElem hi2];rfl) hq)
   rw[List.drop_zero,List.take_of_length_le (by omega)]at h1
   exact h1
  ·rename_i n e hu
   split at hl
   case h_2=>cases hl
   rename_i l' hl'
   split at hl
   case isFalse=>cases hl
   rename_i hc
   cases hl
   obtain⟨xs,m,_,rfl,hlen,hxs,hf⟩:=DataW.trod_array hu h
   simp only[DataW.weights,hu]at hz
   have h1:=repL_PVL (Z:=fun b=>b<w.heap.size) (w:=w) (l:=l') (cs:=cs) (n:=n) (o:=0) fun i hi=>by
    have h2:=hf i hi
    rw[List.getElem?_eq_getElem (by omega)]at h2
    rw[Nat.zero_add,hc.1]
    exact trod_PVL h2 hl' fun q hq=>hz q (mem_wAll (List.mem_map.2 ⟨_,List.getElem_mem (by omega),rfl⟩) hq)
   rw[List.drop_zero,List.take_of_length_le (by omega)]at h1
   exact h1
  ·cases hl
end
end Go.Proofs.YtkeiedikiiccpaaGreatDoor.Am
