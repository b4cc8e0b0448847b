/- A part of the proof of ScrubMade: lemmas. No conditions beyond those of each lemma. -/
import Derived.Test.YtkeiedikiiccpaaGreatDoorK3
set_option linter.all false
namespace Go.Proofs.YtkeiedikiiccpaaGreatDoor.Am
open Go
theorem upd_same {α:Type} (f:Nat→α) (i:Nat) (v:α):upd f i v i=v:=by simp[upd]
theorem upd_ne {α:Type} (f:Nat→α) {i j:Nat} (v:α) (h:j≠i):upd f i v j=f j:=by
 have:Nat.beq j i=false:=by
  cases hb:Nat.beq j i
  ·rfl
  ·exact absurd (Nat.eq_of_beq_eq_true hb) h
 simp[upd,this]
section
variable {P:Program} {E:Env} {gv:Nat→AV} {Z Z':Nat→Prop} {w w':World} {σ σ':Nat→Sh} {hp hp':Nat→Ob} {o:Oper} {tm tm':Nat→AV} {n:Nat} {K:Eff→Option FRes} {r:FRes} {a:Act}
theorem push_new {c:Array Value} {el:TypeId} (hw:w'.heap=w.heap.push (.cells c el)):w'.heap[w.heap.size]?=some (.cells c el (0,0)):=by rw[hw];simp
theorem push_old {ob:Obj} (hw:w'.heap=w.heap.push ob) {b:Nat} (hb:b<w.heap.size):w'.heap[b]?=w.heap[b]?:=by
 rw[hw,Array.getElem?_push,if_neg (by omega)]
theorem MR.new (m:MR gv Z w σ hp) (hn:σ n= .un) {ob':Obj} (hw:w'.heap=w.heap.push ob') (hos:w'.os=w.os) (htape:w'.tape=w.tape) (hout:w'.output=w.output) {s:Sh} {ob:Ob} (hs:s≠ .un)
  (hor:OR Z w' (upd σ n s) ob s) (hbl: ∀b,blks ob s b→b=w.heap.size):
  MR gv Z w' (upd σ n s) (upd hp n ob)∧Ext Z w σ hp Z w' (upd σ n s) (upd hp n ob)∧(∀h,Sle (upd σ n s h) (σ h))∧(∀h,upd σ n s h= .un↔σ h= .un∧h≠n):=by
 have hsle: ∀h,Sle (upd σ n s h) (σ h):=fun h=>by
  by_cases hh:h=n
  ·subst hh
   rw[hn]
   exact .new _
  ·rw[upd_ne _ _ hh]
   exact .same _
 have hst:=MR.step (σ':=upd σ n s) (hp':=upd hp n ob) (Z':=Z) (w':=w') m (· =n) (fun g h=>g=h) (fun h b=>h=n∧b=w.heap.size) hos htape hout (by rw[hw];simp) (fun b hb _=>push_old hw hb) (fun _ h=>h)
  (fun b hb=> .inl hb) (fun b hb=>by have:=m.zlt b hb;rw[hw];simp;omega) hsle
  (fun h hh=>⟨upd_ne _ _ hh,upd_ne _ _ hh,fun b hb=>⟨push_old hw (m.olt ⟨h,hb⟩).1,(m.olt ⟨h,hb⟩).2⟩⟩)
  (fun h hh=>by
   subst hh
   rw[upd_same,upd_same]
   exact⟨fun _=>hor,fun e=>absurd e hs,fun b hb=> .inr ⟨rfl,hbl b hb⟩⟩)
  (fun _ _=>rfl) (fun g h h' e1 e2=>e1.symm.trans e2) (fun h b hf=>by rw[hf.2];exact Nat.le_refl _) (fun h h' b f1 f2=>f1.1.trans f2.1.symm)
 refine⟨hst.1,hst.2,hsle,fun h=>?_⟩
 by_cases hh:h=n
 ·subst hh
  rw[upd_same]
  exact⟨fun e=>absurd e hs,fun e=>absurd rfl e.2⟩
 ·rw[upd_ne _ _ hh]
  exact⟨fun e=>⟨e,hh⟩,fun e=>e.1⟩
theorem toF_congr {fs:List Nat} (h: ∀g∈fs,hp' g=hp g):fs.map (toF hp)=fs.map (toF hp'):=
 List.map_congr_left fun g hg=>by simp only[toF,h g hg]
theorem OpSnd.new {e:Eff} {fs:List Nat} {ob:Ob} (hwr:e.wr=fs.map (toF hp)) (hrd: ∀h∈fs,h∈e.rd) (hnw:e.nw=[ob])
  (H: ∀(tm':Nat→AV) (hp':Nat→Ob) (Z:Nat→Prop) (w:World) (σ:Nat→Sh) (a:Act),(∀t∈opT o,tm' t=tm t)→(∀h∈e.rd,hp' h=hp h)→SR gv Z w σ tm' hp' a→σ n= .un→
   (∀h∈fs,hp' h≠ .dead)∧ ∃u w' c el s,(execOp a.eval o).run P w= .ok (.value u) w'∧w'.heap=w.heap.push (.cells c el)∧w'.os=w.os∧w'.tape=w.tape∧w'.output=w.output∧s≠ .un∧(∀b,blks ob s b→b=w.heap.size)∧
    (Kept Z w (ZF Z σ hp' fs) w'→ ¬ZF Z σ hp' fs w.heap.size→ ∀σ',(∀h,Sle (σ' h) (σ h))→σ' n=s→OR (ZF Z σ hp' fs) w' σ' ob s∧VR (ZF Z σ hp' fs) w' σ' e.v [u])):OpSnd P gv o tm hp n e:=by
 intro tm' hp' Z w σ a h1 h2 _ h4 h5 h6 K Q hK
 rw[hnw]at h4
 have hn:σ n= .un:=h4 n (by simp[news])
 obtain⟨hl,u,w',c,el,s,hr,hw,hos,htape,hout,hs,hbl,hR⟩:=H tm' hp' Z w σ a h1 h2 h5 hn
 obtain⟨σ1,m1,x1,s1,un1,_,_⟩:=h5.mem.frz fs hl
 have hn1:σ1 n= .un:=(un1 n).2 hn
 have hk:Kept Z w (ZF Z σ hp' fs) w':=⟨fun b hb=> .inl hb,fun b hb=>push_old hw (h5.mem.zlt b hb)⟩
 have hz: ¬ZF Z σ hp' fs w.heap.size:=fun hz=>by have:=m1.zlt _ hz;omega
 have hsl: ∀h,Sle (upd σ1 n s h) (σ h):=fun h=>by
  by_cases hh:h=n
  ·subst hh
   rw[hn]
   exact .new _
  ·rw[upd_ne _ _ hh]
   exact s1 h
 obtain⟨hor,hv⟩:=hR hk hz (upd σ1 n s) hsl (upd_same _ _ _)
 obtain⟨m2,x2,s2,un2⟩:=m1.new hn1 hw hos htape hout hs hor hbl
 unfold Oper.wp
 rw[hr]
 show K (a.put o.dst u) w'
 rw[hwr,hnw,toF_congr fun g hg=>h2 g (hrd g hg)]at hK
 refine hK _ w' _ (upd σ1 n s) (h5.put m2 hk hsl hv h6) (x1.trans x2) hsl ⟨fun h hh e=>?_,fun h hh=>?_,fun h hu hh=>?_⟩ (size_put _ _ _) (defers_put _ _ _)
 ·exact hh ((un1 h).1 ((un2 h).1 e).1)
 ·simp only[news,List.mem_singleton]at hh
  subst hh
  rw[upd_same]
  exact hs
 ·refine(un2 h).2 ⟨(un1 h).2 hu,fun e=>hh ?_⟩
  simp[news,e]
theorem blk_push {c:Array Value} {el:TypeId} (hw:w'.heap=w.heap.push (.cells c el)) {k:Nat} (hk:k≤c.size):Blk w' w.heap.size k:=⟨c,el,push_new hw,hk⟩
theorem cell_push {c:Array Value} {el:TypeId} (hw:w'.heap=w.heap.push (.cells c el)) (j:Nat):w'.cell? ⟨w.heap.size,j,none⟩=c[j]?:=by simp[World.cell?,push_new hw]
theorem mkVar_snd {t:Nat} {cs:AV} {ob:Ob} (h:mkVar (E.ti t) cs=some ob) {c:Array Value} {el:TypeId} (hw:w'.heap=w.heap.push (.cells c el))
  (hv:VR Z w σ cs c.toList) (il:isL cs=true): ∃s,s≠ .un∧(∀b,blks ob s b→b=w.heap.size)∧(Kept Z w Z' w'→ ¬Z' w.heap.size→ ∀σ',(∀h,Sle (σ' h) (σ h))→σ' n=s→
   OR Z' w' σ' ob s∧VR Z' w' σ' (.ptr n 0 0) [.pointer (some ⟨w.heap.size,0,none⟩)]):=by
 unfold mkVar at h
 split at h
 ·rename_i e m hab
  cases hm:Nat.ble 1 m
  ·rw[hm]at h;cases h
  rw[hm]at h
  simp only[cond_true]at h
  obtain⟨xs,hx,rfl⟩:=Option.map_eq_some_iff.1 h
  have hm:=Nat.le_of_ble_eq_true hm
  obtain⟨h1,h2,h3⟩:=ofCs_PV e m hx hv il
  refine⟨.S e.sz xs.length (some (w.heap.size,0,m)) none,by simp,fun b hb=>hb.symm▸rfl,fun hk hz σ' hs hn=>⟨⟨_,rfl,by omega,blk_push hw (by rw[Array.length_toList]at h2;omega),hz,?_⟩,?_⟩⟩
  ·intro i x hi
   obtain⟨l1,h4,h5⟩:=h3 i x hi
   refine⟨l1,h4.kept hk,fun j v hj=>?_⟩
   rw[cell_push hw]
   have:=h5 j v hj
   simpa using this
  ·refine⟨_,rfl,?_⟩
   rw[hn]
   exact⟨_,_,_,rfl,by simp,by omega⟩
 ·cases h
  refine⟨.B w.heap.size cs.len,by simp,fun b hb=>hb,fun hk hz σ' hs hn=>⟨⟨_,c,el,rfl,push_new hw,hz,hv.mono hk fun h _=>hs h,il⟩,?_⟩⟩
  refine⟨_,rfl,?_⟩
  rw[hn]
  exact⟨rfl,rfl⟩
theorem snd_alloc (hE:EnvOk P E) {t:Nat} (ho:o.op= .alloc t) (h:(if(E.ti t).z.len=(E.ti t).size∧(E.ti t).ok=true then match mkVar (E.ti t) (E.ti t).z with
  | some ob=>K { v:= .ptr n 0 0,nw:=[ob] }
  | none=>none
  else none)=some r):Snd P gv o tm hp n K r:=by
 split at h
 case isFalse=>cases h
 rename_i hc
 split at h
 case h_2=>cases h
 rename_i ob hob
 refine⟨_,h,OpSnd.new (fs:=[]) rfl (by simp) rfl fun tm' hp' Z w σ a ht hh hs hn=>⟨by simp,?_⟩⟩
 obtain⟨i,z,d,i1,i2,i3,i4,i5,i6,i7,i8,i9,i10,i11⟩:=tiChk_info (hE.tab t hc.2)
 have hw:(w.alloc (.cells z.cells t)).heap=w.heap.push (.cells z.cells t):=rfl
 obtain⟨s,s1,s2,s3⟩:=mkVar_snd (n:=n) (Z:=Z) (Z':=ZF Z σ hp' []) (σ:=σ) hob hw (zChk_VR i5) (zChk_isL i5)
 refine⟨_,_,_,_,s,?_,hw,rfl,rfl,rfl,s1,s2,fun hk hz σ' hs hn=>s3 hk hz σ' hs hn⟩
 simp[execOp,ho,Instr.alloc,zeroValue,typeInfo,i1,i4,newVar,newRow]
theorem snd_box (hg:E.gl=gv) {t:Nat} {x:Operand} (ho:o.op= .box t x) (h:(if(evA E tm x).cells.len=(E.ti t).size∧(E.ti t).ok=true∧cellsOk (evA E tm x)=true then match mkVar (E.ti t) (evA E tm x).cells with
  | some ob=>K { v:= .ptr n 0 0,nw:=[ob] }
  | none=>none
  else none)=some r):Snd P gv o tm hp n K r:=by
 split at h
 case isFalse=>cases h
 rename_i hc
 split at h
 case h_2=>cases h
 rename_i ob hob
 refine⟨_,h,OpSnd.new (fs:=[]) rfl (by simp) rfl fun tm' hp' Z w σ a ht hh hs hn=>⟨by simp,?_⟩⟩
 have hv:VR Z w σ (evA E tm x) [a.eval x]:=evA_op hg hs ht (by simp[ho,Op.operands])
 obtain⟨h1,h2⟩:=cells_VR hv hc.2.2
 have hw:(w.alloc (.cells (a.eval x).cells t)).heap=w.heap.push (.cells (a.eval x).cells t):=rfl
 obtain⟨s,s1,s2,s3⟩:=mkVar_snd (n:=n) (Z:=Z) (Z':=ZF Z σ hp' []) (σ:=σ) hob hw h1 h2
 refine⟨_,_,_,_,s,?_,hw,rfl,rfl,rfl,s1,s2,fun hk hz σ' hs hn=>s3 hk hz σ' hs hn⟩
 simp[execOp,ho,Instr.box,newVar,newRow]
theorem madeCells_at (z:Array Value) (k i q:Nat) (hq:q<z.size) (hi:i<k):(madeCells z (k*z.size))[i*z.size+q]?=some z[q]:=by
 have h1:i*z.size+q<k*z.size:=by
  have:(i+1)*z.size≤k*z.size:=Nat.mul_le_mul_right _ hi
  rw[Nat.add_mul]at this
  omega
 have h2:(i*z.size+q)%z.size=q:=by
  rw[Nat.mul_comm,Nat.mul_add_mod]
  exact Nat.mod_eq_of_lt hq
 simp[madeCells,h1,h2,hq]
theorem RowAt_made {b:Nat} {e:Ty} {z:Array Value} (hz:PV Z w e e.zero z.toList) (hpos:1≤e.sz) {k l:Nat} (hl:l≤k) (hc: ∀j,w.cell? ⟨b,j,none⟩=(madeCells z (k*z.size))[j]?):
  RowAt Z w b 0 e (List.replicate l e.zero):=by
 intro i x hx
 have hi:i<l:=by
  have:=(List.getElem?_eq_some_iff.1 hx).1
  simpa using this
 have hxe:x=e.zero:=by
  rw[List.getElem?_replicate,if_pos hi]at hx
  exact(Option.some.inj hx).symm
 subst hxe
 have hsz:=PV.length e hz
 rw[Array.length_toList]at hsz
 refine⟨_,hz,fun j v hj=>?_⟩
 have hjl:=(List.getElem?_eq_some_iff.1 hj).1
 rw[Array.length_toList]at hjl
 rw[hc,Nat.zero_add, ←hsz,madeCells_at z k i j hjl (by omega)]
 rw[Array.getElem?_toList]at hj
 rw[←hj]
 simp[hjl]
theorem mkL_snd {σ:Nat→Sh} {e:Ty} (hpos:1≤e.sz) {z:Array Value} (hz:zChk (toC e e.zero) z.toList=true) {k l:Nat} (hl:l≤k) {el:TypeId} (hw:w'.heap=w.heap.push (.cells (madeCells z (k*e.sz)) el)):
  ∃s,s≠ .un∧(∀b,blks (mkL e (List.replicate l e.zero)) s b→b=w.heap.size)∧(¬Z' w.heap.size→ ∀σ',σ' n=s→
   OR Z' w' σ' (mkL e (List.replicate l e.zero)) s∧VR Z' w' σ' (.sl n none none) [.slice (some ⟨w.heap.size,0,none⟩) l k]):=by
 have hpv:PV Z' w' e e.zero z.toList:=PV.of_toC (σ:=σ) e (zChk_VR hz)
 have hsz:=PV.length e hpv
 rw[Array.length_toList]at hsz
 have hcell:=cell_push hw
 have hblk:Blk w' w.heap.size (0+k*e.sz):=blk_push hw (by rw[size_madeCells];omega)
 have hhdr: ∀sz,Hdr sz (some (w.heap.size,0,k)) (ofs none) (slenN l none none) (.slice (some ⟨w.heap.size,0,none⟩) l k):=fun sz=>⟨_,_,rfl,hl, .inr ⟨_,_,_,rfl,by simp[ofs],by simp[ofs]⟩⟩
 have flat: ∃s,s≠ .un∧(∀b,blks (.L e (List.replicate l e.zero)) s b→b=w.heap.size)∧(¬Z' w.heap.size→ ∀σ',σ' n=s→
   OR Z' w' σ' (.L e (List.replicate l e.zero)) s∧VR Z' w' σ' (.sl n none none) [.slice (some ⟨w.heap.size,0,none⟩) l k]):=by
  refine⟨.S e.sz (List.replicate l e.zero).length (some (w.heap.size,0,k)) none,by simp,fun b hb=>hb.symm▸rfl,fun hnz σ' hn=>⟨⟨_,rfl,by simp;exact hl,hblk,hnz,?_⟩,?_⟩⟩
  ·exact RowAt_made hpv hpos hl (fun j=>by rw[hcell,hsz])
  ·refine⟨_,rfl,?_⟩
   rw[hn]
   simp only[List.length_replicate]
   exact⟨hhdr _,by simp[ofs,slenN]⟩
 have rows: ∀(e':Ty),e= .sl e'→ ∃s,s≠ .un∧(∀b,blks (.N e' none (List.replicate l ([]:List e'.den)) 0 none) s b→b=w.heap.size)∧(¬Z' w.heap.size→ ∀σ',σ' n=s→
   OR Z' w' σ' (.N e' none (List.replicate l ([]:List e'.den)) 0 none) s∧VR Z' w' σ' (.sl n none none) [.slice (some ⟨w.heap.size,0,none⟩) l k]):=by
  rintro e' rfl
  have hzc:z.toList=[.slice none 0 0]:=by
   unfold toC at hz
   cases hzl:z.toList with
   | nil=>rw[hzl]at hz;cases hz
   | cons v q=>
    rw[hzl]at hz
    simp only[zChk,Bool.and_eq_true]at hz
    have h1:v= .slice none 0 0:=by
     have:=hz.1
     unfold vChk at this
     split at this<;>first|rfl|cases this|skip
     all_goals simp_all
    have h2:q=[]:=by
     cases q with
     | nil=>rfl
     | cons _ _=>have:=hz.2;cases this
    rw[h1,h2]
  have hz1:z.size=1:=by rw[←Array.length_toList,hzc];rfl
  refine⟨.S 1 (numOf none (List.replicate l ([]:List e'.den))) (some (w.heap.size,0,k)) (some { v:=0,sz:=e'.sz,row:=fun _=>(none,0),pd:=none }),by simp,fun b hb=>?_,fun hnz σ' hn=>⟨⟨_,_,rfl,rfl,?_⟩,?_⟩⟩
  ·rcases hb with hb|⟨i,hi,hb⟩|⟨hp,_⟩
   ·exact hb.symm▸rfl
   ·exact hb.elim
   ·cases hp
  ·refine { sz:=rfl,out:=fun _ _=>rfl,len:=fun i xs hx=>?_,own:=fun i xs hx=>?_,head:=fun i hi=>?_,blk:=fun b s m hb=>?_,off:=fun b i _ _ h=>h,sep:=fun b i j _ _ h=>h.elim,pd0:=fun _=>rfl,pd1:=fun _ _ h=>by cases h }
   ·have hxe:xs=[]:=by
     rw[List.getElem?_replicate]at hx
     split at hx
     ·exact(Option.some.inj hx).symm
     ·cases hx
    subst hxe
    rfl
   ·have hxe:xs=[]:=by
     rw[List.getElem?_replicate]at hx
     split at hx
     ·exact(Option.some.inj hx).symm
     ·cases hx
    exact hxe
   ·simp only[numOf,List.length_replicate]at hi
    refine⟨_,_,_, .slice none 0 0,rfl,?_,none,0,rfl,Nat.le_refl _, .inl rfl⟩
    have:=madeCells_at z k i 0 (by omega) (by omega)
    rw[hcell,Nat.zero_add]
    have h0:z[0]'(by omega)= .slice none 0 0:=by
     have:z.toList[0]?=some (.slice none 0 0):=by rw[hzc];rfl
     simpa[show 0<z.size by omega]using this
    rw[h0,hz1]at this
    simpa[Ty.sz]using this
   ·cases hb
    refine⟨by simp[numOf];exact hl,?_,hnz⟩
    simpa[Ty.sz]using hblk
  ·refine⟨_,rfl,?_⟩
   rw[hn]
   simp only[numOf,List.length_replicate]
   exact⟨hhdr _,by simp[ofs,slenN]⟩
 cases e with
 | sl e'=>
  cases e' with
  | int k'=>exact rows _ rfl
  | bool=>exact rows _ rfl
  | str=>exact flat
  | sl _=>exact flat
  | pr _ _=>exact flat
  | un=>exact flat
 | int _=>exact flat
 | bool=>exact flat
 | str=>exact flat
 | pr _ _=>exact flat
 | un=>exact flat
theorem eok_spec {T:TI} (h:T.eok=true):T.ok=true∧T.size=T.ec.sz∧1≤T.ec.sz:=by
 simp only[TI.eok,Bool.and_eq_true]at h
 have h1:=Nat.eq_of_beq_eq_true h.1.2
 have h2:=Nat.le_of_ble_eq_true h.2
 exact⟨h.1.1,h1.symm,by omega⟩
theorem snd_makeSlice (hE:EnvOk P E) (hg:E.gl=gv) {t:Nat} {l c:Operand} (ho:o.op= .makeSlice t l c) (h:(match asI (evA E tm l),asI (evA E tm c),(E.ti t).u with
  | some l,some c, .sl et=>bif (E.ti et).eok then if 0≤l∧l≤c∧c*(E.ti et).bytes≤room∧c<9223372036854775808 then
    K { v:= .sl n none none,nw:=[mkL (E.ti et).ec (List.replicate l.toNat (E.ti et).ec.zero)] } else none
   else none
  | _,_,_=>none)=some r):Snd P gv o tm hp n K r:=by
 split at h
 case h_2=>cases h
 rename_i i j et hi hj hu
 obtain⟨hek,h⟩:=bif_spec h
 obtain⟨hok,hsz,hpos⟩:=eok_spec hek
 split at h
 case isFalse=>cases h
 rename_i hc
 obtain⟨h0,h1,h2,h3⟩:=hc
 refine⟨_,h,OpSnd.new (fs:=[]) rfl (by simp) rfl fun tm' hp' Z w σ a ht hh hs hn=>⟨by simp,?_⟩⟩
 have hvl:VR Z w σ (evA E tm l) [a.eval l]:=evA_op hg hs ht (by simp[ho,Op.operands])
 have hvc:VR Z w σ (evA E tm c) [a.eval c]:=evA_op hg hs ht (by simp[ho,Op.operands])
 obtain⟨kl,e1⟩:=asI_VR hi hvl
 obtain⟨kc,e2⟩:=asI_VR hj hvc
 obtain⟨inf,z,d,i1,i2,i3,i4,i5,i6,i7,i8,i9,i10,i11⟩:=tiChk_info (hE.tab et hok)
 have hu2:=und_sl (hE.tab t (ok_of_u hu (by simp))) hu
 have hr:=run_make (P:=P) w t et inf z hu2 i1 i4 kl kc i j h0 h1 (by rw[i3,Int.mul_comm];simp only[room]at h2;omega) (by omega)
 have hw:(w.alloc (.cells (madeCells z.cells (j.toNat*inf.size)) et)).heap=w.heap.push (.cells (madeCells z.cells (j.toNat*(E.ti et).ec.sz)) et):=by rw[i2,hsz];rfl
 obtain⟨s,s1,s2,s3⟩:=mkL_snd (σ:=σ) (n:=n) (Z':=ZF Z σ hp' []) (l:=i.toNat) (k:=j.toNat) (w:=w) hpos (i6 hek) (by omega) hw
 exact⟨_,_,_,_,s,by simp[execOp,ho,e1,e2,hr],hw,rfl,rfl,rfl,s1,s2,fun hk hz σ' hs hn=>s3 hz σ' hn⟩
end
section
variable {P:Program} {E:Env} {gv:Nat→AV} {Z Z':Nat→Prop} {w w':World} {σ σ':Nat→Sh} {hp hp':Nat→Ob} {o:Oper} {tm tm':Nat→AV} {n:Nat} {K:Eff→Option FRes} {r:FRes} {a:Act}
theorem splice_get (c m:List Value) (off q:Nat) (h:off+m.length≤c.length):
  (c.take off++m++c.drop (off+m.length))[q]?=if off≤q∧q<off+m.length then m[q-off]? else c[q]?:=by
 rw[List.append_assoc,List.getElem?_append,List.length_take,Nat.min_eq_left (by omega)]
 split
 ·rw[if_neg (by omega),List.getElem?_take,if_pos (by omega)]
 ·rw[List.getElem?_append]
  split
  ·rw[if_pos (by omega)]
  ·rw[if_neg (by omega),List.getElem?_drop]
   congr 1
   omega
theorem fill_spec (len size:Nat) (hpos:1≤size): ∀(ps:List (Nat×Value)) (c:Array Value),c.size=len*size→(∀q∈ps,q.1<len∧q.2.cells.size=size)→nodupB (ps.map (·.1))=true→
  ∃d,Instr.fill (fun i=>some (i*size,size)) c ps=some d∧d.size=c.size∧(∀q∈ps, ∀j,j<size→d[q.1*size+j]?=q.2.cells[j]?)∧
   ∀i,i<len→(∀q∈ps,q.1≠i)→ ∀j,j<size→d[i*size+j]?=c[i*size+j]?
 | [],c,_,_,_=>⟨c,rfl,rfl,by simp,fun _ _ _ _ _=>rfl⟩
 | (i,v)::ps,c,hc,hq,hn=>by
  simp only[List.map_cons,nodupB,Bool.and_eq_true,Bool.not_eq_true']at hn
  obtain⟨hi,hv⟩:=hq (i,v) (by simp)
  have hi:i<len:=hi
  have hv:v.cells.size=size:=hv
  have hle:i*size+size≤c.size:=by
   have:(i+1)*size≤len*size:=Nat.mul_le_mul_right _ hi
   rw[Nat.add_mul,Nat.one_mul]at this
   omega
  have hfold:=fold_put_arr v.cells c (i*size) (by omega)
  have hsz:(c.toList.take (i*size)++v.cells.toList++c.toList.drop (i*size+v.cells.size)).toArray.size=len*size:=by
   rw[List.size_toArray,List.length_append,List.length_append,List.length_take,List.length_drop,Array.length_toList,Array.length_toList]
   omega
  obtain⟨d,h1,h2,h3,h4⟩:=fill_spec len size hpos ps _ hsz (fun q hm=>hq q (by simp[hm])) hn.2
  have hne: ∀q∈ps,q.1≠i:=fun q hm e=>by
   have:(ps.map (·.1)).contains i=true:=by
    rw[List.contains_iff_mem]
    exact List.mem_map.2 ⟨q,hm,e⟩
   rw[this]at hn
   cases hn.1
  have hget: ∀q,(c.toList.take (i*size)++v.cells.toList++c.toList.drop (i*size+v.cells.size)).toArray[q]?=if i*size≤q∧q<i*size+size then v.cells[q-i*size]? else c[q]?:=fun q=>by
   have:=splice_get c.toList v.cells.toList (i*size) q (by rw[Array.length_toList,Array.length_toList];omega)
   rw[Array.length_toList,hv]at this
   rw[List.getElem?_toArray,hv,this]
   simp
  refine⟨d,?_,by rw[h2,hsz,hc],fun q hm j hj=>?_,fun k hk hno j hj=>?_⟩
  ·simp only[Instr.fill]
   rw[if_neg (by simp;omega),hfold]
   exact h1
  ·rcases List.mem_cons.1 hm with e|hm
   ·subst e
    show d[i*size+j]?=v.cells[j]?
    rw[h4 i hi hne j hj,hget,if_pos (by omega)]
    congr 1
    omega
   ·exact h3 q hm j hj
  ·rw[h4 k hk (fun q hm=>hno q (by simp[hm])) j hj,hget,if_neg]
   have hki:k≠i:=fun e=>hno (i,v) (by simp) e.symm
   rcases Nat.lt_or_ge k i with hlt|hge
   ·have:(k+1)*size≤i*size:=Nat.mul_le_mul_right _ hlt
    rw[Nat.add_mul,Nat.one_mul]at this
    omega
   ·have:(i+1)*size≤k*size:=Nat.mul_le_mul_right _ (by omega)
    rw[Nat.add_mul,Nat.one_mul]at this
    omega
theorem frz_cellsOk {v v':AV} {fs:List Nat} (h:frz hp v=some (v',fs)) (hc:cellsOk v=true):cellsOk v'=true:=by
 cases v<;>simp only[frz]at h<;>(repeat' split at h)<;>first|(cases h;first|rfl|exact hc)|cases h
theorem frzL_prs (m:MR gv Z w σ hp') (k:Kept Z w Z' w): ∀{ps ps':List (Nat×AV)} {fs:List Nat} {qs:List (Nat×Value)},frzL hp ps=some (ps',fs)→(∀h∈fs,hp' h=hp h)→(∀h∈fs, ∀b,blks (hp' h) (σ h) b→Z' b)→
  prs Z w σ ps qs→(∀q∈ps,cellsOk q.2=true)→prs Z' w σ' ps' qs∧(∀h∈fs,hp' h≠ .dead)∧(∀q∈ps',cellsOk q.2=true∧hs q.2=[])∧ps'.map (·.1)=ps.map (·.1)
 | [],ps',fs,[],h,_,_,_,_=>by
  cases h
  exact⟨trivial,by simp,by simp,rfl⟩
 | (i,v)::ps,ps',fs,(j,u)::qs,h,hh,hz,hq,hc=>by
  simp only[frzL]at h
  split at h
  case h_2=>cases h
  rename_i v' l hv
  split at h
  case h_2=>cases h
  rename_i r' l' hr
  cases h
  obtain⟨e,hu,hq⟩:=hq
  have hu:VR Z w σ v [u]:=hu
  have hcv:cellsOk v=true:=hc (i,v) (by simp)
  obtain⟨k1,k2,k3,_⟩:=frz_VR (σ':=σ') m k hv (fun h hm=>hh h (by simp[hm])) (fun h hm=>hz h (by simp[hm])) hu
  obtain⟨k4,k5,k6,k7⟩:=frzL_prs m k hr (fun h hm=>hh h (by simp[hm])) (fun h hm=>hz h (by simp[hm])) hq (fun q hm=>hc q (by simp[hm]))
  refine⟨⟨e,k1,k4⟩,fun h hm=>?_,fun q hm=>?_,by simp[k7]⟩
  ·rcases List.mem_append.1 hm with hm|hm
   ·exact k2 h hm
   ·exact k5 h hm
  ·rcases List.mem_cons.1 hm with rfl|hm
   ·exact⟨frz_cellsOk hv hcv,k3⟩
   ·exact k6 q hm
theorem prs_find {ps:List (Nat×AV)} {qs:List (Nat×Value)} (h:prs Z w σ ps qs) (j:Nat):(∀q,ps.find? (fun q=>q.1==j)=some q→ ∃u,(j,u)∈qs∧VR Z w σ q.2 [u]∧q∈ps)∧(ps.find? (fun q=>q.1==j)=none→ ∀q∈qs,q.1≠j):=by
 induction ps generalizing qs with
 | nil=>cases qs with
  | nil=>exact⟨by simp,by simp⟩
  | cons _ _=>exact h.elim
 | cons p ps ih=>cases qs with
  | nil=>exact h.elim
  | cons q qs=>
   obtain⟨h1,h2,h3⟩:=h
   obtain⟨i1,i2⟩:=ih h3
   by_cases hp:p.1==j
   ·rw[List.find?_cons_of_pos (by simpa using hp)]
    refine⟨fun q' e=>?_,by simp⟩
    cases e
    refine⟨q.2,?_,h2,by simp⟩
    have:(j,q.2)=q:=by rw[←h1.symm.trans (by simpa using hp:p.1=j)]
    rw[this]
    simp
   ·rw[List.find?_cons_of_neg (by simpa using hp)]
    refine⟨fun q' e=>?_,fun e q' hm=>?_⟩
    ·obtain⟨u,h4,h5,h6⟩:=i1 q' e
     exact⟨u,by simp[h4],h5,by simp[h6]⟩
    ·rcases List.mem_cons.1 hm with rfl|hm
     ·rw[←h1]
      simpa using hp
     ·exact i2 e q' hm
theorem elemsE_get (e:Ty) (ps:List (Nat×AV)): ∀(k j:Nat) (xs:List e.den),elemsE e ps j k=some xs→xs.length=k∧ ∀i,i<k→ ∃x,xs[i]?=some x∧
  ((∃q,ps.find? (fun q=>q.1==j+i)=some q∧ofC e q.2.cells=some (x, .e0))∨(ps.find? (fun q=>q.1==j+i)=none∧x=e.zero))
 | 0,j,xs,h=>by
  simp only[elemsE,Option.some.injEq]at h
  subst h
  exact⟨rfl,fun i hi=>by omega⟩
 | k+1,j,xs,h=>by
  unfold elemsE at h
  split at h
  case h_2=>cases h
  rename_i x hx
  obtain⟨ys,h1,rfl⟩:=Option.map_eq_some_iff.1 h
  obtain⟨h2,h3⟩:=elemsE_get e ps k (j+1) ys h1
  refine⟨by simp[h2],fun i hi=>?_⟩
  cases i with
  | zero=>
   refine⟨x,rfl,?_⟩
   rw[Nat.add_zero]
   split at hx
   ·rename_i q v hf
    split at hx
    case h_2=>cases hx
    rename_i y hy
    cases hx
    exact .inl ⟨_,hf,hy⟩
   ·rename_i hf
    cases hx
    exact .inr ⟨hf,rfl⟩
  | succ i=>
   obtain⟨y,h4,h5⟩:=h3 i (by omega)
   refine⟨y,by simpa using h4,?_⟩
   have:j+1+i=j+(i+1):=by omega
   rw[this]at h5
   exact h5
theorem nodupB_map {ps:List (Nat×AV)} {qs:List (Nat×Value)} (h:prs Z w σ ps qs):qs.map (·.1)=ps.map (·.1):=by
 induction ps generalizing qs with
 | nil=>cases qs with
  | nil=>rfl
  | cons _ _=>exact h.elim
 | cons p ps ih=>cases qs with
  | nil=>exact h.elim
  | cons q qs=>simp[ih h.2.2,h.1]
theorem prs_mem {ps:List (Nat×AV)} {qs:List (Nat×Value)} (h:prs Z w σ ps qs) {q:Nat×Value} (hq:q∈qs): ∃p∈ps,p.1=q.1∧VR Z w σ p.2 [q.2]:=by
 induction ps generalizing qs with
 | nil=>cases qs with
  | nil=>cases hq
  | cons _ _=>exact h.elim
 | cons p ps ih=>cases qs with
  | nil=>exact h.elim
  | cons q' qs=>
   rcases List.mem_cons.1 hq with rfl|hq
   ·exact⟨p,by simp,h.1,h.2.1⟩
   ·obtain⟨p',h1,h2⟩:=ih h.2.2 hq
    exact⟨p',by simp[h1],h2⟩
theorem run_buildSlice (hE:EnvOk P E) {t et:Nat} (ht:(E.ti t).ok=true) (hu:(E.ti t).u= .sl et) (hek:(E.ti et).eok=true) {len:Nat} {ps:List (Nat×AV)} {qs:Array (Nat×Value)} {xs:List (E.ti et).ec.den}
  (hq:prs Z w σ ps qs.toList) (hnd:nodupB (ps.map (·.1))=true) (hlt: ∀q∈ps,q.1<len) (hck: ∀q∈ps,cellsOk q.2=true) (hsz: ∀q∈qs.toList,q.2.cells.size=(E.ti et).size)
  (hx:elemsE (E.ti et).ec ps 0 len=some xs) (hlim:len*(E.ti et).size≤16777216):
  ∃c:Array Value,(Instr.buildSlice t len qs).run P w= .ok (.slice (some ⟨w.heap.size,0,none⟩) len len) (w.alloc (.cells c et))∧c.size=len*(E.ti et).size∧
   ∀i x,xs[i]?=some x→ ∃l,PV Z w (E.ti et).ec x l∧ ∀j v,l[j]?=some v→c[i*(E.ti et).ec.sz+j]?=some v:=by
 obtain⟨hok,hs,hpos⟩:=eok_spec hek
 obtain⟨inf,z,d,i1,i2,i3,i4,i5,i6,i7,i8,i9,i10,i11⟩:=tiChk_info (hE.tab et hok)
 have hpv:PV Z w (E.ti et).ec (E.ti et).ec.zero z.cells.toList:=PV.of_toC (σ:=σ) _ (zChk_VR (i6 hek))
 have hzl:=PV.length _ hpv
 rw[Array.length_toList]at hzl
 have hqlt: ∀q∈qs.toList,q.1<len:=fun q hm=>by
  obtain⟨p,h1,h2,_⟩:=prs_mem hq hm
  rw[←h2]
  exact hlt p h1
 obtain⟨c,h1,h2,h3,h4⟩:=fill_spec len (E.ti et).size (by omega) qs.toList (madeCells z.cells (len*(E.ti et).size)) (size_madeCells _ _) (fun q hm=>⟨hqlt q hm,hsz q hm⟩) (by rw[nodupB_map hq];exact hnd)
 refine⟨c,?_,by rw[h2,size_madeCells],fun i x hxi=>?_⟩
 ·have hu2:=und_sl (hE.tab t ht) hu
  have hsize:=run_size (w:=w) (hE.tab et hok)
  have n1: ¬(16777216<len*(E.ti et).size):=by omega
  by_cases h0:len*(E.ti et).size=0
  ·have hm0:madeCells z.cells (len*(E.ti et).size)= #[]:=by rw[h0];simp[madeCells]
   rw[hm0]at h1
   have hl0:len=0:=by
    rcases Nat.mul_eq_zero.1 h0 with h|h
    ·exact h
    ·omega
   subst hl0
   have hqn:qs.toList=[]:=by
    cases hq0:qs.toList with
    | nil=>rfl
    | cons q _=>have:=hqlt q (by simp[hq0]);omega
   rw[hqn]at h1
   simp only[Instr.fill,Option.some.injEq]at h1
   subst h1
   simp only[Instr.buildSlice,Sem.run_bind,run_underlying hu2,Result.andThen_ok,hsize,hqn]
   simp[Instr.fill,newRow,Array.range_zero']
  ·simp only[Instr.buildSlice,Sem.run_bind,run_underlying hu2,Result.andThen_ok,hsize]
   have h1':Instr.fill (fun i=>some (i*(E.ti et).size,(E.ti et).size)) (Array.map (fun x=>z.cells[x%z.cells.size]!) (Array.range (len*(E.ti et).size))) qs.toList=some c:=h1
   simp[h0,n1,zeroValue,typeInfo,i1,i4,h1',newRow]
 ·obtain⟨e1,e2⟩:=elemsE_get _ ps len 0 xs hx
  have hi:i<len:=by
   have:=(List.getElem?_eq_some_iff.1 hxi).1
   omega
  obtain⟨x',e3,e4⟩:=e2 i hi
  rw[hxi]at e3
  cases e3
  rw[Nat.zero_add]at e4
  rcases e4 with ⟨q,e5,e6⟩|⟨e5,rfl⟩
  ·obtain⟨u,m1,m2,m3⟩:=(prs_find hq i).1 q e5
   obtain⟨c1,c2⟩:=cells_VR m2 (hck q m3)
   obtain⟨l1,l2,hl,hp1,hp2,_⟩:=ofC_PV _ e6 c1 c2
   cases hp2
   rw[List.append_nil]at hl
   refine⟨l1,hp1,fun j v hj=>?_⟩
   have hjl:=(List.getElem?_eq_some_iff.1 hj).1
   have:=h3 _ m1 j (by rw[←hsz _ m1, ←Array.length_toList,hl];exact hjl)
   rw[←hs]
   rw[this, ←Array.getElem?_toList,hl]
   exact hj
  ·refine⟨_,hpv,fun j v hj=>?_⟩
   have hjl:=(List.getElem?_eq_some_iff.1 hj).1
   rw[Array.length_toList]at hjl
   have:=h4 i hi ((prs_find hq i).2 e5) j (by omega)
   rw[←hs,this,hs, ←hzl,madeCells_at z.cells len i j hjl hi]
   rw[Array.getElem?_toList]at hj
   rw[←hj]
   simp[hjl]
end
section
variable {P:Program} {E:Env} {gv:Nat→AV} {Z Z':Nat→Prop} {w w':World} {σ σ':Nat→Sh} {hp hp':Nat→Ob} {o:Oper} {tm tm':Nat→AV} {n:Nat} {K:Eff→Option FRes} {r:FRes} {a:Act}
theorem wrs_dead (h:Nat): ∀(ds:List Nat) (hp:Nat→Ob),wrs hp (ds.map fun g=>(g, .dead)) h=if h∈ds then .dead else hp h
 | [],hp=>by simp[wrs]
 | g::ds,hp=>by
  have ih:=wrs_dead h ds (upd hp g .dead)
  simp only[List.map_cons,wrs]
  rw[ih]
  by_cases h1:h∈ds
  ·simp[h1]
  ·by_cases h2:h=g
   ·subst h2
    simp[h1,upd_same]
   ·simp[h1,h2,upd_ne]
theorem MR.move (m:MR gv Z w σ hp) (hn:σ n= .un) (ds:List Nat) (hl: ∀h∈ds,hp h≠ .dead) (hos:w'.os=w.os) (htape:w'.tape=w.tape) (hout:w'.output=w.output) (hsize:w.heap.size≤w'.heap.size)
  (hw: ∀b,b<w.heap.size→(∀g∈ds, ¬blks (hp g) (σ g) b)→w'.heap[b]?=w.heap[b]?) {s:Sh} {ob:Ob} (hs:s≠ .un)
  (hor: ∀σ',(∀h,Sle (σ' h) (σ h))→σ' n=s→OR Z w' σ' ob s) (hbl: ∀b,blks ob s b→(∃g∈ds,blks (hp g) (σ g) b)∨w.heap.size≤b):
  ∃σ',MR gv Z w' σ' (upd (wrs hp (ds.map fun g=>(g, .dead))) n ob)∧Ext Z w σ hp Z w' σ' (upd (wrs hp (ds.map fun g=>(g, .dead))) n ob)∧(∀h,Sle (σ' h) (σ h))∧(∀h,σ' h= .un↔σ h= .un∧h≠n)∧σ' n=s:=by
 have hnd:n∉ds:=fun hm=>hl n hm (m.un n hn)
 have hsle: ∀h,Sle (upd (fun h=>if h∈ds then Sh.no else σ h) n s h) (σ h):=fun h=>by
  by_cases hh:h=n
  ·subst hh
   rw[hn]
   exact .new _
  ·rw[upd_ne _ _ hh]
   by_cases hd:h∈ds
   ·simp only[if_pos hd]
    exact .dead _ fun e=>hl h hd (m.un h e)
   ·simp only[if_neg hd]
    exact .same _
 have hst:=MR.step (σ':=upd (fun h=>if h∈ds then Sh.no else σ h) n s) (hp':=upd (wrs hp (ds.map fun g=>(g, .dead))) n ob) (Z':=Z) (w':=w') m (fun h=>h=n∨h∈ds) (fun g h=>(g∈ds∧h=n)∨(g∉ds∧h=g))
  (fun h b=>h=n∧w.heap.size≤b) hos htape hout hsize
  (fun b hb ho=>hw b hb fun g _ hg=>ho ⟨g,hg⟩) (fun _ h=>h) (fun b hb=> .inl hb) (fun b hb=>by have:=m.zlt b hb;omega) hsle
  (fun h hh=>by
   have h1:h≠n:=fun e=>hh (.inl e)
   have h2:h∉ds:=fun e=>hh (.inr e)
   refine⟨by rw[upd_ne _ _ h1,wrs_dead,if_neg h2],by rw[upd_ne _ _ h1];simp only[if_neg h2],fun b hb=>⟨hw b (m.olt ⟨h,hb⟩).1 fun g hg hgb=>h2 (m.sep h g b hb hgb▸hg),(m.olt ⟨h,hb⟩).2⟩⟩)
  (fun h hh=>by
   by_cases h1:h=n
   ·subst h1
    rw[upd_same,upd_same]
    refine⟨fun _=>hor _ hsle (upd_same _ _ _),fun e=>absurd e hs,fun b hb=>?_⟩
    rcases hbl b hb with ⟨g,hg,hgb⟩|hge
    ·exact .inl ⟨g, .inl ⟨hg,rfl⟩,hgb⟩
    ·exact .inr ⟨rfl,hge⟩
   ·have h2:h∈ds:=hh.resolve_left h1
    rw[upd_ne _ _ h1,upd_ne _ _ h1,wrs_dead,if_pos h2]
    simp only[if_pos h2]
    exact⟨fun _=>(by simp[OR]),fun e=>(by cases e),fun b hb=>hb.elim⟩)
  (fun h hh=> .inr ⟨fun e=>hh (.inr e),rfl⟩)
  (fun g h h' e1 e2=>by
   rcases e1 with ⟨a1,a2⟩|⟨a1,a2⟩<;>rcases e2 with ⟨b1,b2⟩|⟨b1,b2⟩
   ·exact a2.trans b2.symm
   ·exact absurd a1 b1
   ·exact absurd b1 a1
   ·exact a2.trans b2.symm)
  (fun h b hf=>hf.2) (fun h h' b f1 f2=>f1.1.trans f2.1.symm)
 refine⟨_,hst.1,hst.2,hsle,fun h=>?_,upd_same _ _ _⟩
 by_cases hh:h=n
 ·subst hh
  rw[upd_same]
  exact⟨fun e=>absurd e hs,fun e=>absurd rfl e.2⟩
 ·rw[upd_ne _ _ hh]
  by_cases hd:h∈ds
  ·simp only[if_pos hd]
   exact⟨fun e=>(by cases e),fun e=>absurd (m.un h e.1) (hl h hd)⟩
  ·simp only[if_neg hd]
   exact⟨fun e=>⟨e,hh⟩,fun e=>e.1⟩
theorem OpSnd.move {e:Eff} {ds:List Nat} {ob:Ob} (hwr:e.wr=ds.map fun g=>(g, .dead)) (hrd: ∀h∈ds,h∈e.rd) (hl: ∀h∈ds,hp h≠ .dead) (hnw:e.nw=[ob])
  (H: ∀(tm':Nat→AV) (hp':Nat→Ob) (Z:Nat→Prop) (w:World) (σ:Nat→Sh) (a:Act),(∀t∈opT o,tm' t=tm t)→(∀h∈e.rd,hp' h=hp h)→SR gv Z w σ tm' hp' a→σ n= .un→
   ∃u w' s,(execOp a.eval o).run P w= .ok (.value u) w'∧w'.os=w.os∧w'.tape=w.tape∧w'.output=w.output∧w.heap.size≤w'.heap.size∧(∀b,b<w.heap.size→(∀g∈ds, ¬blks (hp' g) (σ g) b)→w'.heap[b]?=w.heap[b]?)∧
    s≠ .un∧(∀b,blks ob s b→(∃g∈ds,blks (hp' g) (σ g) b)∨w.heap.size≤b)∧
    (Kept Z w Z w'→ ∀σ',(∀h,Sle (σ' h) (σ h))→σ' n=s→OR Z w' σ' ob s∧VR Z w' σ' e.v [u])):OpSnd P gv o tm hp n e:=by
 intro tm' hp' Z w σ a h1 h2 _ h4 h5 h6 K Q hK
 rw[hnw]at h4
 have hn:σ n= .un:=h4 n (by simp[news])
 obtain⟨u,w',s,hr,hos,htape,hout,hsz,hw,hs,hbl,hR⟩:=H tm' hp' Z w σ a h1 h2 h5 hn
 have hl': ∀h∈ds,hp' h≠ .dead:=fun h hh=>by rw[h2 h (hrd h hh)];exact hl h hh
 have hk:Kept Z w Z w':=⟨fun _ h=>h,fun b hb=>hw b (h5.mem.zlt b hb) fun g _ hg=>(h5.mem.olt ⟨g,hg⟩).2 hb⟩
 obtain⟨σ',m2,x2,s2,un2,en⟩:=h5.mem.move hn ds hl' hos htape hout hsz hw hs (fun σ' h3 h4=>(hR hk σ' h3 h4).1) hbl
 have hv:=(hR hk σ' s2 en).2
 unfold Oper.wp
 rw[hr]
 show K (a.put o.dst u) w'
 rw[hwr,hnw]at hK
 refine hK _ w' _ σ' (h5.put m2 hk s2 hv h6) x2 s2 ⟨fun h hh e=>hh ((un2 h).1 e).1,fun h hh=>?_,fun h hu hh=>(un2 h).2 ⟨hu,fun e=>hh (by simp[news,e])⟩⟩ (size_put _ _ _) (defers_put _ _ _)
 simp only[news,List.mem_singleton]at hh
 subst hh
 rw[en]
 exact hs
theorem MR.whole (m:MR gv Z w σ hp) {g:Nat} {e:Ty} {xs:List e.den} (hg:hp g= .L e xs) {v:Value} (hv:VR Z w σ (.sl g none none) [v]): ∃p,σ g= .S e.sz xs.length p none∧Own Z w p e xs∧Hdr e.sz p 0 xs.length v:=by
 obtain⟨p,hs,ho⟩:=m.L hg
 obtain⟨u,e1,hv⟩:=hv
 cases e1
 rw[hs]at hv
 exact⟨p,hs,ho,by simpa[ofs,slenN]using hv.1⟩
theorem Rws.single {e:Ty} {xs:List e.den} {p:Pl} {b:Nat} {v:Nat} {x:Value} {m:Nat} (ho:Own Z w p e xs) (hh:Hdr e.sz p 0 xs.length x) (hc:w.cell? ⟨b,0,none⟩=some x) (hm:1≤m) (hb:Blk w b (0+m)) (hz: ¬Z b) (hp: ¬plB p b):
  Rws Z w e none [xs] none (some (b,0,m)) { v:=v,sz:=e.sz,row:=fun i=>if i=0 then(p,xs.length)else(none,0),pd:=none }:=by
 refine { sz:=rfl,out:=fun i hi=>?_,len:=fun i ys hy=>?_,own:=fun i ys hy=>?_,head:=fun i hi=>?_,blk:=fun b' s' m' hb'=>?_,off:=fun b' i hb' hi h=>?_,sep:=fun b' i j hi hj _ _=>?_,pd0:=fun _=>rfl,pd1:=fun _ _ h=>(by cases h) }
 ·simp only[List.length_singleton]at hi
  simp only[if_neg (show i≠0 by omega)]
 ·cases i with
  | zero=>simp at hy;subst hy;rfl
  | succ i=>simp at hy
 ·cases i with
  | zero=>simp at hy;subst hy;exact ho
  | succ i=>simp at hy
 ·simp only[numOf,List.length_singleton]at hi
  have:i=0:=by omega
  subst this
  exact⟨b,0,m,x,rfl,hc,hh⟩
 ·cases hb'
  exact⟨by simpa[numOf]using hm,hb,hz⟩
 ·have h0:b=b':=by simpa[plB]using hb'.symm
  subst h0
  simp only[List.length_singleton]at hi
  have:i=0:=by omega
  subst this
  exact hp h
 ·simp only[List.length_singleton]at hi hj
  omega
theorem find_nodup {ps:List (Nat×AV)} (hn:nodupB (ps.map (·.1))=true) {p q:Nat×AV} (hp:p∈ps) (hf:ps.find? (fun x=>x.1==p.1)=some q):q=p:=by
 induction ps with
 | nil=>cases hp
 | cons a ps ih=>
  simp only[List.map_cons,nodupB,Bool.and_eq_true,Bool.not_eq_true']at hn
  by_cases ha:a.1=p.1
  ·rw[List.find?_cons_of_pos (by simpa using ha)]at hf
   have e:a=q:=by simpa using hf
   rw[←e]
   rcases List.mem_cons.1 hp with hp|hp
   ·exact hp.symm
   ·have:(ps.map (·.1)).contains a.1=true:=by
     rw[List.contains_iff_mem]
     exact List.mem_map.2 ⟨p,hp,ha.symm⟩
    rw[this]at hn
    cases hn.1
  ·rw[List.find?_cons_of_neg (by simpa using ha)]at hf
   rcases List.mem_cons.1 hp with rfl|hp
   ·exact absurd rfl ha
   ·exact ih hn.2 hp hf
theorem snd_buildSlice (hE:EnvOk P E) (hg:E.gl=gv) {t len:Nat} {ps:Array (Nat×Operand)} (ho:o.op= .buildSlice t len ps) (h:(match(E.ti t).u with
  | .sl et=>bif (E.ti et).eok&&partsOk len (parts E tm ps)then match newRows hp (E.ti et).ec (parts E tm ps)with
   | some ⟨e',xs,fs⟩=>if len=1 then K { v:= .sl n none none,rd:=fs,wr:=fs.map fun h=>(h, .dead),nw:=[.N e' none xs 0 none] } else none
   | none=>match frzL hp (parts E tm ps)with
   | some (ps',fs)=>match elemsE (E.ti et).ec ps' 0 len with
    | some xs=>if len*(E.ti et).size≤16777216 then K { v:= .sl n none none,rd:=fs,wr:=fs.map (toF hp),nw:=[.L (E.ti et).ec xs] } else none
    | none=>none
   | none=>none
   else none
  | _=>none)=some r):Snd P gv o tm hp n K r:=by
 split at h
 case h_2=>cases h
 rename_i et hu
 obtain⟨hc,h⟩:=bif_spec h
 simp only[Bool.and_eq_true]at hc
 obtain⟨hek,hpo⟩:=hc
 have hpo2:=hpo
 simp only[partsOk,Bool.and_eq_true,List.all_eq_true]at hpo
 obtain⟨hnd,hall⟩:=hpo
 have ht:=ok_of_u hu (by simp)
 obtain⟨hok,hsz,hpos⟩:=eok_spec hek
 have hrun: ∀(a:Act) (w:World),(execOp a.eval o).run P w=((Instr.buildSlice t len (ps.map fun(q:Nat×Operand)=>(q.1,a.eval q.2))).run P w).andThen fun v w=> .ok (Next.value v) w:=fun a w=>by
  simp only[execOp,ho,Sem.run_bind,Sem.run_pure]
 have hpsR: ∀{tm' hp' Z w σ} {a:Act},(∀t∈opT o,tm' t=tm t)→SR gv Z w σ tm' hp' a→prs Z w σ (parts E tm ps) (ps.map fun(q:Nat×Operand)=>(q.1,a.eval q.2)).toList:=fun {tm' hp' Z w σ a} ht hs=>by
  have:=prs_op (E:=E) hg hs ht (l:=ps.toList) (fun x hx=>by
   simp only[ho,Op.operands]
   exact List.mem_toArray.2 (List.mem_map.2 ⟨x,by simpa using hx,rfl⟩))
  simpa[parts]using this
 split at h
 ·rename_i e' xs fs hnr
  split at h
  case isFalse=>cases h
  rename_i hl1
  subst hl1
  obtain⟨g,x0,e1,e2,e3,e4,hgl⟩: ∃g x0,parts E tm ps=[(0, .sl g none none)]∧xs=[x0]∧fs=[g]∧(E.ti et).ec.sz=1∧hp g= .L e' x0:=by
   unfold newRows at hnr
   split at hnr
   ·rename_i e0 g hec hpp
    split at hnr
    ·rename_i k' ys hgy
     cases hnr
     exact⟨g,ys,hpp,rfl,rfl,by rw[hec];rfl,hgy⟩
    ·rename_i ys hgy
     cases hnr
     exact⟨g,ys,hpp,rfl,rfl,by rw[hec];rfl,hgy⟩
    ·cases hnr
   ·cases hnr
  subst e2 e3
  refine⟨_,h,OpSnd.move (ds:=[g]) rfl (by simp) (by simp[hgl]) rfl fun tm' hp' Z w σ a ht' hh hs hn=>?_⟩
  have hgl':hp' g= .L e' x0:=(hh g (by simp)).trans hgl
  have hq:=hpsR ht' hs
  rw[e1]at hq
  obtain⟨q0,hq0⟩: ∃q0,(ps.map fun(q:Nat×Operand)=>(q.1,a.eval q.2)).toList=[q0]:=by
   cases hql:(ps.map fun(q:Nat×Operand)=>(q.1,a.eval q.2)).toList with
   | nil=>rw[hql]at hq;exact hq.elim
   | cons q0 r=>cases r with
    | nil=>exact⟨q0,rfl⟩
    | cons _ _=>rw[hql]at hq;exact hq.2.2.elim
  rw[hq0]at hq
  obtain⟨q1,q2,_⟩:=hq
  have q1:0=q0.1:=q1
  have q2:VR Z w σ (.sl g none none) [q0.2]:=q2
  obtain⟨p,p1,p2,p3⟩:=hs.mem.whole hgl' q2
  have hone:q0.2.cells= #[q0.2]:=cells_one (oneA_VR q2 rfl)
  have hqa:(ps.map fun(q:Nat×Operand)=>(q.1,a.eval q.2))= #[q0]:=by
   apply Array.ext'
   rw[hq0]
  obtain⟨inf,z,d,i1,i2,i3,i4,i5,i6,i7,i8,i9,i10,i11⟩:=tiChk_info (hE.tab et hok)
  have hpv:PV Z w (E.ti et).ec (E.ti et).ec.zero z.cells.toList:=PV.of_toC (σ:=σ) _ (zChk_VR (i6 hek))
  have hzl:=PV.length _ hpv
  rw[Array.length_toList]at hzl
  have hu2:=und_sl (hE.tab t ht) hu
  have hsize:=run_size (w:=w) (hE.tab et hok)
  have hs1:(E.ti et).size=1:=by omega
  have hbs:(Instr.buildSlice t 1 #[q0]).run P w= .ok (.slice (some ⟨w.heap.size,0,none⟩) 1 1) (w.alloc (.cells #[q0.2] et)):=by
   have hz1:z.cells.size=1:=by omega
   simp only[Instr.buildSlice,Sem.run_bind,run_underlying hu2,Result.andThen_ok,hsize,hs1]
   simp[zeroValue,typeInfo,i1,i4,newRow,Instr.fill, ←q1,hone,show Array.range 1= #[0]from rfl]
  have hw:(w.alloc (.cells #[q0.2] et)).heap=w.heap.push (.cells #[q0.2] et):=rfl
  refine⟨.slice (some ⟨w.heap.size,0,none⟩) 1 1,w.alloc (.cells #[q0.2] et), .S 1 1 (some (w.heap.size,0,1)) (some { v:=0,sz:=e'.sz,row:=fun i=>if i=0 then(p,x0.length)else(none,0),pd:=none }),?_,rfl,rfl,rfl,by simp,fun b hb _=>push_old hw hb,by simp,fun b hb=>?_,fun hk σ' hsl hsn=>?_⟩
  ·rw[hrun]
   rw[hqa,hbs]
   rfl
  ·rcases hb with hb|⟨i,hi,hb⟩|⟨hp0,_⟩
   ·right
    have:w.heap.size=b:=by simpa[plB]using hb.symm
    omega
   ·left
    simp only[List.length_singleton]at hi
    have:i=0:=by omega
    subst this
    exact⟨g,by simp,by rw[hgl',p1];exact hb⟩
   ·cases hp0
  ·have hnz: ¬Z w.heap.size:=fun hz=>by have:=hs.mem.zlt _ hz;omega
   have hlt: ∀b,plB p b→b<w.heap.size∧ ¬Z b:=fun b hb=>hs.mem.olt ⟨g,by rw[hgl',p1];exact hb⟩
   refine⟨⟨_,_,rfl,rfl,Rws.single (p2.kept hk (fun b hb=>push_old hw (hlt b hb).1) (fun b hb=>(hlt b hb).2)) p3 ?_ (Nat.le_refl _) (blk_push hw (by simp)) hnz fun hb=>by have:=(hlt _ hb).1;omega⟩,?_⟩
   ·rw[cell_push hw]
    rfl
   ·refine⟨_,rfl,?_⟩
    rw[hsn]
    exact⟨⟨_,_,rfl,Nat.le_refl _, .inr ⟨_,_,_,rfl,by simp[ofs],by simp[ofs,slenN]⟩⟩,by simp[ofs,slenN]⟩
 ·split at h
  case h_2=>cases h
  rename_i ps' fs hfz
  split at h
  case h_2=>cases h
  rename_i xs hxs
  split at h
  case isFalse=>cases h
  rename_i hlim
  refine⟨_,h,OpSnd.new (fs:=fs) rfl (fun h hh=>hh) rfl fun tm' hp' Z w σ a ht' hh hs hn=>?_⟩
  have hq:=hpsR ht' hs
  obtain⟨k1,k2,k3,k4⟩:=frzL_prs (σ':=σ) hs.mem (ZF_kept hs.mem fs) hfz hh (fun h hm b hb=> .inr ⟨h,hm,hb⟩) hq (fun q hm=>(hall q hm).2)
  refine⟨k2,?_⟩
  have hqs: ∀q∈(ps.map fun(q:Nat×Operand)=>(q.1,a.eval q.2)).toList,q.2.cells.size=(E.ti et).size:=fun q hm=>by
   obtain⟨p,m1,m2,m3⟩:=prs_mem k1 hm
   obtain⟨c1,c2⟩:=cells_VR m3 (k3 p m1).1
   have hpl:p.1<len:=by
    have:p.1∈ps'.map (·.1):=List.mem_map.2 ⟨p,m1,rfl⟩
    rw[k4]at this
    obtain⟨p2,n1,n2⟩:=List.mem_map.1 this
    have:=(hall p2 n1).1
    rw[←n2]
    exact(by simpa[Nat.blt_eq]using this)
   obtain⟨_,g2⟩:=elemsE_get _ ps' len 0 xs hxs
   obtain⟨x,_,g4⟩:=g2 p.1 hpl
   rw[Nat.zero_add]at g4
   rcases g4 with ⟨p3,f1,f2⟩|⟨f1,_⟩
   ·have hpe:p3=p:=find_nodup (by rw[k4];exact hnd) m1 f1
    subst hpe
    obtain⟨l1,l2,hl,hp1,hp2,_⟩:=ofC_PV _ f2 c1 c2
    cases hp2
    rw[List.append_nil]at hl
    rw[←Array.length_toList,hl,PV.length _ hp1,hsz]
   ·have:=List.find?_eq_none.1 f1 p m1
    simp at this
  obtain⟨c,r1,r2,r3⟩:=run_buildSlice (w:=w) hE ht hu hek k1 (by rw[k4];exact hnd) (fun q hm=>by
   have:q.1∈ps'.map (·.1):=List.mem_map.2 ⟨q,hm,rfl⟩
   rw[k4]at this
   obtain⟨p2,n1,n2⟩:=List.mem_map.1 this
   have:=(hall p2 n1).1
   rw[←n2]
   exact(by simpa[Nat.blt_eq]using this)) (fun q hm=>(k3 q hm).1) hqs hxs hlim
  have hw:(w.alloc (.cells c et)).heap=w.heap.push (.cells c et):=rfl
  have hlen:=(elemsE_get _ ps' len 0 xs hxs).1
  refine⟨_,_,c,et, .S (E.ti et).ec.sz xs.length (some (w.heap.size,0,len)) none,by rw[hrun,r1];rfl,hw,rfl,rfl,rfl,by simp,fun b hb=>hb.symm▸rfl,fun hk hz σ' hsl hsn=>⟨⟨_,rfl,by omega,blk_push hw (by rw[r2,hsz];omega),hz,?_⟩,?_⟩⟩
  ·intro i x hi
   obtain⟨l,l1,l2⟩:=r3 i x hi
   refine⟨l,l1.kept ⟨fun _ h=>h,fun b hb=>?_⟩,fun j v hj=>?_⟩
   ·rcases hb with hb|⟨g,_,hb⟩
    ·exact push_old hw (hs.mem.zlt b hb)
    ·exact push_old hw (hs.mem.olt ⟨g,hb⟩).1
   ·rw[cell_push hw,Nat.zero_add]
    exact l2 j v hj
  ·refine⟨_,rfl,?_⟩
   rw[hsn,hlen]
   exact⟨⟨_,_,rfl,Nat.le_refl _, .inr ⟨_,_,_,rfl,by simp[ofs],by simp[ofs,slenN]⟩⟩,by simp[ofs,slenN]⟩
end
def CellsOf (Z:Nat→Prop) (w:World) (e:Ty) (ys:List e.den) (news:List Value):Prop:=news.length=ys.length*e.sz∧(∀i y,ys[i]?=some y→ ∃l,PV Z w e y l∧ ∀j v,l[j]?=some v→news[i*e.sz+j]?=some v)∧ ∀v∈news,v.oneCell'=true
section
variable {P:Program} {E:Env} {gv:Nat→AV} {Z Z':Nat→Prop} {w w':World} {σ σ':Nat→Sh}
theorem CellsOf.nil (e:Ty):CellsOf Z w e [] []:=⟨by simp,by simp,by simp⟩
theorem CellsOf.cons {e:Ty} {y:e.den} {ys:List e.den} {l news:List Value} (h:PV Z w e y l) (hs:CellsOf Z w e ys news):CellsOf Z w e (y::ys) (l++news):=by
 have hl:=PV.length e h
 refine⟨by simp[hl,hs.1,Nat.add_mul,Nat.add_comm],fun i x hx=>?_,fun v hv=>?_⟩
 ·cases i with
  | zero=>
   simp only[List.getElem?_cons_zero,Option.some.injEq]at hx
   subst hx
   refine⟨l,h,fun j v hj=>?_⟩
   rw[List.getElem?_append_left (by have:=(List.getElem?_eq_some_iff.1 hj).1;omega)]
   simpa using hj
  | succ i=>
   obtain⟨l',h1,h2⟩:=hs.2.1 i x (by simpa using hx)
   refine⟨l',h1,fun j v hj=>?_⟩
   rw[List.getElem?_append_right (by rw[hl,Nat.add_mul];omega)]
   rw[←h2 j v hj]
   congr 1
   rw[hl,Nat.add_mul]
   omega
 ·rcases List.mem_append.1 hv with hv|hv
  ·exact PV.one e h v hv
  ·exact hs.2.2 v hv
theorem RowAt.tail {b o:Nat} {e:Ty} {x:e.den} {xs:List e.den} (h:RowAt Z w b o e (x::xs)):RowAt Z w b (o+e.sz) e xs:=fun i y hy=>by
 obtain⟨l,h1,h2⟩:=h (i+1) y (by simpa using hy)
 refine⟨l,h1,?_⟩
 have:o+e.sz+i*e.sz=o+(i+1)*e.sz:=by rw[Nat.add_mul];omega
 rw[this]
 exact h2
theorem RowAt.cells {b:Nat} {e:Ty}: ∀{xs:List e.den} {o:Nat},RowAt Z w b o e xs→ ∃news,CellsOf Z w e xs news∧ ∀j v,news[j]?=some v→w.cell? ⟨b,o+j,none⟩=some v
 | [],o,_=>⟨[],CellsOf.nil e,by simp⟩
 | x::xs,o,h=>by
  obtain⟨l,h1,h2⟩:=h 0 x rfl
  obtain⟨news,h3,h4⟩:=RowAt.cells h.tail
  have hl:=PV.length e h1
  refine⟨l++news,h3.cons h1,fun j v hj=>?_⟩
  rw[List.getElem?_append]at hj
  split at hj
  ·have:=h2 j v hj
   simpa using this
  ·have:=h4 _ v hj
   rw[←this]
   congr 2
   omega
theorem CellsOf.row {b o:Nat} {e:Ty} {xs:List e.den} {news:List Value} (h:CellsOf Z w e xs news) (k:Kept Z w Z' w') (hc: ∀j v,news[j]?=some v→w'.cell? ⟨b,o+j,none⟩=some v):RowAt Z' w' b o e xs:=fun i x hx=>by
 obtain⟨l,h1,h2⟩:=h.2.1 i x hx
 refine⟨l,h1.kept k,fun j v hj=>?_⟩
 have:=hc _ v (h2 j v hj)
 rw[←this]
 congr 2
 omega
theorem CellsOf.append {e:Ty} {xs ys:List e.den} {olds news:List Value} (h1:CellsOf Z w e xs olds) (h2:CellsOf Z w e ys news):CellsOf Z w e (xs++ys) (olds++news):=by
 refine⟨by simp[h1.1,h2.1,Nat.add_mul],fun i x hx=>?_,fun v hv=>?_⟩
 ·rw[List.getElem?_append]at hx
  split at hx
  ·rename_i hi
   obtain⟨l,h3,h4⟩:=h1.2.1 i x hx
   refine⟨l,h3,fun j v hj=>?_⟩
   have:=h4 j v hj
   rw[List.getElem?_append_left (List.getElem?_eq_some_iff.1 this).1]
   exact this
  ·rename_i hi
   obtain⟨l,h3,h4⟩:=h2.2.1 _ x hx
   refine⟨l,h3,fun j v hj=>?_⟩
   have:=h4 j v hj
   have e1:i*e.sz+j=olds.length+((i-xs.length)*e.sz+j):=by
    rw[h1.1]
    have:i=xs.length+(i-xs.length):=by omega
    rw[this,Nat.add_mul]
    simp
    omega
   rw[e1,List.getElem?_append_right (by omega)]
   rw[←this]
   congr 1
   omega
 ·rcases List.mem_append.1 hv with hv|hv
  ·exact h1.2.2 v hv
  ·exact h2.2.2 v hv
def ASrc (P:Program) (i:TypeInfo) (z:Value) (t2:TypeId) (x:Value) (n:Nat) (news:List Value) (w:World):Prop:=
 (∃e2,P.underlying t2=some (.slice e2)∧(∀w,(Builtin.lenOf x).run P w= .ok n w)∧ ∀w2:World,w2.heap=w.heap→(Builtin.firstCells i.size n x).run P w2= .ok news.toArray w2)∨
 ((∃k,P.underlying t2=some (.int k))∧ ∃k l,x= .int k l∧0≤l∧l<9223372036854775808∧l*i.bytes≤281474976710656∧n=l.toNat∧news.toArray=Builtin.zeroCells z.cells n)
theorem run_first {size n len cap:Nat} {base:Option Addr} {cs:List Value} (hl:cs.length=n*size) (h: ∀j v,cs[j]?=some v→ ∃a,base=some a∧w.cell? (a.add j)=some v):
  (Builtin.firstCells size n (.slice base len cap)).run P w= .ok cs.toArray w:=by
 cases base with
 | none=>
  have:cs=[]:=by
   cases cs with
   | nil=>rfl
   | cons a _=>obtain⟨_,e,_⟩:=h 0 a rfl;cases e
  subst this
  simp[Builtin.firstCells]
 | some b=>
  simp only[Builtin.firstCells]
  rw[←hl]
  exact run_loadCells_list w b cs fun j v hj=>by
   obtain⟨a,e,h2⟩:=h j v hj
   cases e
   exact h2
theorem run_append_in {t t2 ty e:TypeId} {i:TypeInfo} {z:Value} (ht:P.underlying t=some (.slice e)) (hi:P.info? e=some i) (hz:i.zero=some z) {base:Option Addr} {sLen sCap n:Nat} {x:Value} {news:List Value}
  (hs:ASrc P i z t2 x n news w) (hl:news.length=n*i.size) (hroom:sLen+n≤sCap):
  (Builtin.append_ #[t,t2] ty #[.slice base sLen sCap,x]).run P w=(match base with
   | some a=>(storeCells (a.add (sLen*i.size)) news).run P w
   | none=> .ok () w).andThen fun _ w=> .ok (.slice base (sLen+n) sCap) w:=by
 rcases hs with ⟨d,h1,h3,h4⟩|⟨⟨k,h1⟩,k',l,rfl,h2,h3,h4,rfl,h5⟩
 ·have h4':=h4 w rfl
  cases base<;>simp[Builtin.append_,run_underlying ht,sizeOf,typeInfo,hi,run_underlying h1,h3,hroom,h4']
 ·have wl:IntKind.i64.wrap l=l:=by rw[IntKind.wrap_i64];omega
  have n1: ¬l<0:=by omega
  have n2: ¬(281474976710656<l*(i.bytes:Int)):=by omega
  by_cases hn:l.toNat*i.size=0
  ·have hnil:news=[]:=List.eq_nil_of_length_eq_zero (by rw[hl];exact hn)
   subst hnil
   cases base<;>simp[Builtin.append_,run_underlying ht,sizeOf,typeInfo,hi,run_underlying h1,asInt,asIntOf,wl,n1,n2,hroom,hn]
  ·cases base<;>simp[Builtin.append_,run_underlying ht,sizeOf,typeInfo,hi,run_underlying h1,asInt,asIntOf,wl,n1,n2,hroom,hn,zeroValue,hz, ←h5]
theorem run_append_out {t t2 ty e:TypeId} {i:TypeInfo} {z:Value} (ht:P.underlying t=some (.slice e)) (hi:P.info? e=some i) (hz:i.zero=some z) {base:Option Addr} {sLen sCap n:Nat} {x:Value} {olds news:List Value}
  (hs:ASrc P i z t2 x n news w) (hl:news.length=n*i.size) (hlo:olds.length=sLen*i.size) (holds: ∀j v,olds[j]?=some v→ ∃a,base=some a∧w.cell? (a.add j)=some v)
  (hg:sCap<sLen+n) (hb:1≤i.bytes) (hroom:(sLen+n)*i.bytes≤140737488355328):
  (Builtin.append_ #[t,t2] ty #[.slice base sLen sCap,x]).run P w= .ok (.slice (some ⟨w.heap.size,0,none⟩) (sLen+n) (grownCap w (sLen+n) sCap e))
   (w.drew.alloc (.cells (olds.toArray++news.toArray++Builtin.zeroCells z.cells (grownCap w (sLen+n) sCap e-(sLen+n))) e)):=by
 have hn: ¬(sLen+n≤sCap):=by omega
 have hle:sLen+n≤140737488355328:=Nat.le_trans (Nat.le_mul_of_pos_right _ hb) hroom
 have h63': ¬(9223372036854775807<((sLen:Int)+(n:Int))):=by omega
 have hfit:=growslice_fits hg hroom
 have h48': ¬(281474976710656<Builtin.nextslicecap (sLen+n) sCap*i.bytes):=by omega
 have hfo:=run_first (P:=P) (w:=w.drew) (len:=sLen) (cap:=sCap) hlo (by simpa using holds)
 rcases hs with ⟨d,h1,h3,h4⟩|⟨⟨k,h1⟩,k',l,rfl,h2,h3,h4,hnl,h5⟩
 ·have h4':=h4 w.drew rfl
  simp[Builtin.append_,run_underlying ht,run_underlying h1,sizeOf,typeInfo,zeroValue,hi,hz,h3,hn,h63',h48',Question.forced,h4',hfo,newRow,grownCap]
  congr 2
  apply Array.ext'
  simp[List.append_assoc]
 ·have wl:IntKind.i64.wrap l=l:=by rw[IntKind.wrap_i64];omega
  have n1: ¬l<0:=by omega
  have n2: ¬(281474976710656<l*(i.bytes:Int)):=by omega
  have hnl':l.toNat=n:=hnl.symm
  have hmx: ¬(9223372036854775807<(sLen:Int)+max l 0):=by omega
  by_cases hn0:n*i.size=0
  ·have hnil:news=[]:=List.eq_nil_of_length_eq_zero (by rw[hl];exact hn0)
   subst hnil
   simp[Builtin.append_,run_underlying ht,run_underlying h1,sizeOf,typeInfo,zeroValue,hi,hz,asInt,asIntOf,wl,n1,n2,hn,hn0,hnl',hmx,h63',h48',Question.forced,hfo,newRow,grownCap]
  ·simp[Builtin.append_,run_underlying ht,run_underlying h1,sizeOf,typeInfo,zeroValue,hi,hz,asInt,asIntOf,wl,n1,n2,hn,hn0,hnl',hmx,h63',h48',Question.forced,hfo,newRow,grownCap, ←h5]
   congr 2
   apply Array.ext'
   simp[List.append_assoc]
end
section
variable {P:Program} {E:Env} {gv:Nat→AV} {Z Z':Nat→Prop} {w w':World} {σ σ':Nat→Sh}
theorem setRow_cell {b:Nat} {cur:Array Value} {el:TypeId} (hg:w.heap[b]?=some (.cells cur el (0,0))) (cs:Array Value) (j:Nat):(w.setRow b cs).cell? ⟨b,j,none⟩=cs[j]?:=by
 simp[World.cell?,setRow_heap w b cur cs el (0,0) hg]
def Raw (w:World) (p:Pl) (sz k:Nat) (all:List Value):Prop:=all.length=k*sz∧match p with
 | none=>k=0
 | some (b,s,m)=>k≤m∧Blk w b (s+m*sz)∧cellsAt w b s all
theorem Raw.kept {p:Pl} {sz k:Nat} {all:List Value} (h:Raw w p sz k all) (hw: ∀b,plB p b→w'.heap[b]?=w.heap[b]?):Raw w' p sz k all:=by
 match p,h with
 | none,h=>exact h
 | some (b,s,m),⟨h0,h1,h2,h3⟩=>exact⟨h0,h1,h2.kept (hw b rfl),h3.of_same (hw b rfl)⟩
theorem append_raw {t t2 ty te:TypeId} {i:TypeInfo} {z:Value} {sz:Nat} (ht:P.underlying t=some (.slice te)) (hi:P.info? te=some i) (hz:i.zero=some z) (hsz:i.size=sz) (hzs:z.cells.size=sz) (hb:1≤i.bytes)
  {p:Pl} {k off nn n:Nat} {v x:Value} {all news:List Value} (ho:Raw w p sz k all) (hh:Hdr sz p off nn v) (hend:off+nn=k) (hs:ASrc P i z t2 x n news w) (hnl:news.length=n*sz) (h1c: ∀v∈news,v.oneCell'=true)
  (hroom:(nn+n)*i.bytes≤140737488355328):
  ∃u w' p',(Builtin.append_ #[t,t2] ty #[v,x]).run P w= .ok u w'∧w'.os=w.os∧w'.tape=w.tape∧w'.output=w.output∧w.heap.size≤w'.heap.size∧(∀b,b<w.heap.size→ ¬plB p b→w'.heap[b]?=w.heap[b]?)∧
   (∀b,plB p' b→plB p b∨w.heap.size≤b)∧Hdr sz p' 0 (nn+n) u∧Raw w' p' sz (nn+n) (all.drop (off*sz)++news)∧Raw w' p sz k all:=by
 have hal:all.length=k*sz:=ho.1
 have hdl:(all.drop (off*sz)).length=nn*sz:=by rw[List.length_drop,hal, ←hend,Nat.add_mul];omega
 have hcl:(all.drop (off*sz)++news).length=(nn+n)*sz:=by rw[List.length_append,hdl,hnl,Nat.add_mul]
 have holdb: ∀{b:Nat},plB p b→b<w.heap.size:=fun {b} hb=>by
  match p,ho,hb with
  | some (b',s,m),⟨_,_,⟨c',el,h2,_⟩,_⟩,hb=>cases hb;exact(Array.getElem?_eq_some_iff.1 h2).1
 have grow: ∀(base:Option Addr) (c:Nat),v= .slice base nn c→c<nn+n→(∀j v,(all.drop (off*sz))[j]?=some v→ ∃a,base=some a∧w.cell? (a.add j)=some v)→
   ∃u w' p',(Builtin.append_ #[t,t2] ty #[v,x]).run P w= .ok u w'∧w'.os=w.os∧w'.tape=w.tape∧w'.output=w.output∧w.heap.size≤w'.heap.size∧(∀b,b<w.heap.size→ ¬plB p b→w'.heap[b]?=w.heap[b]?)∧
   (∀b,plB p' b→plB p b∨w.heap.size≤b)∧Hdr sz p' 0 (nn+n) u∧Raw w' p' sz (nn+n) (all.drop (off*sz)++news)∧Raw w' p sz k all:=by
  intro base c hv hlt holds
  subst hv
  have hr:=run_append_out (P:=P) (w:=w) (ty:=ty) ht hi hz hs (by rw[hnl,hsz]) (by rw[hdl,hsz]) holds hlt hb hroom
  have hge:=grownCap_ge w (nn+n) c te
  have hw:(w.drew.alloc (.cells ((all.drop (off*sz)).toArray++news.toArray++Builtin.zeroCells z.cells (grownCap w (nn+n) c te-(nn+n))) te)).heap=w.heap.push (.cells ((all.drop (off*sz)).toArray++news.toArray++Builtin.zeroCells z.cells (grownCap w (nn+n) c te-(nn+n))) te):=rfl
  refine⟨_,_,some (w.heap.size,0,grownCap w (nn+n) c te),hr,rfl,rfl,rfl,by rw[hw];simp,fun b hb _=>push_old hw hb,fun b hb=>?_,?_,?_,ho.kept fun b hb=>push_old hw (holdb hb)⟩
  ·right
   have:w.heap.size=b:=by simpa[plB]using hb.symm
   omega
  ·exact⟨_,_,rfl,hge, .inr ⟨_,_,_,rfl,by simp,by simp⟩⟩
  ·refine⟨hcl,hge,blk_push hw ?_,fun j v hj=>?_⟩
   ·simp only[Array.size_append,List.size_toArray,size_zeroCells,hzs,hnl,hdl,Nat.zero_add, ←Nat.add_mul]
    rw[Nat.add_sub_cancel' hge]
    exact Nat.le_refl _
   ·rw[cell_push hw,Nat.zero_add]
    have h1:=(List.getElem?_eq_some_iff.1 hj).1
    rw[Array.getElem?_append_left (by simpa using h1)]
    simpa using hj
 obtain⟨a,c,rfl,hnc,hac⟩:=hh
 by_cases hroom2:nn+n≤c
 ·
  have hr:=run_append_in (P:=P) (w:=w) (ty:=ty) (base:=a) ht hi hz hs (by rw[hnl,hsz]) hroom2
  rcases hac with hc0|⟨b,s,m,rfl,rfl,hm⟩
  ·have hn0:n=0:=by omega
   have hnn:nn=0:=by omega
   subst hn0 hnn
   have hnil:news=[]:=List.eq_nil_of_length_eq_zero (by rw[hnl];simp)
   subst hnil
   have hr2:(Builtin.append_ #[t,t2] ty #[.slice a 0 c,x]).run P w= .ok (.slice a 0 c) w:=by
    rw[hr]
    cases a<;>simp[storeCells,Result.andThen]
   exact⟨_,w,none,hr2,rfl,rfl,rfl,Nat.le_refl _,fun _ _ _=>rfl,fun b hb=>hb.elim,⟨_,_,rfl,Nat.zero_le _, .inl hc0⟩,⟨hcl,rfl⟩,ho⟩
  ·obtain⟨_,ho1,⟨cur,el,ho2,ho3⟩,ho5⟩:=ho
   have hq:(⟨b,s+off*sz,none⟩:Addr).add (nn*i.size)=⟨b,s+off*sz+nn*sz,none⟩:=by rw[add_spot,hsz]
   have hqe:s+off*sz+nn*sz=s+k*sz:=by rw[←hend,Nat.add_mul];omega
   have hfit:s+k*sz+news.length≤cur.size:=by
    have h1:(off+(nn+n))*sz≤m*sz:=Nat.mul_le_mul_right _ (by omega)
    have h2:(off+(nn+n))*sz=k*sz+n*sz:=by rw[←hend,Nat.add_mul,Nat.add_mul,Nat.add_mul];omega
    rw[hnl]
    omega
   have hst:=run_storeCells_at P b (s+k*sz) el news 0 cur w ho2 (by simpa using hfit) h1c
   simp only[Nat.add_zero]at hst
   have hr2:(Builtin.append_ #[t,t2] ty #[.slice (some ⟨b,s+off*sz,none⟩) nn c,x]).run P w= .ok (.slice (some ⟨b,s+off*sz,none⟩) (nn+n) c)
     (w.setRow b (cur.toList.take (s+k*sz)++news++cur.toList.drop (s+k*sz+news.length)).toArray):=by
    rw[hr]
    simp only[hq,hqe,hst,Result.andThen]
   have hcell: ∀j,(w.setRow b (cur.toList.take (s+k*sz)++news++cur.toList.drop (s+k*sz+news.length)).toArray).cell? ⟨b,j,none⟩=
     if s+k*sz≤j∧j<s+k*sz+news.length then news[j-(s+k*sz)]? else cur[j]?:=fun j=>by
    rw[setRow_cell ho2,List.getElem?_toArray,splice_get _ _ _ _ (by simpa using hfit)]
    simp
   have hold: ∀j,w.cell? ⟨b,j,none⟩=cur[j]?:=fun j=>by simp[World.cell?,ho2]
   have h6:(cur.toList.take (s+k*sz)++news++cur.toList.drop (s+k*sz+news.length)).length=cur.size:=by
    simp only[List.length_append,List.length_take,List.length_drop,Array.length_toList]
    omega
   have hall:cellsAt (w.setRow b (cur.toList.take (s+k*sz)++news++cur.toList.drop (s+k*sz+news.length)).toArray) b s all:=fun j v hj=>by
    have hj2:=(List.getElem?_eq_some_iff.1 hj).1
    rw[hcell,if_neg (by omega), ←hold]
    exact ho5 j v hj
   refine⟨_,_,some (b,s+off*sz,m-off),hr2,rfl,rfl,rfl,by simp,fun b' _ hb'=>setRow_other w b b' _ fun e=>hb' (e▸rfl),fun b' hb'=> .inl hb',?_,⟨hcl,by omega,⟨_,el,setRow_heap w b cur _ el (0,0) ho2,?_⟩,fun j v hj=>?_⟩,
    hal,ho1,⟨_,el,setRow_heap w b cur _ el (0,0) ho2,by rw[List.size_toArray,h6];exact ho3⟩,hall⟩
   ·exact⟨_,_,rfl,hroom2, .inr ⟨_,_,_,rfl,by simp,by omega⟩⟩
   ·have:off≤m:=by omega
    have h5:s+off*sz+(m-off)*sz=s+m*sz:=by
     rw[Nat.add_assoc, ←Nat.add_mul,Nat.add_sub_cancel' this]
    rw[h5,List.size_toArray,h6]
    exact ho3
   ·rw[List.getElem?_append]at hj
    split at hj
    ·rename_i hjl
     rw[List.getElem?_drop]at hj
     have:=hall _ v hj
     rw[←this]
     congr 2
     omega
    ·rename_i hjl
     have:=(List.getElem?_eq_some_iff.1 hj).1
     rw[hcell,if_pos (by omega), ←hj]
     congr 1
     omega
 ·rcases hac with hc0|⟨b,s,m,rfl,rfl,hm⟩
  ·have hnn:nn=0:=by omega
   subst hnn
   have hxd:all.drop (off*sz)=[]:=List.eq_nil_of_length_eq_zero (by rw[hdl];simp)
   exact grow a c rfl (by omega) (by rw[hxd];simp)
  ·have ho':=ho
   obtain⟨_,ho1,⟨cur,el,ho2,ho3⟩,ho5⟩:=ho'
   exact grow _ c rfl (by omega) fun j v hj=>⟨_,rfl,by
    rw[add_spot]
    rw[List.getElem?_drop]at hj
    have:=ho5 _ v hj
    rw[←this]
    congr 2
    omega⟩
theorem CellsOf.drop {e:Ty} {xs:List e.den} {all:List Value} (h:CellsOf Z w e xs all) (off:Nat):CellsOf Z w e (xs.drop off) (all.drop (off*e.sz)):=by
 refine⟨by rw[List.length_drop,List.length_drop,h.1,Nat.sub_mul],fun i y hy=>?_,fun v hv=>h.2.2 v (List.mem_of_mem_drop hv)⟩
 rw[List.getElem?_drop]at hy
 obtain⟨l,h1,h2⟩:=h.2.1 _ y hy
 refine⟨l,h1,fun j v hj=>?_⟩
 rw[List.getElem?_drop, ←h2 j v hj]
 congr 1
 rw[Nat.add_mul]
 omega
theorem Own.raw {p:Pl} {e:Ty} {xs:List e.den} (h:Own Z w p e xs): ∃all,CellsOf Z w e xs all∧Raw w p e.sz xs.length all:=by
 match p,h with
 | none,h=>
  have h0:xs=[]:=h
  subst h0
  exact⟨[],CellsOf.nil e,by simp,rfl⟩
 | some (b,s,m),⟨h1,h2,h3,h4⟩=>
  obtain⟨all,h5,h6⟩:=h4.cells
  exact⟨all,h5,h5.1,h1,h2,h6⟩
theorem Raw.own {p:Pl} {e:Ty} {xs:List e.den} {all:List Value} (h:Raw w' p e.sz xs.length all) (hc:CellsOf Z w e xs all) (k:Kept Z w Z' w') (hz: ∀b,plB p b→ ¬Z' b):Own Z' w' p e xs:=by
 match p,h with
 | none,h=>exact List.eq_nil_of_length_eq_zero h.2
 | some (b,s,m),⟨_,h1,h2,h3⟩=>exact⟨h1,h2,hz b rfl,hc.row k h3⟩
theorem append_own {t t2 ty te:TypeId} {i:TypeInfo} {z:Value} {e:Ty} (ht:P.underlying t=some (.slice te)) (hi:P.info? te=some i) (hz:i.zero=some z) (hsz:i.size=e.sz) (hzs:z.cells.size=e.sz) (hb:1≤i.bytes)
  {p:Pl} {xs ys:List e.den} {off nn n:Nat} {v x:Value} {news:List Value} (ho:Own Z w p e xs) (hh:Hdr e.sz p off nn v) (hend:off+nn=xs.length) (hs:ASrc P i z t2 x n news w) (hc:CellsOf Z w e ys news) (hn:ys.length=n)
  (hroom:(nn+n)*i.bytes≤140737488355328) (hzl: ∀b,Z b→b<w.heap.size):
  ∃u w' p',(Builtin.append_ #[t,t2] ty #[v,x]).run P w= .ok u w'∧w'.os=w.os∧w'.tape=w.tape∧w'.output=w.output∧w.heap.size≤w'.heap.size∧(∀b,b<w.heap.size→ ¬plB p b→w'.heap[b]?=w.heap[b]?)∧
   (∀b,plB p' b→plB p b∨w.heap.size≤b)∧Hdr e.sz p' 0 (nn+n) u∧Own Z w' p' e (xs.drop off++ys)∧Own Z w' p e xs:=by
 have hnz: ∀b,plB p b→ ¬Z b:=fun b hb=>by
  match p,ho,hb with
  | some (b',s,m),⟨_,_,h3,_⟩,hb=>cases hb;exact h3
 have hkz: ∀(w':World),(∀b,b<w.heap.size→ ¬plB p b→w'.heap[b]?=w.heap[b]?)→Kept Z w Z w':=fun w' h=>⟨fun _ h=>h,fun b hb=>h b (hzl b hb) fun hp=>hnz b hp hb⟩
 obtain⟨all,h1,h2⟩:=ho.raw
 obtain⟨u,w',p',r1,r2,r3,r4,r5,r6,r7,r8,r9,r10⟩:=append_raw (ty:=ty) ht hi hz hsz hzs hb h2 hh hend hs (by rw[hc.1,hn]) hc.2.2 hroom
 have hlen:(xs.drop off++ys).length=nn+n:=by rw[List.length_append,List.length_drop,hn];omega
 refine⟨u,w',p',r1,r2,r3,r4,r5,r6,r7,r8,?_,r10.own h1 (hkz w' r6) hnz⟩
 rw[←hlen]at r9
 exact r9.own ((h1.drop off).append hc) (hkz w' r6) fun b hb hzb=>by
  rcases r7 b hb with h|h
  ·exact hnz b h hzb
  ·have:=hzl b hzb
   omega
end
end Go.Proofs.YtkeiedikiiccpaaGreatDoor.Am
