/- A part of the proof of ScrubMade: lemmas. No conditions beyond those of each lemma. -/
import Derived.Test.YtkeiedikiiccpaaGreatDoorK9
set_option linter.all false
namespace Go.Proofs.YtkeiedikiiccpaaGreatDoor.Am
open Go Go.RowKit
theorem setCell_blk {w:World} {b o:Nat} {v:Value} {cur:Array Value} {el:TypeId} (h:w.heap[b]?=some (.cells cur el (0,0))): ∃cur',(w.setCell ⟨b,o,none⟩ v).heap[b]?=some (.cells cur' el (0,0))∧cur'.size=cur.size:=by
 simp[World.setCell,Array.getElem?_modify,h]
theorem sets_blk {b:Nat} {el:TypeId}: ∀{vs:List Value} {o:Nat} {w:World} {cur:Array Value},w.heap[b]?=some (.cells cur el (0,0))→ ∃cur',(w.setCells b o vs).heap[b]?=some (.cells cur' el (0,0))∧cur'.size=cur.size
 | [],_,_,cur,h=>⟨cur,h,rfl⟩
 | v::r,o,w,cur,h=>by
  obtain⟨c1,h1,e1⟩:=setCell_blk (o:=o) (v:=v) h
  obtain⟨c2,h2,e2⟩:=sets_blk (vs:=r) (o:=o+1) h1
  exact⟨c2,h2,e2.trans e1⟩
theorem sets_old {b:Nat}: ∀(vs:List Value) (o:Nat) (w:World) (k:Nat),k≠b→(w.setCells b o vs).heap[k]?=w.heap[k]?
 | [],_,_,_,_=>rfl
 | v::r,o,w,k,h=>by
  rw[World.setCells,sets_old r (o+1) _ k h]
  exact Below.heap_setCell w _ v k h
theorem sets_rest (b:Nat): ∀(vs:List Value) (o:Nat) (w:World),(w.setCells b o vs).os=w.os∧(w.setCells b o vs).tape=w.tape∧(w.setCells b o vs).output=w.output∧(w.setCells b o vs).heap.size=w.heap.size
 | [],_,_=>⟨rfl,rfl,rfl,rfl⟩
 | v::r,o,w=>by
  obtain⟨h1,h2,h3,h4⟩:=sets_rest b r (o+1) (w.setCell ⟨b,o,none⟩ v)
  exact⟨h1.trans rfl,h2.trans rfl,h3.trans rfl,h4.trans (by simp[World.setCell])⟩
section
variable {Z:Nat→Prop} {w:World} {e:Ty}
theorem CellsOf.take {xs:List e.den} {news:List Value} (h:CellsOf Z w e xs news) (i:Nat) (hi:i≤xs.length):CellsOf Z w e (xs.take i) (news.take (i*e.sz)):=by
 have hl:i*e.sz≤xs.length*e.sz:=Nat.mul_le_mul_right _ hi
 refine⟨by rw[List.length_take,List.length_take,h.1,Nat.min_eq_left hi,Nat.min_eq_left hl],fun q y hq=>?_,fun v hv=>h.2.2 v (List.mem_of_mem_take hv)⟩
 have hqi:q<i:=by
  have:=(List.getElem?_eq_some_iff.1 hq).1
  rw[List.length_take]at this
  omega
 rw[List.getElem?_take,if_pos hqi]at hq
 obtain⟨l,h1,h2⟩:=h.2.1 q y hq
 refine⟨l,h1,fun j v hj=>?_⟩
 have hj2:=h2 j v hj
 have hls:=h1.length
 have:=(List.getElem?_eq_some_iff.1 hj).1
 have:q*e.sz+j<i*e.sz:=by
  have h3:(q+1)*e.sz≤i*e.sz:=Nat.mul_le_mul_right _ hqi
  rw[Nat.succ_mul]at h3
  omega
 rw[List.getElem?_take,if_pos this]
 exact hj2
end
theorem T0_sz:T0.sz=3:=rfl
theorem delete_impl (gv:Nat→AV) (k:Nat):Impl Tryz.prog gv 116 (deleteS T0 k):=by
 refine⟨⟨Tryz.f116,Tryz.func116,by kernel_rfl,by kernel_rfl⟩,fun args ins K r he=>?_⟩
 obtain⟨x,hx,h4⟩:=Option.bind_eq_some_iff.1 he
 clear he
 obtain⟨xs,i0,j0⟩:=x
 change Int at i0
 change Int at j0
 have he:deleteF k xs i0 j0 (fun y=>K { ret:= .sl 1 none none,objs:=[.dead, .L T0 y] })=some r:=h4
 clear h4
 obtain⟨rfl,rfl⟩:=(dA_ok (dO_ok T0) (dA_ok (dP_ok tI) (d1_ok (dP_ok tI)))).dec hx
 clear hx
 unfold deleteF at he
 split at he
 case isFalse=>cases he
 rename_i hn
 obtain⟨i,rfl⟩: ∃i:Nat,i0=i:=⟨i0.toNat,by omega⟩
 obtain⟨j,rfl⟩: ∃j:Nat,j0=j:=⟨j0.toNat,by omega⟩
 rw[Int.toNat_natCast,Int.toNat_natCast]at he
 have hij:i≤j:=by omega
 have hj:j≤xs.length:=by omega
 refine⟨_,he,(by show 1≤2;decide),fun Z w σ vs hv il m0 hu0=>?_⟩
 have m:MR gv Z w σ (obsF [.L T0 xs]):=m0
 have hu: ∀h,σ h= .un↔1≤h:=hu0
 clear m0 hu0
 show Calls _ _ _ _ (RetOk gv Z w σ [.L T0 xs] 1 { ret:= .sl 1 none none,objs:=[.dead, .L T0 (xs.take i++xs.drop j)] })
 obtain⟨v1,r1,e1,hv1,⟨v2,r2,rfl,hv2,⟨v3,r3,rfl,hv3,hr3,_⟩,_⟩,_⟩:=hv
 have hr3:r3=[]:=hr3
 subst hr3
 have hv2:v2= .int .i64 (i:Int):=by simpa[PV]using hv2.2
 have hv3:v3= .int .i64 (j:Int):=by simpa[PV]using hv3.2
 subst hv2 hv3
 obtain rfl:vs= #[v1, .int .i64 (i:Int), .int .i64 (j:Int)]:=Array.ext' e1
 obtain⟨p,hs0,ho,hh⟩:=MR.whole m (g:=0) (e:=T0) (xs:=xs) rfl hv1
 have hs1:σ 1= .un:=(hu 1).2 (Nat.le_refl 1)
 have fin: ∀(w':World) (p':Pl) (v:Value),w'.os=w.os→w'.tape=w.tape→w'.output=w.output→w.heap.size≤w'.heap.size→(∀b,b<w.heap.size→ ¬plB p b→w'.heap[b]?=w.heap[b]?)→(∀b,plB p' b→plB p b)→
   Hdr T0.sz p' 0 (xs.take i++xs.drop j).length v→Own Z w' p' T0 (xs.take i++xs.drop j)→
   RetOk gv Z w σ [.L T0 xs] 1 { ret:= .sl 1 none none,objs:=[.dead, .L T0 (xs.take i++xs.drop j)] } (.returned v) w':=by
  intro w' p' v a1 a2 a3 a4 a5 a6 a7 a8
  obtain⟨σ',b1,b2,b3,b4,b5⟩:=MR.move m hs1 [0] (fun h hh=>by rw[List.mem_singleton.1 hh];exact fun e=>by cases e) a1 a2 a3 a4
   (fun b hb hg=>a5 b hb fun hp=>hg 0 (by simp) (by rw[hs0];exact hp)) (s:= .S T0.sz (xs.take i++xs.drop j).length p' none) (ob:= .L T0 (xs.take i++xs.drop j)) (by simp)
   (fun σ' _ _=>⟨p',rfl,a8⟩) (fun b hb=> .inl ⟨0,by simp,by rw[hs0];exact a6 b hb⟩)
  have eo:upd (wrs (obsF [.L T0 xs]) ([0].map fun g=>(g,Ob.dead))) 1 (.L T0 (xs.take i++xs.drop j))=obsF [.dead, .L T0 (xs.take i++xs.drop j)]:=by
   funext h
   rw[List.map_cons,List.map_nil]
   match h with
   | 0=>rfl
   | 1=>rfl
   | h+2=>rfl
  rw[eo]at b1 b2
  refine⟨Z,σ',⟨v,rfl,?_⟩,b1,b2,fun h hh=>?_,fun h=>?_⟩
  ·rw[b5]
   exact⟨a7,by show 0+_≤_;rw[Nat.zero_add];exact Nat.le_refl _⟩
  ·obtain rfl:h=0:=by omega
   exact(b3 0).w (by rw[hs0];simp)
  ·rw[b4]
   constructor
   ·rintro ⟨h1,h2⟩
    have:=(hu h).1 h1
    show 2≤h
    omega
   ·intro h1
    have h1:2≤h:=h1
    exact⟨(hu h).2 (by omega),by omega⟩
 obtain⟨a,c,rfl,hnc,hac⟩:=hh
 by_cases hlt:i=j
 ·subst hlt
  have hap:xs.take i++xs.drop i=xs:=List.take_append_drop _ _
  rw[hap]at fin
  have hf:=fin w p (.slice a xs.length c) rfl rfl rfl (Nat.le_refl _) (fun _ _ _=>rfl) (fun _ h=>h) ⟨a,c,rfl,hnc,hac⟩ ho
  cases a with
  | none=>
   rcases hac with hc0|⟨_,_,_,_,e,_⟩
   ·have hx0:xs.length=0:=by omega
    have hi0:i=0:=by omega
    subst hi0
    rw[hx0,hc0]at hf ⊢
    rw[hap]
    refine(del_walkN w).mono fun e w' ⟨h1,h2⟩=>?_
    subst h1 h2
    exact hf
   ·cases e
  | some b=>
   refine(del_walk0 b xs.length c i w hnc hj).mono fun e w' ⟨h1,h2⟩=>?_
   subst h1 h2
   rw[hap]
   exact hf
 ·rcases hac with hc0|⟨b,s,m',rfl,rfl,hm⟩
  ·omega
  ·obtain⟨o1,⟨cur,el,o2,o3⟩,o4,o5⟩:=ho
   obtain⟨olds,ho6,ho7⟩:=o5.cells
   rw[Nat.zero_mul,Nat.add_zero]
   have hol:olds.length=xs.length*3:=ho6.1
   refine(del_walk b s xs.length c i j olds w hnc (by omega) hj hol ho7 (fun q hq=>by simp[World.frozen?,o2]) ho6.2.2).mono fun e w' ⟨h1,zs,hz,h2⟩=>?_
   subst h1
   have hlen:(xs.take i++xs.drop j).length=xs.length-(j-i):=by
    rw[List.length_append,List.length_take,List.length_drop]
    omega
   have q1:=sets_rest b (olds.drop (j*3)) (s+i*3) w.drew
   have q2:=sets_rest b zs (s+(i+(xs.length-j))*3) (w.drew.setCells b (s+i*3) (olds.drop (j*3)))
   rw[←h2]at q2
   have hother: ∀b',b'≠b→w'.heap[b']?=w.heap[b']?:=fun b' hb'=>by
    rw[h2,sets_old _ _ _ _ hb',sets_old _ _ _ _ hb']
    rfl
   refine fin w' (some (b,s,m')) _ (q2.1.trans q1.1) (q2.2.1.trans q1.2.1) (q2.2.2.1.trans q1.2.2.1) (by rw[q2.2.2.2,q1.2.2.2];exact Nat.le_refl _) (fun b' _ hb'=>hother b' fun e=>hb' (by rw[e];rfl)) (fun b' hb'=>hb') ?_ ?_
   ·rw[hlen]
    exact⟨_,c,rfl,by omega, .inr ⟨b,s,m',rfl,by rw[Nat.zero_mul,Nat.add_zero],hm⟩⟩
   ·obtain⟨cur1,p1,p2⟩:=sets_blk (vs:=olds.drop (j*3)) (o:=s+i*3) (w:=w.drew) o2
    obtain⟨cur2,p3,p4⟩:=sets_blk (vs:=zs) (o:=s+(i+(xs.length-j))*3) p1
    rw[←h2]at p3
    refine⟨by rw[hlen];omega,⟨cur2,el,p3,by rw[p4,p2];exact o3⟩,o4,?_⟩
    have k:Kept Z w Z w':=⟨fun _ h=>h,fun b' hb'=>hother b' fun e=>o4 (e▸hb')⟩
    refine((ho6.take i (by omega)).append (ho6.drop j)).row k fun q v hq=>?_
    rw[T0_sz]at hq
    have hsome: ∀t,t<xs.length*3→(w.drew.cell? ⟨b,s+t,none⟩).isSome=true:=fun t ht=>by
     show(w.cell? _).isSome=true
     rw[ho7 t _ (List.getElem?_eq_getElem (by omega))]
     rfl
    have hdl:(olds.drop (j*3)).length=(xs.length-j)*3:=by rw[List.length_drop,hol];omega
    have htl:(olds.take (i*3)).length=i*3:=by rw[List.length_take];omega
    have hql:=(List.getElem?_eq_some_iff.1 hq).1
    rw[List.length_append,htl,hdl]at hql
    rw[h2,World.cell?_setCells_out b _ _ _ _ fun _ _=>by left;show s+q<_;omega]
    by_cases hqi:q<i*3
    ·rw[World.cell?_setCells_out b _ _ _ _ fun _ _=>by left;show s+q<_;omega]
     rw[List.getElem?_append_left (by omega),List.getElem?_take,if_pos hqi]at hq
     exact ho7 q v hq
    ·rw[List.getElem?_append_right (by omega),htl]at hq
     have:=World.cell?_setCells_in b (olds.drop (j*3)) (s+i*3) w.drew (fun t ht=>by rw[Nat.add_assoc];exact hsome _ (by omega)) (q-i*3) (by omega)
     rw[show s+i*3+(q-i*3)=s+q by omega]at this
     rw[this, ←hq]
     exact(List.getElem?_eq_getElem _).symm
end Go.Proofs.YtkeiedikiiccpaaGreatDoor.Am
namespace Go.Proofs.YtkeiedikiiccpaaGreatDoor.Am
open Go Go.RowKit
set_option maxHeartbeats 4000000 in
set_option maxRecDepth 1000000 in
theorem ins_none0 (a:Addr) (vb:Option Addr) (n c i vc:Nat) (w:World) (hi:i≤n) (hnc:n≤c):
  Calls Tryz.prog 117 #[.slice (some a) n c, .int .i64 i, .slice vb 0 vc] w fun e w'=>e= .returned (.slice (some a) n c)∧w'=w:=by
 go_enter Tryz.func117,Tryz.ntmps117
 go_wp2
 all_goals (go_ret;exact⟨rfl,rfl⟩)
set_option maxHeartbeats 4000000 in
set_option maxRecDepth 1000000 in
theorem ins_noneN (vb:Option Addr) (vc:Nat) (w:World):
  Calls Tryz.prog 117 #[.slice none 0 0, .int .i64 0, .slice vb 0 vc] w fun e w'=>e= .returned (.slice none 0 0)∧w'=w:=by
 go_enter Tryz.func117,Tryz.ntmps117
 go_wp2
 all_goals (go_ret;exact⟨rfl,rfl⟩)
theorem insert_impl (gv:Nat→AV) (k:Nat):Impl Tryz.prog gv 117 (insertS T0 40 k):=by
 refine⟨⟨Tryz.f117,Tryz.func117,by kernel_rfl,by kernel_rfl⟩,fun args ins K r he=>?_⟩
 obtain⟨x,hx,h4⟩:=Option.bind_eq_some_iff.1 he
 clear he
 obtain⟨xs,i0,ys⟩:=x
 change Int at i0
 change List T0.den at ys
 have he:insertF 40 k xs i0 ys (fun y=>K { ret:= .sl 1 none none,objs:=[.dead, .L T0 y] })=some r:=h4
 clear h4
 obtain⟨rfl,rfl⟩:=(dA_ok (dO_ok T0) (dA_ok (dP_ok tI) (d1_ok (dP_ok (.sl T0))))).dec hx
 clear hx
 unfold insertF at he
 split at he
 case isFalse=>cases he
 rename_i hn
 obtain⟨i,rfl⟩: ∃i:Nat,i0=i:=⟨i0.toNat,by omega⟩
 rw[Int.toNat_natCast]at he
 have hi:i≤xs.length:=by omega
 have hbig:(xs.length+ys.length)*40≤140737488355328:=hn.2.2
 refine⟨_,he,(by show 1≤2;decide),fun Z w σ vs hv il m0 hu0=>?_⟩
 have m:MR gv Z w σ (obsF [.L T0 xs]):=m0
 have hu: ∀h,σ h= .un↔1≤h:=hu0
 clear m0 hu0
 show Calls _ _ _ _ (RetOk gv Z w σ [.L T0 xs] 1 { ret:= .sl 1 none none,objs:=[.dead, .L T0 (xs.take i++ys++xs.drop i)] })
 obtain⟨v1,r1,e1,hv1,⟨v2,r2,rfl,hv2,⟨v3,r3,rfl,hv3,hr3,_⟩,_⟩,_⟩:=hv
 have hr3:r3=[]:=hr3
 subst hr3
 have hv2:v2= .int .i64 (i:Int):=by simpa[PV]using hv2.2
 subst hv2
 obtain⟨ya,yc,ey,hyc,hyr⟩:=hv3.2
 have ey:v3= .slice ya ys.length yc:=by simpa using ey
 subst ey
 obtain rfl:vs= #[v1, .int .i64 (i:Int), .slice ya ys.length yc]:=Array.ext' e1
 obtain⟨p,hs0,ho,hh⟩:=MR.whole m (g:=0) (e:=T0) (xs:=xs) rfl hv1
 have hs1:σ 1= .un:=(hu 1).2 (Nat.le_refl 1)
 have hnz: ∀b,plB p b→ ¬Z b:=fun b hb=>(m.olt ⟨0,by rw[hs0];exact hb⟩).2
 have hpl: ∀b,plB p b→b<w.heap.size:=fun b hb=>(m.olt ⟨0,by rw[hs0];exact hb⟩).1
 have fin: ∀(w':World) (p':Pl) (v:Value),w'.os=w.os→w'.tape=w.tape→w'.output=w.output→w.heap.size≤w'.heap.size→(∀b,b<w.heap.size→ ¬plB p b→w'.heap[b]?=w.heap[b]?)→(∀b,plB p' b→plB p b∨w.heap.size≤b)→
   Hdr T0.sz p' 0 (xs.take i++ys++xs.drop i).length v→Own Z w' p' T0 (xs.take i++ys++xs.drop i)→
   RetOk gv Z w σ [.L T0 xs] 1 { ret:= .sl 1 none none,objs:=[.dead, .L T0 (xs.take i++ys++xs.drop i)] } (.returned v) w':=by
  intro w' p' v a1 a2 a3 a4 a5 a6 a7 a8
  generalize xs.take i++ys++xs.drop i=zs at a7 a8
  obtain⟨σ',b1,b2,b3,b4,b5⟩:=MR.move m hs1 [0] (fun h hh=>by rw[List.mem_singleton.1 hh];exact fun e=>by cases e) a1 a2 a3 a4
   (fun b hb hg=>a5 b hb fun hp=>hg 0 (by simp) (by rw[hs0];exact hp)) (s:= .S T0.sz zs.length p' none) (ob:= .L T0 zs) (by simp)
   (fun σ' _ _=>⟨p',rfl,a8⟩) (fun b hb=>(a6 b hb).imp (fun h=>⟨0,by simp,by rw[hs0];exact h⟩) id)
  have eo:upd (wrs (obsF [.L T0 xs]) ([0].map fun g=>(g,Ob.dead))) 1 (.L T0 zs)=obsF [.dead, .L T0 zs]:=by
   funext h
   rw[List.map_cons,List.map_nil]
   match h with
   | 0=>rfl
   | 1=>rfl
   | h+2=>rfl
  rw[eo]at b1 b2
  refine⟨Z,σ',⟨v,rfl,?_⟩,b1,b2,fun h hh=>?_,fun h=>?_⟩
  ·rw[b5]
   exact⟨a7,by show 0+_≤_;rw[Nat.zero_add];exact Nat.le_refl _⟩
  ·obtain rfl:h=0:=by omega
   exact(b3 0).w (by rw[hs0];simp)
  ·rw[b4]
   constructor
   ·rintro ⟨h1,h2⟩
    have:=(hu h).1 h1
    show 2≤h
    omega
   ·intro h1
    have h1:2≤h:=h1
    exact⟨(hu h).2 (by omega),by omega⟩
 have hlen:(xs.take i++ys++xs.drop i).length=xs.length+ys.length:=by
  rw[List.length_append,List.length_append,List.length_take,List.length_drop]
  omega
 obtain⟨a,c,rfl,hnc,hac⟩:=hh
 by_cases hy0:ys.length=0
 ·
  obtain rfl:ys=[]:=List.eq_nil_of_length_eq_zero hy0
  have hap:xs.take i++[]++xs.drop i=xs:=by rw[List.append_nil];exact List.take_append_drop _ _
  rw[hap]at fin
  have hf:=fin w p (.slice a xs.length c) rfl rfl rfl (Nat.le_refl _) (fun _ _ _=>rfl) (fun _ h=> .inl h) ⟨a,c,rfl,hnc,hac⟩ ho
  cases a with
  | none=>
   rcases hac with hc0|⟨_,_,_,_,e,_⟩
   ·have hx0:xs.length=0:=by omega
    have hi0:i=0:=by omega
    subst hi0
    rw[hx0,hc0]at hf ⊢
    rw[hap]
    refine(ins_noneN ya yc w).mono fun e w' ⟨h1,h2⟩=>?_
    subst h1 h2
    exact hf
   ·cases e
  | some b=>
   refine(ins_none0 b ya xs.length c i yc w hi hnc).mono fun e w' ⟨h1,h2⟩=>?_
   subst h1 h2
   rw[hap]
   exact hf
 have hm:0<ys.length:=by omega
 rcases hyr with h|⟨vb,vo,rfl,hzv,hrow⟩
 ·exact absurd h hy0
 have hrow:RowAt Z w vb vo T0 ys:=hrow
 obtain⟨news,hn1,hn2⟩:=hrow.cells
 have hnl:news.length=ys.length*3:=hn1.1
 by_cases hend:i=xs.length
 ·subst hend
  obtain⟨i0,hi0,hz0,hzs,hzb⟩: ∃i0,Tryz.prog.info? 87=some i0∧i0.zero=some wZero∧i0.size=3∧i0.bytes=40:=by
   have:(Tryz.prog.info? 87).map (fun i=>(i.zero,i.size,i.bytes))=some (some wZero,3,40):=by kernel_rfl
   cases h:Tryz.prog.info? 87 with
   | none=>rw[h]at this;cases this
   | some i=>rw[h]at this;simp at this;exact⟨i,rfl,this⟩
  obtain⟨news',g1,g2⟩:=(Src.row hrow (c:=yc)).asrc (P:=Tryz.prog) (i:=i0) (z:=wZero) (t2:=26) hzs Tryz.underlying26
  have hap:=fun ty=>append_own (P:=Tryz.prog) (e:=T0) (t:=26) (ty:=ty) Tryz.underlying26 hi0 hz0 hzs rfl (by omega) ho (v:= .slice a xs.length c) (nn:=xs.length) ⟨a,c,rfl,hnc,hac⟩ (Nat.zero_add _) g1 g2 rfl (by rw[hzb];exact hbig) m.zlt
  obtain⟨u,w',p',k1,k2,k3,k4,k5,k6,k7,k8,k9,_⟩:=hap 26
  refine(ins_end a _ xs.length c ys.length yc w w' u hm hnc fun ty=>k1).mono fun e w'' ⟨h1,h2⟩=>?_
  subst h1 h2
  have e2:xs.take xs.length++ys++xs.drop xs.length=xs.drop 0++ys:=by simp
  refine fin w'' p' u k2 k3 k4 k5 k6 k7 ?_ ?_
  ·rw[hlen]
   exact k8
  ·rw[e2]
   exact k9
 ·have hlt:i<xs.length:=by omega
  rcases hac with hc0|⟨b,s,m',rfl,rfl,hcm⟩
  ·omega
  obtain⟨o1,⟨cur,el,o2,o3⟩,o4,o5⟩:=ho
  have o3:s+m'*3≤cur.size:=o3
  obtain⟨olds,ho6,ho7⟩:=o5.cells
  rw[Nat.zero_mul,Nat.add_zero]
  have hol:olds.length=xs.length*3:=ho6.1
  have hvb:vb≠b:=fun e=>o4 (e▸hzv)
  have hdl:(olds.drop (i*3)).length=(xs.length-i)*3:=by rw[List.length_drop,hol];omega
  have htl:(olds.take (i*3)).length=i*3:=by rw[List.length_take];omega
  have hcells:CellsOf Z w T0 (xs.take i++ys++xs.drop i) (olds.take (i*3)++news++olds.drop (i*3)):=((ho6.take i (by omega)).append hn1).append (ho6.drop i)
  have hsrc: ∀{q:Nat} {v:Value},(olds.take (i*3)++news++olds.drop (i*3))[q]?=some v→(q<i*3∧olds[q]?=some v)∨(i*3≤q∧q<(i+ys.length)*3∧news[q-i*3]?=some v)∨((i+ys.length)*3≤q∧(olds.drop (i*3))[q-(i+ys.length)*3]?=some v):=by
   intro q v hq
   by_cases h1:q<i*3
   ·rw[List.append_assoc,List.getElem?_append_left (by omega),List.getElem?_take,if_pos h1]at hq
    exact .inl ⟨h1,hq⟩
   ·by_cases h2:q<(i+ys.length)*3
    ·rw[List.append_assoc,List.getElem?_append_right (by omega),htl,List.getElem?_append_left (by omega)]at hq
     exact .inr (.inl ⟨by omega,h2,hq⟩)
    ·rw[List.append_assoc,List.getElem?_append_right (by omega),htl,List.getElem?_append_right (by omega),hnl]at hq
     refine .inr (.inr ⟨by omega,?_⟩)
     rw[←hq]
     congr 1
     omega
  by_cases hroom:xs.length+ys.length≤c
  ·
   have hcurs: ∀t,t<(xs.length+ys.length)*3→(w.cell? ⟨b,s+t,none⟩).isSome=true:=fun t ht=>by
    have:s+t<cur.size:=by omega
    simp[World.cell?,o2,this]
   have hvcell:=hn2 0 _ (List.getElem?_eq_getElem (show 0<news.length by omega))
   obtain⟨cA,tA,fA,hA⟩: ∃cA tA fA,w.heap[vb]?=some (.cells cA tA fA):=by
    unfold World.cell? at hvcell
    split at hvcell
    ·exact⟨_,_,_,by assumption⟩
    ·cases hvcell
   have hkA:cA.size≠0:=fun h0=>by
    simp[World.cell?,hA]at hvcell
    have:=(Array.getElem?_eq_some_iff.1 hvcell).1
    omega
   refine(ins_shift b s xs.length c i vb vo ys.length yc olds news w hlt hm hroom hvb (by omega) hol hnl ho7 hcurs (fun q hq=>by simp[World.frozen?,o2]) hn2 ho6.2.2 hn1.2.2 hA o2 hkA (by omega)).mono fun e w' ⟨h1,h2⟩=>?_
   subst h1
   have q1:=sets_rest b (olds.drop (i*3)) (s+(i+ys.length)*3) w.drew
   have q2:=sets_rest b news (s+i*3) (w.drew.setCells b (s+(i+ys.length)*3) (olds.drop (i*3)))
   rw[←h2]at q2
   have hother: ∀b',b'≠b→w'.heap[b']?=w.heap[b']?:=fun b' hb'=>by
    rw[h2,sets_old _ _ _ _ hb',sets_old _ _ _ _ hb']
    rfl
   refine fin w' (some (b,s,m')) _ (q2.1.trans q1.1) (q2.2.1.trans q1.2.1) (q2.2.2.1.trans q1.2.2.1) (by rw[q2.2.2.2,q1.2.2.2];exact Nat.le_refl _) (fun b' _ hb'=>hother b' fun e=>hb' (by rw[e];rfl)) (fun b' hb'=> .inl hb') ?_ ?_
   ·rw[hlen]
    exact⟨_,c,rfl,by omega, .inr ⟨b,s,m',rfl,by rw[Nat.zero_mul,Nat.add_zero],hcm⟩⟩
   ·obtain⟨cur1,p1,p2⟩:=sets_blk (vs:=olds.drop (i*3)) (o:=s+(i+ys.length)*3) (w:=w.drew) o2
    obtain⟨cur2,p3,p4⟩:=sets_blk (vs:=news) (o:=s+i*3) p1
    rw[←h2]at p3
    refine⟨by rw[hlen];omega,⟨cur2,el,p3,by rw[p4,p2];exact o3⟩,o4,?_⟩
    have k:Kept Z w Z w':=⟨fun _ h=>h,fun b' hb'=>hother b' fun e=>o4 (e▸hb')⟩
    refine hcells.row k fun q v hq=>?_
    rw[h2]
    have hs1: ∀t,t<(olds.drop (i*3)).length→((w.drew).cell? ⟨b,s+(i+ys.length)*3+t,none⟩).isSome=true:=fun t ht=>by rw[Nat.add_assoc];exact hcurs _ (by omega)
    have hs2: ∀t,t<news.length→((w.drew.setCells b (s+(i+ys.length)*3) (olds.drop (i*3))).cell? ⟨b,s+i*3+t,none⟩).isSome=true:=fun t ht=>isSome_sets b _ _ _ hs1 _ (by rw[Nat.add_assoc];exact hcurs _ (by omega))
    rcases hsrc hq with ⟨h3,h4⟩|⟨h3,h4,h5⟩|⟨h3,h4⟩
    ·rw[World.cell?_setCells_out b _ _ _ _ fun _ _=>by left;show s+q<_;omega,World.cell?_setCells_out b _ _ _ _ fun _ _=>by left;show s+q<_;omega]
     exact ho7 q v h4
    ·have:=World.cell?_setCells_in b news (s+i*3) _ hs2 (q-i*3) (by omega)
     rw[show s+i*3+(q-i*3)=s+q by omega]at this
     rw[this, ←h5]
     exact(List.getElem?_eq_getElem _).symm
    ·have h6:=(List.getElem?_eq_some_iff.1 h4).1
     rw[World.cell?_setCells_out b _ _ _ _ fun _ _=>by right;show _≤s+q;omega]
     have:=World.cell?_setCells_in b (olds.drop (i*3)) (s+(i+ys.length)*3) w.drew hs1 (q-(i+ys.length)*3) h6
     rw[show s+(i+ys.length)*3+(q-(i+ys.length)*3)=s+q by omega]at this
     rw[this, ←h4]
     exact(List.getElem?_eq_getElem _).symm
  ·
   refine(ins_grow b s xs.length c i vb vo ys.length yc olds news w hlt hm hnc (by omega) hbig hol hnl ho7 hn2 ho6.2.2 hn1.2.2).mono fun e w' ⟨G,ROW,g1,g2,g3,h1,h2⟩=>?_
   subst h1
   have ha:(w.alloc (.cells ROW 87)).heap=w.heap.push (.cells ROW 87 (0,0)):=rfl
   have q0: ∀b',b'≠w.heap.size→w'.heap[b']?=w.heap[b']?:=fun b' hb'=>by
    rw[h2,sets_old _ _ _ _ hb']
    show((w.alloc (.cells ROW 87)).drew.setCells w.heap.size (i*3) news).heap[b']?=_
    rw[sets_old _ _ _ _ hb']
    show(w.alloc (.cells ROW 87)).heap[b']?=_
    rw[ha,Array.getElem?_push,if_neg hb']
   have q1:=sets_rest w.heap.size news (i*3) (w.alloc (.cells ROW 87)).drew
   have q2:=sets_rest w.heap.size (olds.drop (i*3)) ((i+ys.length)*3) (((w.alloc (.cells ROW 87)).drew.setCells w.heap.size (i*3) news).drew)
   rw[←h2]at q2
   have hsz:w'.heap.size=w.heap.size+1:=by
    rw[q2.2.2.2]
    show((w.alloc (.cells ROW 87)).drew.setCells w.heap.size (i*3) news).heap.size=_
    rw[q1.2.2.2]
    show(w.alloc (.cells ROW 87)).heap.size=_
    rw[ha,Array.size_push]
   have hnew:(w.alloc (.cells ROW 87)).drew.heap[w.heap.size]?=some (.cells ROW 87 (0,0)):=by
    show(w.alloc (.cells ROW 87)).heap[w.heap.size]?=_
    rw[ha,Array.getElem?_push,if_pos rfl]
   refine fin w' (some (w.heap.size,0,G)) _ (q2.1.trans q1.1) (q2.2.1.trans q1.2.1) (q2.2.2.1.trans q1.2.2.1) (by omega) (fun b' hb' _=>q0 b' (by omega)) (fun b' hb'=> .inr (Nat.le_of_eq (show b'=w.heap.size from hb').symm)) ?_ ?_
   ·rw[hlen]
    exact⟨_,G,rfl,g1, .inr ⟨_,_,_,rfl,by rw[Nat.zero_mul,Nat.add_zero],by omega⟩⟩
   ·obtain⟨cur1,p1,p2⟩:=sets_blk (vs:=news) (o:=i*3) hnew
    obtain⟨cur2,p3,p4⟩:=sets_blk (vs:=olds.drop (i*3)) (o:=(i+ys.length)*3) (w:=((w.alloc (.cells ROW 87)).drew.setCells w.heap.size (i*3) news).drew) p1
    rw[←h2]at p3
    refine⟨by rw[hlen];exact g1,⟨cur2,87,p3,by rw[p4,p2,g2,Nat.zero_add];exact Nat.le_refl _⟩,fun h=>Nat.lt_irrefl _ (m.zlt _ h),?_⟩
    have k:Kept Z w Z w':=⟨fun _ h=>h,fun b' hb'=>q0 b' (by have:=m.zlt _ hb';omega)⟩
    refine hcells.row k fun q v hq=>?_
    rw[Nat.zero_add,h2]
    have hcell0: ∀q,(w.alloc (.cells ROW 87)).drew.cell? ⟨w.heap.size,q,none⟩=ROW[q]?:=fun q=>World.cell?_alloc_at (w:=w) ROW 87 w.heap.size q rfl
    have hs1: ∀t,t<news.length→((w.alloc (.cells ROW 87)).drew.cell? ⟨w.heap.size,i*3+t,none⟩).isSome=true:=fun t ht=>by
     rw[hcell0,Array.getElem?_eq_getElem (by omega)]
     rfl
    have hs2: ∀t,t<(olds.drop (i*3)).length→((((w.alloc (.cells ROW 87)).drew.setCells w.heap.size (i*3) news).drew).cell? ⟨w.heap.size,(i+ys.length)*3+t,none⟩).isSome=true:=fun t ht=>by
     show(((w.alloc (.cells ROW 87)).drew.setCells w.heap.size (i*3) news).cell? _).isSome=true
     refine isSome_sets _ _ _ _ hs1 _ ?_
     rw[hcell0,Array.getElem?_eq_getElem (by omega)]
     rfl
    rcases hsrc hq with ⟨h3,h4⟩|⟨h3,h4,h5⟩|⟨h3,h4⟩
    ·rw[World.cell?_setCells_out _ _ _ _ _ fun _ _=>by left;show q<_;omega]
     show((w.alloc (.cells ROW 87)).drew.setCells w.heap.size (i*3) news).cell? _=_
     rw[World.cell?_setCells_out _ _ _ _ _ fun _ _=>by left;show q<_;omega,hcell0,g3 q h3]
     exact h4
    ·rw[World.cell?_setCells_out _ _ _ _ _ fun _ _=>by left;show q<_;omega]
     show((w.alloc (.cells ROW 87)).drew.setCells w.heap.size (i*3) news).cell? _=_
     have:=World.cell?_setCells_in w.heap.size news (i*3) _ hs1 (q-i*3) (by omega)
     rw[show i*3+(q-i*3)=q by omega]at this
     rw[this, ←h5]
     exact(List.getElem?_eq_getElem _).symm
    ·have h6:=(List.getElem?_eq_some_iff.1 h4).1
     have:=World.cell?_setCells_in w.heap.size (olds.drop (i*3)) ((i+ys.length)*3) _ hs2 (q-(i+ys.length)*3) h6
     rw[show(i+ys.length)*3+(q-(i+ys.length)*3)=q by omega]at this
     rw[this, ←h4]
     exact(List.getElem?_eq_getElem _).symm
end Go.Proofs.YtkeiedikiiccpaaGreatDoor.Am
