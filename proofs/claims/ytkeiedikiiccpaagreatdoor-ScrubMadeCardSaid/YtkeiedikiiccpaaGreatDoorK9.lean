/- A part of the proof of ScrubMade: lemmas. No conditions beyond those of each lemma. -/
import Derived.Test.YtkeiedikiiccpaaGreatDoorK8
import Derived.Below
import Derived.Carry
import Derived.RowKit
import Derived.ChangeOld
import Derived.ChangeShapes
import Derived.WideShapes
import Derived.MakeChecks
import Derived.FnData
import Derived.Test.YtkeiedikiiccpaaGreatDoorProg
import Derived.RangeFuncNested
import Derived.RangeFuncBound
import Derived.RangeFuncCalls
import Derived.RangeFuncLeaves
import Derived.RangeFuncBox
import Derived.Shelf.Abstract
import Derived.Shelf.RegionOpen
import Derived.WalkKit
import Derived.OwnWalkIn
import Derived.TacticsInMore
import Derived.LoopNIn
import Derived.LoopIn
import Derived.Test.YtkeiedikiiccpaaGreatDoorK1
import Derived.Deep.RegionLaw
import Derived.Lib.SliceRun
import Derived.Lib.AppendZeros
import Derived.Lib.Overlaps
import Derived.Shelf.Spec.SlicesInsert
import Derived.Lib.AppendZerosOnto
import Derived.Laws.NewBlocks
set_option linter.all false
namespace Go.Proofs.YtkeiedikiiccpaaGreatDoor.Am
open Go Go.RowKit Go.ChangeShapes
abbrev Zw (W:World):Nat→Prop:=fun b=>b<W.heap.size
theorem run_law {P:Program} {gv:Nat→AV} {f:FuncId} {sp:Spec} (I:Impl P gv f sp) {av:AV} (h:sp.run av [] some=some { ret:= .p .bool true,objs:=[] }) {W:World} {vs:Array Value}
  (hv:VR (Zw W) W (fun _=> .un) av vs.toList) (il:isL av=true) (hg: ∀g,VR (Zw W) W (fun _=> .un) (gv g) [.pointer (some ⟨g,0,none⟩)]):
  Calls P f vs W fun e W'=>e= .returned (.bool true)∧Below W.heap.size W W':=by
 obtain⟨fr,h1,_,h3⟩:=I.run av [] some _ h
 cases h1
 have m:MR gv (Zw W) W (fun _=> .un) (obsF []):=⟨fun h e=>absurd rfl e,fun _ _=>rfl,fun h h' b hb _=>hb.elim,fun _ h=>h,hg⟩
 refine Calls.mono (h3 (Zw W) W (fun _=> .un) vs hv il m fun i=>⟨fun _=>Nat.zero_le _,fun _=>rfl⟩) fun e W' hr=>?_
 cases e with
 | returned v=>
  obtain⟨Z',σ',h4,_,h5,_⟩:=hr
  refine⟨by rw[h4.boolp],h5.os,h5.tape,h5.out,h5.size,fun k hk=>h5.same k hk fun ho=>?_⟩
  obtain⟨h,hb⟩:=ho
  exact hb.elim
 | panicked _=>exact hr.elim
 | outgrown=>exact hr.elim
section
variable {H:Type} {enc:TypeId×Value→H} {P:Program} {W W':World}
theorem trodAll_below (hl:laidOutB P=true) (hb:Below W.heap.size W W'): ∀{ts:List TypeId} {vs:List Value} {ds:List (DataW H)} {ps:List MemPlace},
  (∀t∈ts,P.readableRec t=true∧t<P.types.size)→DataW.TrodAll enc P W 0 (fun _=>true) true ts vs ds ps→(∀x∈ps,x.block<W.heap.size)→DataW.TrodAll enc P W' 0 (fun b=>decide (b<W.heap.size)) true ts vs ds ps
 | [],[],[],_,_,h,_=>h
 | t::ts,v::vs,d::ds,ps,ht,h,hp=>by
  obtain⟨p,q,h1,h2,rfl⟩:=h
  have h3:=ht t (by simp)
  exact⟨p,q,Below.trod hl h3.1 h3.2 h1 hb fun x hx=>hp x (by simp[hx]),trodAll_below hl hb (fun t h=>ht t (by simp[h])) h2 fun x hx=>hp x (by simp[hx]),rfl⟩
 | [],_::_,_,_,_,h,_=>h.elim
 | [],[],_::_,_,_,h,_=>h.elim
 | _::_,[],_,_,_,h,_=>h.elim
 | _::_,_::_,[],_,_,h,_=>h.elim
theorem law_post {f:Func} {s:ChangeSpec} {apart fresh handsOn:Bool} {args:Array Value} {ds gs:List (DataW H)} {before:List MemPlace} {tb:TypeId} (hl:laidOutB P=true) (hs:s.vars=[])
  (hW:DataW.Whole enc P f.params.toList s.vars apart W args.toList ds gs before) (hfn:s.fn H (ds++gs)={ results:=[.lit (.bool true)],args:=ds })
  (hr:f.resultTypes= #[tb]) (hub:P.underlying tb=some .bool) (hp: ∀t∈f.params.toList,P.readableRec t=true∧t<P.types.size) (hb:Below W.heap.size W W'):
  s.post enc P f apart fresh handsOn false W args (.bool true) W':=by
 have hW':=hW
 obtain⟨p,q,hA,hV,rfl,_,_⟩:=hW'
 refine⟨ds,gs,p++q,[],p,[],hW,?_,?_,?_,hb.frame _,fun h=>by cases h⟩
 ·rw[hfn,hr]
  exact trodAll_mk1 (shut_bool hub true)
 ·rw[hfn]
  exact trodAll_below hl hb hp hA fun x hx=>hW.lt x (by simp[hx])
 ·rw[hfn,hs]
  rfl
end
end Go.Proofs.YtkeiedikiiccpaaGreatDoor.Am
namespace Go.Proofs.YtkeiedikiiccpaaGreatDoor.Am
open Go Go.RowKit Go.ChangeShapes
section
variable {H:Type} {enc:TypeId×Value→H} {P:Program} {W:World} {r:_root_.Go.Reach} {base b0:Nat} {spare:Nat→Bool} {held:Bool} {t:TypeId} {v:Value} {d:DataW H} {ps:List MemPlace} {σ:Nat→Sh} {m:Nat}
def tyIs (P:Program) (m:Nat) (t:TypeId) (e:Ty):Prop:=(cellsTy P m t).map prOf=some e
theorem tyIs_spec {e:Ty} (h:tyIs P m t e): ∃l,cellsTy P m t=some l∧prOf l=e:=by
 obtain⟨l,h1,h2⟩:=Option.map_eq_some_iff.1 h
 exact⟨l,h1,h2⟩
theorem arg_slice {te:TypeId} {e:Ty} (hu:P.underlying t=some (.slice te)) (he:tyIs P m t (.sl e)) (hval:Value.okWide P W r b0 t v) (h:DataW.Trod enc P W base spare held t v d ps) (hz: ∀n∈d.weights P t,n≤reachBytes):
  ∃x:List e.den,VR (Zw W) W σ (.p (.sl e) x) [v]∧tyOk (.sl e) x:=by
 obtain⟨l,h1,h4⟩:=tyIs_spec he
 obtain⟨a,n,c,rfl⟩:=WideShapes.okWide_slice hu hval
 obtain⟨fuel,hf⟩:=h
 obtain⟨x,h2,h3⟩:=(trod_PVL hf h1 hz).pr
 revert x
 rw[h4]
 intro x h2 h3
 exact⟨x,⟨rfl,h2⟩,h3⟩
end
end Go.Proofs.YtkeiedikiiccpaaGreatDoor.Am
namespace Go.Proofs.YtkeiedikiiccpaaGreatDoor.Am
open Go Go.RowKit Go.ChangeShapes
mutual
def litsOf {H:Type}:DataW H→Option (List Value)
 | .lit (.bool b)=>some [.bool b]
 | .lit (.int k n)=>some [.int k n]
 | .agg ps=>litsAll ps
 | _=>none
def litsAll {H:Type}:List (DataW H)→Option (List Value)
 | []=>some []
 | d::r=>match litsOf d,litsAll r with
  | some a,some b=>some (a++b)
  | _,_=>none
end
def arrN (P:Program):Nat→TypeId→Bool
 | 0,_=>false
 | d+1,t=>match P.underlying t with
  | some (.int _)=>true
  | some .bool=>true
  | some (.array n e)=>arrN P d e&&decide (n*P.cellsOf e=P.cellsOf t)
  | _=>false
section
variable {H:Type} {enc:TypeId×Value→H} {P:Program} {w:World} {base:Nat} {spare:Nat→Bool} {held:Bool}
theorem lits_parts {cs:List Value} {c:Nat}: ∀{xs:List (DataW H×List MemPlace)} {o:Nat} {vs:List Value},
  (∀i (x:DataW H×List MemPlace),xs[i]?=some x→ ∀ws,litsOf x.1=some ws→(cs.drop (o+i*c)).take c=ws)→litsAll (xs.map (·.1))=some vs→(cs.drop o).take (xs.length*c)=vs
 | [],o,vs,_,h=>by
  simp only[List.map_nil,litsAll,Option.some.injEq]at h
  simp[←h]
 | x::xs,o,vs,hx,h=>by
  simp only[List.map_cons,litsAll]at h
  split at h
  case h_2=>cases h
  rename_i a b ha hb
  cases h
  have h1:=hx 0 x rfl a ha
  have h2:=lits_parts (xs:=xs) (o:=o+c) (fun i y hy ws hw=>by
   have:=hx (i+1) y (by simpa using hy) ws hw
   rw[Nat.succ_mul]at this
   rwa[show o+c+i*c=o+(i*c+c) by omega]) hb
  rw[Nat.zero_mul,Nat.add_zero]at h1
  rw[List.length_cons,Nat.succ_mul,Nat.add_comm (xs.length*c),take_split,h1,h2]
theorem lits_eq: ∀{m fuel:Nat} {t:TypeId} {cs:List Value} {r:DataW H×List MemPlace} {vs:List Value},DataW.trod enc P w base spare held fuel t cs=some r→arrN P m t=true→litsOf r.1=some vs→cs=vs
 | 0,_,_,_,_,_,_,h,_=>by cases h
 | m+1,fuel,t,cs,r,vs,h,ha,hv=>by
  unfold arrN at ha
  split at ha
  ·rename_i k hu
   obtain⟨n,rfl,rfl,_⟩:=DataW.trod_int hu h
   simpa[litsOf]using hv
  ·rename_i hu
   obtain⟨b,rfl,rfl⟩:=DataW.trod_bool hu h
   simpa[litsOf]using hv
  ·rename_i n e hu
   simp only[Bool.and_eq_true,decide_eq_true_eq]at ha
   obtain⟨xs,q,_,rfl,hlen,hxs,hf⟩:=DataW.trod_array hu h
   simp only[litsOf]at hv
   have h1:=lits_parts (cs:=cs) (c:=P.cellsOf e) (o:=0) (fun i x hx ws hw=>by
    have hi:i<n:=by
     have:=(List.getElem?_eq_some_iff.1 hx).1
     omega
    have h2:=hf i hi
    rw[hx]at h2
    rw[Nat.zero_add]
    exact lits_eq h2 ha.1 hw) hv
   rw[List.drop_zero,List.take_of_length_le (by rw[hxs];omega)]at h1
   exact h1
  ·cases ha
theorem laid_cells {n:String} {d:DataW Unit} {l:List (String×DataW Unit)} {m g:Nat} {t:TypeId} {vs:List Value} (h:laidMet P ((n,d)::l) w) (hg:P.globalNamed n=some g) (ht:(P.globals[g]?).map (·.type)=some t) (ha:arrN P m t=true) (hv:litsOf d=some vs):
  ∃cs,w.var? P n=some cs∧cs.toList=vs:=by
 obtain⟨ps,h1,_⟩:=h
 obtain⟨g',t',cs,fuel,p,q,e1,e2,e3,e4,_⟩:=h1
 rw[hg]at e1
 cases e1
 rw[ht]at e2
 cases e2
 exact⟨cs,e3,lits_eq e4 ha hv⟩
end
theorem gl_bools {P:Program} {w:World} {σ:Nat→Sh} {n:String} {g:Nat} {xs:List Bool} {cs:Array Value} (hg:P.globalNamed n=some g) (h:w.var? P n=some cs) (hc:cs.toList=xs.map fun b=>Value.bool b) (hx:0<xs.length):
  VR (Zw w) w σ (.rl .bool xs 0 0) [.pointer (some ⟨g,0,none⟩)]:=by
 have hcell: ∀i b,xs[i]?=some b→w.cell? ⟨g,i,none⟩=some (.bool b):=fun i b hb=>by
  rw[World.var?_cell hg h i, ←Array.getElem?_toList,hc,List.getElem?_map,hb]
  rfl
 refine⟨g,0,by simp,?_,hx,fun i b hb=>⟨[.bool b],rfl,fun j v hj=>?_⟩⟩
 ·simp only[World.var?,hg,Option.bind_some]at h
  split at h
  ·rename_i e
   exact(Array.getElem?_eq_some_iff.1 e).1
  ·cases h
 ·have hj0:j=0:=by
   have:=(List.getElem?_eq_some_iff.1 hj).1
   simp at this
   omega
  subst hj0
  simp at hj
  subst hj
  simpa[Ty.sz]using hcell i b hb
set_option maxRecDepth 100000
noncomputable abbrev T0:Ty:= .pr tI (.pr (.sl tY) (.bool))
abbrev DT0:Type:=Int×(List Int)×Bool
abbrev zT0:DT0:=((0:Int),([]:List Int),false)
noncomputable abbrev T1:Ty:= .pr tI (.pr tI (.pr tI (.pr tI (.pr tI (.pr tI (.pr tI (.pr tI (.pr tY (.pr tY (.bool))))))))))
abbrev DT1:Type:=Int×Int×Int×Int×Int×Int×Int×Int×Int×Int×Bool
abbrev zT1:DT1:=((0:Int),(0:Int),(0:Int),(0:Int),(0:Int),(0:Int),(0:Int),(0:Int),(0:Int),(0:Int),false)
noncomputable abbrev T2:Ty:= .pr tI (.pr tI (.pr tI (.pr tI (.pr tI (.pr tI (.pr tI (.pr tI (.pr tI (.pr tI (.pr (.sl T0) ((.sl T1))))))))))))
abbrev DT2:Type:=Int×Int×Int×Int×Int×Int×Int×Int×Int×Int×(List DT0)×(List DT1)
abbrev zT2:DT2:=((0:Int),(0:Int),(0:Int),(0:Int),(0:Int),(0:Int),(0:Int),(0:Int),(0:Int),(0:Int),([]:List DT0),([]:List DT1))
noncomputable abbrev T3:Ty:= .pr tI (tI)
abbrev DT3:Type:=Int×Int
noncomputable abbrev T4:Ty:= .pr tI (.pr tI (.pr tI (.pr tI (.pr tI (tI)))))
abbrev DT4:Type:=Int×Int×Int×Int×Int×Int
noncomputable abbrev T5:Ty:= .pr tI (.pr tI (.pr tI (tI)))
abbrev DT5:Type:=Int×Int×Int×Int
noncomputable abbrev T6:Ty:= .pr tI (.pr tI (.pr (.sl tY) ((.sl tI))))
abbrev DT6:Type:=Int×Int×(List Int)×(List Int)
abbrev zT6:DT6:=((0:Int),(0:Int),([]:List Int),([]:List Int))
noncomputable abbrev T7:Ty:= .pr .bool (.pr .bool (.pr .bool (.pr .bool (.pr .bool (.bool)))))
abbrev DT7:Type:=Bool×Bool×Bool×Bool×Bool×Bool
noncomputable abbrev T8:Ty:= .pr tI (.pr (.sl tY) ((.sl tI)))
abbrev DT8:Type:=Int×(List Int)×(List Int)
noncomputable abbrev T9:Ty:= .pr (.sl tI) (tI)
abbrev DT9:Type:=(List Int)×Int
noncomputable abbrev T10:Ty:= .pr .bool (.pr .bool (.pr .bool (.pr .bool (.pr .bool (.pr .bool (.pr .bool (.pr .bool (.pr .bool (.pr .bool (.pr .bool (.pr .bool (.pr .bool (.pr .bool (.pr .bool (.pr .bool (.pr .bool (.pr .bool (.pr .bool (.pr .bool (.pr .bool (.pr .bool (.pr .bool (.pr .bool (.pr .bool (.pr .bool (.pr .bool (.pr .bool (.pr .bool (.pr .bool (.pr .bool (.pr .bool (.pr .bool (.pr .bool (.pr .bool (.pr .bool (.pr .bool (.pr .bool (.pr .bool (.pr .bool (.pr .bool (.bool)))))))))))))))))))))))))))))))))))))))))
noncomputable abbrev T11:Ty:= .pr .bool (.pr .bool (.pr .bool (.pr .bool (.pr .bool (.pr .bool (.pr .bool (.pr .bool (.pr .bool (.pr .bool (.pr .bool (.pr .bool (.pr .bool (.pr .bool (.pr .bool (.pr .bool (.pr .bool (.pr .bool (.pr .bool (.pr .bool (.pr .bool (.pr .bool (.pr .bool (.pr .bool (.pr .bool (.pr .bool (.pr .bool (.pr .bool (.pr .bool (.pr .bool (.pr .bool (.pr .bool (.pr .bool (.pr .bool (.pr .bool (.pr .bool (.pr .bool (.pr .bool (.pr .bool (.pr .bool (.pr .bool (.pr .bool (.pr .bool (.pr .bool (.pr .bool (.pr .bool (.pr .bool (.pr .bool (.pr .bool (.pr .bool (.pr .bool (.pr .bool (.pr .bool (.pr .bool (.pr .bool (.pr .bool (.pr .bool (.pr .bool (.pr .bool (.pr .bool (.pr .bool (.pr .bool (.pr .bool (.pr .bool (.pr .bool (.pr .bool (.pr .bool (.pr .bool (.pr .bool (.pr .bool (.pr .bool (.pr .bool (.pr .bool (.pr .bool (.pr .bool (.pr .bool (.pr .bool (.pr .bool (.pr .bool (.pr .bool (.pr .bool (.pr .bool (.pr .bool (.pr .bool (.pr .bool (.pr .bool (.pr .bool (.pr .bool (.pr .bool (.pr .bool (.pr .bool (.pr .bool (.pr .bool (.pr .bool (.pr .bool (.pr .bool (.pr .bool (.pr .bool (.pr .bool (.pr .bool (.pr .bool (.pr .bool (.pr .bool (.pr .bool (.pr .bool (.pr .bool (.pr .bool (.pr .bool (.pr .bool (.pr .bool (.pr .bool (.pr .bool (.pr .bool (.pr .bool (.pr .bool (.pr .bool (.pr .bool (.pr .bool (.pr .bool (.pr .bool (.pr .bool (.pr .bool (.pr .bool (.pr .bool (.pr .bool (.pr .bool (.pr .bool (.pr .bool (.pr .bool (.pr .bool (.pr .bool (.pr .bool (.pr .bool (.pr .bool (.pr .bool (.pr .bool (.pr .bool (.pr .bool (.pr .bool (.pr .bool (.pr .bool (.pr .bool (.pr .bool (.pr .bool (.pr .bool (.pr .bool (.pr .bool (.pr .bool (.pr .bool (.pr .bool (.pr .bool (.pr .bool (.pr .bool (.pr .bool (.pr .bool (.pr .bool (.pr .bool (.pr .bool (.pr .bool (.pr .bool (.pr .bool (.pr .bool (.pr .bool (.pr .bool (.pr .bool (.pr .bool (.pr .bool (.pr .bool (.pr .bool (.pr .bool (.pr .bool (.pr .bool (.pr .bool (.pr .bool (.pr .bool (.pr .bool (.pr .bool (.pr .bool (.pr .bool (.pr .bool (.pr .bool (.pr .bool (.pr .bool (.pr .bool (.pr .bool (.pr .bool (.pr .bool (.pr .bool (.pr .bool (.pr .bool (.pr .bool (.pr .bool (.pr .bool (.pr .bool (.pr .bool (.pr .bool (.pr .bool (.pr .bool (.pr .bool (.pr .bool (.pr .bool (.pr .bool (.pr .bool (.pr .bool (.pr .bool (.pr .bool (.pr .bool (.pr .bool (.pr .bool (.pr .bool (.pr .bool (.pr .bool (.pr .bool (.pr .bool (.pr .bool (.pr .bool (.pr .bool (.pr .bool (.pr .bool (.pr .bool (.pr .bool (.pr .bool (.pr .bool (.pr .bool (.pr .bool (.pr .bool (.pr .bool (.pr .bool (.pr .bool (.pr .bool (.pr .bool (.pr .bool (.pr .bool (.pr .bool (.pr .bool (.pr .bool (.pr .bool (.pr .bool (.pr .bool (.pr .bool (.pr .bool (.pr .bool (.pr .bool (.pr .bool (.pr .bool (.pr .bool (.pr .bool (.pr .bool (.pr .bool (.pr .bool (.pr .bool (.pr .bool (.pr .bool (.pr .bool (.pr .bool (.bool)))))))))))))))))))))))))))))))))))))))))))))))))))))))))))))))))))))))))))))))))))))))))))))))))))))))))))))))))))))))))))))))))))))))))))))))))))))))))))))))))))))))))))))))))))))))))))))))))))))))))))))))))))))))))))))))))))))))))))))))))))))))))))))))
noncomputable def y3:TI:={ u:= .int .i64,size:=1,bytes:=8,z:= .cn (pI 0) .e0,ec:=tI,ab:=none,cq:=false }
noncomputable def y4:TI:={ u:= .bool,size:=1,bytes:=1,z:= .cn (pB false) .e0,ec:= .bool,ab:=none,cq:=false }
noncomputable def y5:TI:={ u:= .int .u8,size:=1,bytes:=1,z:= .cn (pY 0) .e0,ec:=tY,ab:=none,cq:=false }
noncomputable def y9:TI:={ u:= .str,size:=1,bytes:=16,z:= .cn (.p .str (ByteArray.empty:ByteArray)) .e0,ec:= .str,ab:=none,cq:=false }
noncomputable def y23:TI:={ u:= .st [(0,3),(1,3),(2,3),(3,3),(4,3),(5,3)],size:=6,bytes:=48,z:= .cn (pI 0) (.cn (pI 0) (.cn (pI 0) (.cn (pI 0) (.cn (pI 0) (.cn (pI 0) .e0))))),ec:=T4,ab:=none,cq:=true }
noncomputable def y25:TI:={ u:= .st [(0,3),(1,3),(2,3),(3,3)],size:=4,bytes:=32,z:= .cn (pI 0) (.cn (pI 0) (.cn (pI 0) (.cn (pI 0) .e0))),ec:=T5,ab:=none,cq:=true }
noncomputable def y26:TI:={ u:= .sl 87,size:=1,bytes:=24,z:= .cn (.nil) .e0,ec:=(.sl T0),ab:=none,cq:=false }
noncomputable def y27:TI:={ u:= .sl 61,size:=1,bytes:=24,z:= .cn (.nil) .e0,ec:=(.sl T1),ab:=none,cq:=false }
noncomputable def y29:TI:={ u:= .st [(0,23),(6,25),(10,26),(11,27)],size:=12,bytes:=128,z:= .cn (pI 0) (.cn (pI 0) (.cn (pI 0) (.cn (pI 0) (.cn (pI 0) (.cn (pI 0) (.cn (pI 0) (.cn (pI 0) (.cn (pI 0) (.cn (pI 0) (.cn (.nil) (.cn (.nil) .e0))))))))))),ec:=T2,ab:=none,cq:=false }
noncomputable def y30:TI:={ u:= .ar 2 3,size:=2,bytes:=16,z:= .cn (pI 0) (.cn (pI 0) .e0),ec:=T3,ab:=(some (tI,2)),cq:=false }
noncomputable def y31:TI:={ u:= .sl 3,size:=1,bytes:=24,z:= .cn (.nil) .e0,ec:=(.sl tI),ab:=none,cq:=false }
noncomputable def y36:TI:={ u:= .pt 71,size:=1,bytes:=8,z:= .cn (.k (.pointer none)) .e0,ec:= .un,ab:=none,cq:=false }
noncomputable def y40:TI:={ u:= .fn,size:=1,bytes:=8,z:= .cn (.k (.nilFunc)) .e0,ec:= .un,ab:=none,cq:=false }
noncomputable def y43:TI:={ u:= .sl 5,size:=1,bytes:=24,z:= .cn (.nil) .e0,ec:=(.sl tY),ab:=none,cq:=false }
noncomputable def y45:TI:={ u:= .st [(0,3),(1,43),(2,31)],size:=3,bytes:=56,z:= .cn (pI 0) (.cn (.nil) (.cn (.nil) .e0)),ec:=T8,ab:=none,cq:=false }
noncomputable def y46:TI:={ u:= .int .i64,size:=1,bytes:=8,z:= .cn (pI 0) .e0,ec:=tI,ab:=none,cq:=false }
noncomputable def y59:TI:={ u:= .st [(0,3),(1,3),(2,3),(3,3),(4,3),(5,3)],size:=6,bytes:=48,z:= .cn (pI 0) (.cn (pI 0) (.cn (pI 0) (.cn (pI 0) (.cn (pI 0) (.cn (pI 0) .e0))))),ec:=T4,ab:=none,cq:=true }
noncomputable def y61:TI:={ u:= .st [(0,3),(1,59),(7,3),(8,5),(9,5),(10,4)],size:=11,bytes:=72,z:= .cn (pI 0) (.cn (pI 0) (.cn (pI 0) (.cn (pI 0) (.cn (pI 0) (.cn (pI 0) (.cn (pI 0) (.cn (pI 0) (.cn (pY 0) (.cn (pY 0) (.cn (pB false) .e0)))))))))),ec:=T1,ab:=none,cq:=true }
noncomputable def y62:TI:={ u:= .sl 66,size:=1,bytes:=24,z:= .cn (.nil) .e0,ec:=(.sl T6),ab:=none,cq:=false }
noncomputable def y66:TI:={ u:= .st [(0,3),(1,45)],size:=4,bytes:=64,z:= .cn (pI 0) (.cn (pI 0) (.cn (.nil) (.cn (.nil) .e0))),ec:=T6,ab:=none,cq:=false }
noncomputable def y71:TI:={ u:= .st [(0,31),(1,3)],size:=2,bytes:=32,z:= .cn (.nil) (.cn (pI 0) .e0),ec:=T9,ab:=none,cq:=false }
noncomputable def y78:TI:={ u:= .int .u64,size:=1,bytes:=8,z:= .cn (pU 0) .e0,ec:=tU,ab:=none,cq:=false }
noncomputable def y84:TI:={ u:= .pt 29,size:=1,bytes:=8,z:= .cn (.k (.pointer none)) .e0,ec:= .un,ab:=none,cq:=false }
noncomputable def y87:TI:={ u:= .st [(0,3),(1,43),(2,4)],size:=3,bytes:=40,z:= .cn (pI 0) (.cn (.nil) (.cn (pB false) .e0)),ec:=T0,ab:=none,cq:=false }
noncomputable def y96:TI:={ u:= .ar 6 3,size:=6,bytes:=48,z:= .cn (pI 0) (.cn (pI 0) (.cn (pI 0) (.cn (pI 0) (.cn (pI 0) (.cn (pI 0) .e0))))),ec:=T4,ab:=(some (tI,6)),cq:=false }
noncomputable def y114:TI:={ u:= .st [(0,3),(1,43),(2,31)],size:=3,bytes:=56,z:= .cn (pI 0) (.cn (.nil) (.cn (.nil) .e0)),ec:=T8,ab:=none,cq:=false }
noncomputable def y117:TI:={ u:= .fn,size:=1,bytes:=8,z:= .cn (.k (.nilFunc)) .e0,ec:= .un,ab:=none,cq:=false }
noncomputable def y118:TI:={ u:= .ar 6 4,size:=6,bytes:=6,z:= .cn (pB false) (.cn (pB false) (.cn (pB false) (.cn (pB false) (.cn (pB false) (.cn (pB false) .e0))))),ec:=T7,ab:=(some (.bool,6)),cq:=false }
noncomputable def y130:TI:={ u:= .fn,size:=1,bytes:=8,z:= .cn (.k (.nilFunc)) .e0,ec:= .un,ab:=none,cq:=false }
noncomputable def y131:TI:={ u:= .ar 7 118,size:=42,bytes:=42,z:= .cn (pB false) (.cn (pB false) (.cn (pB false) (.cn (pB false) (.cn (pB false) (.cn (pB false) (.cn (pB false) (.cn (pB false) (.cn (pB false) (.cn (pB false) (.cn (pB false) (.cn (pB false) (.cn (pB false) (.cn (pB false) (.cn (pB false) (.cn (pB false) (.cn (pB false) (.cn (pB false) (.cn (pB false) (.cn (pB false) (.cn (pB false) (.cn (pB false) (.cn (pB false) (.cn (pB false) (.cn (pB false) (.cn (pB false) (.cn (pB false) (.cn (pB false) (.cn (pB false) (.cn (pB false) (.cn (pB false) (.cn (pB false) (.cn (pB false) (.cn (pB false) (.cn (pB false) (.cn (pB false) (.cn (pB false) (.cn (pB false) (.cn (pB false) (.cn (pB false) (.cn (pB false) (.cn (pB false) .e0))))))))))))))))))))))))))))))))))))))))),ec:=T10,ab:=(some (.bool,42)),cq:=false }
noncomputable def y162:TI:={ u:= .fn,size:=1,bytes:=8,z:= .cn (.k (.nilFunc)) .e0,ec:= .un,ab:=none,cq:=false }
noncomputable def y170:TI:={ u:= .sl 43,size:=1,bytes:=24,z:= .cn (.nil) .e0,ec:=(.sl (.sl tY)),ab:=none,cq:=false }
noncomputable def y179:TI:={ u:= .int .u32,size:=1,bytes:=4,z:= .cn (.p tU32 (0:Int)) .e0,ec:=tU32,ab:=none,cq:=false }
noncomputable def y181:TI:={ u:= .int .u64,size:=1,bytes:=8,z:= .cn (pU 0) .e0,ec:=tU,ab:=none,cq:=false }
noncomputable def y186:TI:={ u:= .fn,size:=1,bytes:=8,z:= .cn (.k (.nilFunc)) .e0,ec:= .un,ab:=none,cq:=false }
noncomputable def y196:TI:={ u:= .int .i64,size:=1,bytes:=8,z:= .cn (pI 0) .e0,ec:=tI,ab:=none,cq:=false }
noncomputable def y204:TI:={ u:= .ar 256 4,size:=256,bytes:=256,z:= .cn (pB false) (.cn (pB false) (.cn (pB false) (.cn (pB false) (.cn (pB false) (.cn (pB false) (.cn (pB false) (.cn (pB false) (.cn (pB false) (.cn (pB false) (.cn (pB false) (.cn (pB false) (.cn (pB false) (.cn (pB false) (.cn (pB false) (.cn (pB false) (.cn (pB false) (.cn (pB false) (.cn (pB false) (.cn (pB false) (.cn (pB false) (.cn (pB false) (.cn (pB false) (.cn (pB false) (.cn (pB false) (.cn (pB false) (.cn (pB false) (.cn (pB false) (.cn (pB false) (.cn (pB false) (.cn (pB false) (.cn (pB false) (.cn (pB false) (.cn (pB false) (.cn (pB false) (.cn (pB false) (.cn (pB false) (.cn (pB false) (.cn (pB false) (.cn (pB false) (.cn (pB false) (.cn (pB false) (.cn (pB false) (.cn (pB false) (.cn (pB false) (.cn (pB false) (.cn (pB false) (.cn (pB false) (.cn (pB false) (.cn (pB false) (.cn (pB false) (.cn (pB false) (.cn (pB false) (.cn (pB false) (.cn (pB false) (.cn (pB false) (.cn (pB false) (.cn (pB false) (.cn (pB false) (.cn (pB false) (.cn (pB false) (.cn (pB false) (.cn (pB false) (.cn (pB false) (.cn (pB false) (.cn (pB false) (.cn (pB false) (.cn (pB false) (.cn (pB false) (.cn (pB false) (.cn (pB false) (.cn (pB false) (.cn (pB false) (.cn (pB false) (.cn (pB false) (.cn (pB false) (.cn (pB false) (.cn (pB false) (.cn (pB false) (.cn (pB false) (.cn (pB false) (.cn (pB false) (.cn (pB false) (.cn (pB false) (.cn (pB false) (.cn (pB false) (.cn (pB false) (.cn (pB false) (.cn (pB false) (.cn (pB false) (.cn (pB false) (.cn (pB false) (.cn (pB false) (.cn (pB false) (.cn (pB false) (.cn (pB false) (.cn (pB false) (.cn (pB false) (.cn (pB false) (.cn (pB false) (.cn (pB false) (.cn (pB false) (.cn (pB false) (.cn (pB false) (.cn (pB false) (.cn (pB false) (.cn (pB false) (.cn (pB false) (.cn (pB false) (.cn (pB false) (.cn (pB false) (.cn (pB false) (.cn (pB false) (.cn (pB false) (.cn (pB false) (.cn (pB false) (.cn (pB false) (.cn (pB false) (.cn (pB false) (.cn (pB false) (.cn (pB false) (.cn (pB false) (.cn (pB false) (.cn (pB false) (.cn (pB false) (.cn (pB false) (.cn (pB false) (.cn (pB false) (.cn (pB false) (.cn (pB false) (.cn (pB false) (.cn (pB false) (.cn (pB false) (.cn (pB false) (.cn (pB false) (.cn (pB false) (.cn (pB false) (.cn (pB false) (.cn (pB false) (.cn (pB false) (.cn (pB false) (.cn (pB false) (.cn (pB false) (.cn (pB false) (.cn (pB false) (.cn (pB false) (.cn (pB false) (.cn (pB false) (.cn (pB false) (.cn (pB false) (.cn (pB false) (.cn (pB false) (.cn (pB false) (.cn (pB false) (.cn (pB false) (.cn (pB false) (.cn (pB false) (.cn (pB false) (.cn (pB false) (.cn (pB false) (.cn (pB false) (.cn (pB false) (.cn (pB false) (.cn (pB false) (.cn (pB false) (.cn (pB false) (.cn (pB false) (.cn (pB false) (.cn (pB false) (.cn (pB false) (.cn (pB false) (.cn (pB false) (.cn (pB false) (.cn (pB false) (.cn (pB false) (.cn (pB false) (.cn (pB false) (.cn (pB false) (.cn (pB false) (.cn (pB false) (.cn (pB false) (.cn (pB false) (.cn (pB false) (.cn (pB false) (.cn (pB false) (.cn (pB false) (.cn (pB false) (.cn (pB false) (.cn (pB false) (.cn (pB false) (.cn (pB false) (.cn (pB false) (.cn (pB false) (.cn (pB false) (.cn (pB false) (.cn (pB false) (.cn (pB false) (.cn (pB false) (.cn (pB false) (.cn (pB false) (.cn (pB false) (.cn (pB false) (.cn (pB false) (.cn (pB false) (.cn (pB false) (.cn (pB false) (.cn (pB false) (.cn (pB false) (.cn (pB false) (.cn (pB false) (.cn (pB false) (.cn (pB false) (.cn (pB false) (.cn (pB false) (.cn (pB false) (.cn (pB false) (.cn (pB false) (.cn (pB false) (.cn (pB false) (.cn (pB false) (.cn (pB false) (.cn (pB false) (.cn (pB false) (.cn (pB false) (.cn (pB false) (.cn (pB false) (.cn (pB false) (.cn (pB false) (.cn (pB false) (.cn (pB false) (.cn (pB false) (.cn (pB false) (.cn (pB false) (.cn (pB false) (.cn (pB false) (.cn (pB false) (.cn (pB false) (.cn (pB false) (.cn (pB false) (.cn (pB false) (.cn (pB false) (.cn (pB false) (.cn (pB false) (.cn (pB false) (.cn (pB false) (.cn (pB false) (.cn (pB false) (.cn (pB false) (.cn (pB false) (.cn (pB false) (.cn (pB false) (.cn (pB false) (.cn (pB false) (.cn (pB false) (.cn (pB false) (.cn (pB false) .e0))))))))))))))))))))))))))))))))))))))))))))))))))))))))))))))))))))))))))))))))))))))))))))))))))))))))))))))))))))))))))))))))))))))))))))))))))))))))))))))))))))))))))))))))))))))))))))))))))))))))))))))))))))))))))))))))))))))))))))))))))))))))))))))),ec:=T11,ab:=(some (.bool,256)),cq:=false }
noncomputable def y208:TI:={ u:= .pt 204,size:=1,bytes:=8,z:= .cn (.k (.pointer none)) .e0,ec:= .un,ab:=none,cq:=false }
noncomputable def tyTab:TT:=(.nd 66 y66 (.nd 30 y30 (.nd 23 y23 (.nd 5 y5 (.nd 4 y4 (.nd 3 y3 .lf .lf) .lf) (.nd 9 y9 .lf .lf)) (.nd 27 y27 (.nd 26 y26 (.nd 25 y25 .lf .lf) .lf) (.nd 29 y29 .lf .lf))) (.nd 45 y45 (.nd 40 y40 (.nd 36 y36 (.nd 31 y31 .lf .lf) .lf) (.nd 43 y43 .lf .lf)) (.nd 61 y61 (.nd 59 y59 (.nd 46 y46 .lf .lf) .lf) (.nd 62 y62 .lf .lf)))) (.nd 131 y131 (.nd 96 y96 (.nd 84 y84 (.nd 78 y78 (.nd 71 y71 .lf .lf) .lf) (.nd 87 y87 .lf .lf)) (.nd 118 y118 (.nd 117 y117 (.nd 114 y114 .lf .lf) .lf) (.nd 130 y130 .lf .lf))) (.nd 186 y186 (.nd 179 y179 (.nd 170 y170 (.nd 162 y162 .lf .lf) .lf) (.nd 181 y181 .lf .lf)) (.nd 204 y204 (.nd 196 y196 .lf .lf) (.nd 208 y208 .lf .lf)))))
noncomputable def glTab:Nat→AV
  | 0=> .rl .bool (namesT:List Bool) 0 0
  | _=> .any
noncomputable abbrev mkE (l:List (Nat×List Nat×Spec)):Env:={ ti:=tyTab.get,gl:=glTab,orc:=lkS l }
theorem w0:World0 Tryz.prog glTab tyTab:=⟨by kernel_rfl,by kernel_rfl,fun g=>by unfold glTab;split<;>rfl⟩
noncomputable def d175:Dec Int:=d1 (dP tY)
noncomputable def S175_1:Int→St:=fun x1=>stC [(2,pY x1)] []
noncomputable def e175 (k:Nat):List (Nat×List Nat×Spec):=[]
noncomputable def h175:H:=(hr (hb (hr (hl (hr (.n [.kp [2]] [] .d .d)))) (hr (.n [.kp [2]] [] .d .d))))
noncomputable def s175 (k:Nat):SumT (mkE (e175 k)) 0 k (bodyOf Tryz.f175) h175 [.kp [2]] d175.St S175_1 S175_1 q0:=
 .leaf fun x1 N R Z=>bif decide (x1<128)then(R (w8 (x1*2^1)))else(R (bitI .xor .u8 (w8 (x1*2^1)) 29))
noncomputable def f175 {α:Type} (k:Nat) (x1:Int) (K:Int→Option α):Option α:=
  (s175 k).F x1 (fun x2=>K x2) (fun x2=>K x2) fun z=>nomatch z
noncomputable def o175:Int→FRes:=fun x1=>{ ret:=pY x1,objs:=[] }
noncomputable def p175 (k:Nat):Spec:={ own:=[false],run:=fun a o K=>(d175.dec a o).bind fun x=>f175 k x fun x2=>K (o175 x2) }
theorem i175 (k:Nat):Impl Tryz.prog glTab 175 (p175 k):=
  .of w0 (l:=e175 k) trivial (s175 k) (d1_ok (dP_ok tY)) _ fun x2 K=>K (o175 x2)
noncomputable def d146:Dec (Int×Int):=dA (dP tY) (d1 (dP tY))
noncomputable def S146_1:Int→St:=fun x1=>stC [(4,pY x1)] []
noncomputable def S146_2:(Int×Int×Int)→St:=fun(x1,x2,x3)=>stC [(0,pY x1),(1,pY x2),(5,pY x3)] []
noncomputable def S146_3:Int→St:=fun x1=>stC [(5,pY x1)] []
noncomputable def e146 (k:Nat):List (Nat×List Nat×Spec):=[(175,[],p175 k)]
noncomputable def h146:H:=(hr (.n [] [.kp [0,1,5]] .d (hb (.n [] [.kp [5]] (.n [.kp [0,1,5]] [.kp [0,1,5]] (hl (hr (hr (.n [.kp [5]] [] .d .d)))) .d) .d) (hr (.n [.kp [4]] [] .d .d)))))
noncomputable def s146 (k:Nat):SumT (mkE (e146 k)) 0 k (bodyOf Tryz.f146) h146 [.kp [4]] d146.St S146_1 S146_1 q0:=
 .pre 2 S146_2 (fun(x1,x2) N R Z=>N (x1,x2,0))
 (.seq S146_3
 (.block (.loop S146_2 (fun x=>x)
  (.leaf fun(x6,x7,x8) N R Z=>bif decide (x7>0)then(bif (bitI .and .u8 x7 1)==1 then(f175 k x6 fun x9=>N (x9,Int.fdiv x7 (2^1),bitI .xor .u8 x8 x6))else(f175 k x6 fun x10=>N (x10,Int.fdiv x7 (2^1),x8)))else(Z (.inl x8)))))
 (.leaf fun x11 N R Z=>R x11))
noncomputable def f146 {α:Type} (k:Nat) (x1:Int) (x2:Int) (K:Int→Option α):Option α:=
  (s146 k).F (x1,x2) (fun x12=>K x12) (fun x12=>K x12) fun z=>nomatch z
noncomputable def p146 (k:Nat):Spec:={ own:=[false,false],run:=fun a o K=>(d146.dec a o).bind fun x=>f146 k x.1 x.2 fun x12=>K (o175 x12) }
theorem i146 (k:Nat):Impl Tryz.prog glTab 146 (p146 k):=
  .of w0 (l:=e146 k) ⟨i175 k,trivial⟩ (s146 k) (dA_ok (dP_ok tY) (d1_ok (dP_ok tY))) _ fun x12 K=>K (o175 x12)
end Go.Proofs.YtkeiedikiiccpaaGreatDoor.Am
namespace Go.Proofs.YtkeiedikiiccpaaGreatDoor.Am
open Go Go.RowKit Go.Shelf
attribute [local go_sem] Oper.semAt_some
def upto {α:Type} (f:Nat→α) (k:Nat):List α:=(List.range k).map f
theorem upto_succ {α:Type} (f:Nat→α) (k:Nat):upto f (k+1)=upto f k++[f k]:=by simp[upto,List.range_succ]
theorem upto_length {α:Type} (f:Nat→α) (k:Nat):(upto f k).length=k:=by simp[upto]
set_option maxRecDepth 100000 in
set_option maxHeartbeats 2000000 in
theorem back1_in (F:Fence) (n:Nat) (h8:F.fn 185) (hro:F.round=none) (hn:1≤n) (l Bs n₀ b off len cap:Nat) (zs:Nat→F8) (hreach:len≤140737488355328) (hb:b<n₀) (J Jx:List (Nat×F8)→World→Prop)
  (hY: ∀pre x W,J pre W→pre.length<len→YieldAt F (n-1) Tryz.prog l #[.int .i64 (x.1:Int), .int .u8 (ofG x.2)] W fun e W'=>
   (e= .returned (.bool true)∧J (pre++[x]) W'∧(Below n₀ W W'∧W'.heap[Bs]?=W.heap[Bs]?))∨(e= .returned (.bool false)∧Jx (pre++[x]) W'))
  (W:World) (hBs:W.cell? ⟨Bs,0,none⟩=some (.slice (some ⟨b,off,none⟩) len cap)) (hc: ∀j,j<len→W.cell? ⟨b,off+j,none⟩=some (.int .u8 (ofG (zs j)))) (h0:J [] W):
  CallsIn F n Tryz.prog 185 #[.func (.yield l) #[] #[], .pointer (some ⟨Bs,0,none⟩)] W fun e W'=>(∃v,e= .returned v)∧
   ((∃ys,ys=upto (fun j=>(len-1-j,zs (len-1-j))) len∧J ys W')∨(∃pre,(∃k,k≤len∧pre=upto (fun j=>(len-1-j,zs (len-1-j))) k)∧Jx pre W')):=by
 refine callsIn_of_wp Tryz.func185 rfl h8 ?_ hro
 simp only[Tryz.ntmps185,List.size_toArray,List.length_cons,List.length_nil,Nat.reduceAdd,Nat.reduceSub,Array.replicate_succ,Array.replicate_zero,List.push_toArray,List.append_toArray,List.nil_append,List.cons_append]
 have hw0:IntKind.i64.wrap ((len:Int)-1)=(len:Int)-1:=by rw[IntKind.wrap_i64];omega
 gi_wp2
 gi_loopw [3] (fun i wr=> ∃k:Nat,k≤len∧i= .int .i64 ((len:Int)-1-k)∧J (upto (fun j=>(len-1-j,zs (len-1-j))) k) wr∧Below n₀ W wr∧wr.heap[Bs]?=W.heap[Bs]?)
  (fun i _=>(intOf i+1).toNat)
 case atStart=>exact⟨0,Nat.zero_le _,by simp,h0,Below.refl _ _,rfl⟩
 case round=>
  obtain⟨k,hk,rfl,hJs,hnx,hnb⟩:=hrel
  have hBs':wr.cell? ⟨Bs,0,none⟩=some (.slice (some ⟨b,off,none⟩) len cap):=by rw[←hBs];simp only[World.cell?,hnb]
  by_cases hlt:k<len
  ·obtain⟨q,hq⟩: ∃q:Nat,len-1-k=q:=⟨_,rfl⟩
   have hqi:(len:Int)-1-(k:Int)=(q:Int):=by omega
   have hql:q<len:=by omega
   obtain⟨fn,tmps,assign,body,hy,hR⟩:=hY _ (q,zs q) wr hJs (by rw[upto_length];exact hlt)
   dsimp only at hy
   have hcx':wr.cell? ⟨b,off+q,none⟩=some (.int .u8 (ofG (zs q))):=(hnx.cell (p:=⟨b,off+q,none⟩) hb).trans (hc q hql)
   have hq0:(0:Int)≤(q:Int):=by omega
   have hqw:IntKind.i64.wrap ((q:Int)-1)=(q:Int)-1:=by rw[IntKind.wrap_i64];omega
   rw[hqi]
   gi_wp2
   refine hR.mono ?_
   rintro e W3 (⟨rfl,hJ3,hk3⟩|⟨rfl,hJx3⟩)
   ·gi_wp2
    go_roundw
    case rel=>exact⟨k+1,by omega,by congr 1;omega,by rw[upto_succ,hq];exact hJ3,hnx.trans hk3.1,hk3.2.trans hnb⟩
    case measure=>simp[intOf]<;>omega
   ·gi_wp2
    refine bodyPost_ret (results_none rfl _ _ _) rfl ?_
    exact⟨⟨_,rfl⟩, .inr ⟨_,⟨k+1,by omega,by rw[upto_succ,hq]⟩,hJx3⟩⟩
  ·obtain rfl:k=len:=by omega
   have hneg:(k:Int)-1-(k:Int)= -1:=by omega
   rw[hneg]
   gi_wp2
   go_end0
   exact⟨⟨_,rfl⟩, .inl ⟨_,rfl,hJs⟩⟩
set_option maxRecDepth 100000 in
set_option maxHeartbeats 1000000 in
theorem back1_nil_in (F:Fence) (n:Nat) (h8:F.fn 185) (hro:F.round=none) (l Bs cap:Nat) (a:Option Addr) (J:List (Nat×F8)→World→Prop) (W:World) (hBs:W.cell? ⟨Bs,0,none⟩=some (.slice a 0 cap)) (h0:J [] W):
  CallsIn F n Tryz.prog 185 #[.func (.yield l) #[] #[], .pointer (some ⟨Bs,0,none⟩)] W fun e W'=>(∃v,e= .returned v)∧J [] W':=by
 refine callsIn_of_wp Tryz.func185 rfl h8 ?_ hro
 simp only[Tryz.ntmps185,List.size_toArray,List.length_cons,List.length_nil,Nat.reduceAdd,Nat.reduceSub,Array.replicate_succ,Array.replicate_zero,List.push_toArray,List.append_toArray,List.nil_append,List.cons_append]
 gi_wp2
 gi_loopw [3] (fun i wr=>i= .int .i64 (-1)∧J [] wr) (fun _ _=>0)
 case atStart=>exact⟨rfl,h0⟩
 case round=>
  obtain⟨rfl,hJs⟩:=hrel
  gi_wp2
  go_end0
  exact⟨⟨_,rfl⟩,hJs⟩
set_option maxHeartbeats 1000000 in
theorem back_in (F:Fence) (n:Nat) (h6:F.fn 177) (hro:F.round=none) (a:Option Addr) (len cap:Nat) (w:World):
  CallsIn F n Tryz.prog 177 #[.slice a len cap] w fun e w'=>e= .returned (.func (.func 185) #[] #[.pointer (some ⟨w.heap.size,0,none⟩)])∧w'=w.alloc (.cells #[.slice a len cap] 43):=by
 refine callsIn_of_wp Tryz.func177 rfl h6 ?_ hro
 simp only[Tryz.ntmps177,List.size_toArray,List.length_cons,List.length_nil,Nat.reduceAdd,Nat.reduceSub,Array.replicate_succ,Array.replicate_zero,List.push_toArray,List.append_toArray,List.nil_append,List.cons_append]
 gi_wp2
 go_ret
 exact⟨rfl,rfl⟩
def BytesAt (n₀:Nat) (W:World) (a:Option Addr) (len:Nat) (zs:Nat→F8):Prop:=len=0∨ ∃b off,a=some ⟨b,off,none⟩∧b<n₀∧ ∀j,j<len→W.cell? ⟨b,off+j,none⟩=some (.int .u8 (ofG (zs j)))
theorem back_stops (F:Fence) (n:Nat) (h8:F.fn 185) (hro:F.round=none) (hn:1≤n) (Bs n₀:Nat) (a:Option Addr) (len cap:Nat) (zs:Nat→F8) (hreach:len≤140737488355328) (w:World) (hBs:Bs<w.heap.size) (hn₀:n₀≤w.heap.size)
  (hc:w.cell? ⟨Bs,0,none⟩=some (.slice a len cap)) (hI:BytesAt n₀ w a len zs):
  SeqStopsK F n Tryz.prog 185 #[.pointer (some ⟨Bs,0,none⟩)] (fun x:Nat×F8=> #[Value.int .i64 (x.1:Int),Value.int .u8 (ofG x.2)]) (fun A B=>Below n₀ A B∧B.heap[Bs]?=A.heap[Bs]?) (fun ys=>ys=upto (fun j=>(len-1-j,zs (len-1-j))) len)
   (fun pre=> ∃k,k≤len∧pre=upto (fun j=>(len-1-j,zs (len-1-j))) k) len w:=fun l J Jx W hW _ _ hY h0=>by
 have hc':=(hW.cell (p:=⟨Bs,0,none⟩) hBs).trans hc
 rcases hI with rfl|⟨b,off,rfl,hb,hcs⟩
 ·exact(back1_nil_in F n h8 hro l Bs cap a J W hc' h0).mono fun e W' ⟨he,hj⟩=>⟨he, .inl ⟨_,rfl,hj⟩⟩
 ·exact back1_in F n h8 hro hn l Bs n₀ b off len cap zs hreach hb J Jx hY W hc' (fun j hj=>(hW.cell (p:=⟨b,off+j,none⟩) (Nat.lt_of_lt_of_le hb hn₀)).trans (hcs j hj)) h0
end Go.Proofs.YtkeiedikiiccpaaGreatDoor.Am
namespace Go.Proofs.YtkeiedikiiccpaaGreatDoor.Am
open Go Go.RowKit Go.Shelf
attribute [local go_sem] Oper.semAt_some
def hor (x:F8) (l:List (Nat×F8)):F8:=l.foldl (fun v c=>gmul v x^^^c.2) 0
theorem hor_snoc (x:F8) (l:List (Nat×F8)) (c:Nat×F8):hor x (l++[c])=gmul (hor x l) x^^^c.2:=by simp[hor]
theorem bits_xor (u v:F8):bits .xor .u8 (ofG u) (ofG v)=ofG (u^^^v):=ofG_xor u v
set_option maxRecDepth 100000 in
set_option maxHeartbeats 2000000 in
theorem eval_in (a:Option Addr) (len cap:Nat) (zs:Nat→F8) (x:F8) (w:World) (hreach:len≤140737488355328) (hI:BytesAt w.heap.size w a len zs)
  (hmul: ∀(u v:F8) (W:World),Below w.heap.size w W→Calls Tryz.prog 146 #[.int .u8 (ofG u), .int .u8 (ofG v)] W fun e W'=>e= .returned (.int .u8 (ofG (gmul u v)))∧Below W.heap.size W W'):
  CallsIn Fence.wide 3 Tryz.prog 152 #[.slice a len cap, .int .u8 (ofG x)] w fun e W'=>e= .returned (.int .u8 (ofG (hor x (upto (fun j=>(len-1-j,zs (len-1-j))) len))))∧Below w.heap.size w W':=by
 have hro:Fence.wide.round=none:=rfl
 have h1:1≤3:=by decide
 refine callsIn_of_wp_marks Tryz.func152 rfl trivial ?_ hro
 simp only[Tryz.ntmps152,List.size_toArray,List.length_cons,List.length_nil,Nat.reduceAdd,Nat.reduceSub,Array.replicate_succ,Array.replicate_zero,List.push_toArray,List.append_toArray,List.nil_append,List.cons_append]
 gi_wp2_with (refine⟨trivial,?_⟩;gi_at_call 177;refine(back_in Fence.wide (3-1) trivial hro _ _ _ _).mono ?_;rintro e w' ⟨rfl,rfl⟩)
 have bX:=Boxed.new w 5 (.int .u8 (ofG x))
 have bV:=Boxed.new (w.alloc (.cells #[.int .u8 (ofG x)] 5)) 5 (.int .u8 0)
 have bN:=Boxed.new ((w.alloc (.cells #[.int .u8 (ofG x)] 5)).alloc (.cells #[.int .u8 0] 5)) 43 (.slice a len cap)
 simp only[World.size_alloc]at bV bN
 have hB0:Below w.heap.size w (((w.alloc (.cells #[.int .u8 (ofG x)] 5)).alloc (.cells #[.int .u8 0] 5)).alloc (.cells #[.slice a len cap] 43)):=(((Below.refl _ w).alloc (Nat.le_refl _) _).alloc (by simp) _).alloc (by simp;omega) _
 have hI':BytesAt w.heap.size (((w.alloc (.cells #[.int .u8 (ofG x)] 5)).alloc (.cells #[.int .u8 0] 5)).alloc (.cells #[.slice a len cap] 43)) a len zs:=by
  rcases hI with h|⟨b,off,h1,h2,h3⟩
  ·exact .inl h
  ·exact .inr ⟨b,off,h1,h2,fun j hj=>(hB0.cell (p:=⟨b,off+j,none⟩) h2).trans (h3 j hj)⟩
 refine wpIn_rangeFunc_ownG hro h1 (gf:=185) (lb:= #[.pointer (some ⟨w.heap.size+1+1,0,none⟩)]) rfl trivial (enters_of Tryz.func185 (by kernel_rfl) rfl)
  (back_stops Fence.wide (3-1) trivial hro (by omega) (w.heap.size+1+1) w.heap.size a len cap zs hreach _ (by simp) (by simp;omega) bN.cell hI') (fun h k=>⟨h.1.trans k.1,k.2.trans h.2⟩)
  (fun W l o o' hl ho hc hw=>⟨belowK_b (w:=((w.alloc (.cells #[.int .u8 (ofG x)] 5)).alloc (.cells #[.int .u8 0] 5)).alloc (.cells #[.slice a len cap] 43)) (by simp;omega) W l o o' hl ho hc hw,World.putObj_heap_other (by simp at hl;omega)⟩) (Below.refl _ _) (fun _=>rfl)
  (fun pre W=>(W.cell? ⟨w.heap.size,0,none⟩=some (.int .u8 (ofG x))∧W.cell? ⟨w.heap.size+1,0,none⟩=some (.int .u8 (ofG (hor x pre)))∧W.frozen? ⟨w.heap.size+1,0,none⟩=false)∧Below w.heap.size w W∧w.heap.size+3≤W.heap.size)
  (fun _ _ _=>False)
  (OwnFrom.and (Own.from (fun s A B row hs hg hr=>⟨cell_kept hs.1 hg hr,cell_kept hs.2.1 hg hr,(frozen_kept hs.2.1 hg hr).trans hs.2.2⟩) _) (OwnFrom.and (ownFrom_below (Nat.le_refl _) (by simp;omega)) (Own.from (fun s A B row hs hg hr=>Nat.le_trans hs hg.size) _)))
  (fun _ _ _ _ _ hs _ _=>hs)
  ⟨⟨((bX.alloc _).alloc _).cell,(bV.alloc _).cell,(bV.alloc _).frozen⟩,hB0,by simp⟩
  (fun y=>{ tmps:= #[.slice a len cap, .int .u8 (ofG x),undef, .pointer (some ⟨w.heap.size,0,none⟩), .int .u8 0, .pointer (some ⟨w.heap.size+1,0,none⟩),undef, .int .u8 (ofG y.2), .slice a len cap, .func (.func 185) #[] #[.pointer (some ⟨w.heap.size+1+1,0,none⟩)], .int .i64 (y.1:Int), .int .u8 (ofG y.2),undef,undef,undef,undef,undef,undef],defers:=[] }) ?assign ?body ?done ?stop
 case assign=>
  intro l x W K hK
  gi_wp2
  exact hK
 case body=>
  rintro l pre y W ⟨⟨hcx,hcv,hfv⟩,hB,hsz⟩ _
  have hm:=hmul (hor x pre) x W hB
  gi_wp2_with (refine⟨trivial,?_⟩;gi_at_call 146;refine(CallsIn.inRound l (callsIn_wide.2 hm)).mono ?_;rintro e W1 ⟨rfl,hB1⟩;have hcv1:=(hB1.cell (p:=⟨w.heap.size+1,0,none⟩) (by simp;omega)).trans hcv;have hcx1:=(hB1.cell (p:=⟨w.heap.size,0,none⟩) (by simp;omega)).trans hcx;have hfv1:=(World.frozen?_of_block (a:=⟨w.heap.size+1,0,none⟩) (hB1.block (w.heap.size+1) (by omega))).trans hfv)
  have hBW:Below w.heap.size W (W1.setCell ⟨w.heap.size+1,0,none⟩ (.int .u8 (ofG (hor x (pre++[y]))))):=(hB1.mono (by omega)).setCell (p:=⟨w.heap.size+1,0,none⟩) (by simp) _
  rw[bits_xor, ←hor_snoc]
  refine⟨((KeepsOthers.mk hB1.size fun k o hk _=>(hB1.block k (Array.getElem?_eq_some_iff.1 hk).1).trans hk).trans (KeepsOthers.setCell _ _ _)).from _,⟨hBW,?_⟩,⟨?_,World.cell?_setCell_same' _ _ _ (by rw[hcv1];rfl),by rw[World.frozen?_setCell];exact hfv1⟩,hB.trans hBW,Nat.le_trans hsz hBW.size⟩
  ·rw[Below.heap_setCell _ _ _ _ (by simp)]
   exact hB1.block _ (by omega)
  ·rw[World.cell?_setCell_other _ _ _ _ (by simp)]
   exact hcx1
 case done=>
  rintro D ys W hD rfl ⟨⟨_,hc,_⟩,hB,_⟩ hK
  gi_wp2
  refine⟨by simp, .inl ⟨_,_,rfl,run_takeDeferred hK,?_⟩⟩
  exact⟨_,results_tmp rfl _ _ _,rfl,hB.trans (belowK_b (w:=w) (Nat.le_refl _) W D _ _ (by simp at hD;omega) hK rfl rfl)⟩
 case stop=>
  rintro D c pre W _ _ h _
  exact h.elim
end Go.Proofs.YtkeiedikiiccpaaGreatDoor.Am
namespace Go.Proofs.YtkeiedikiiccpaaGreatDoor.Am
open Go Go.RowKit
theorem MR.below {gv:Nat→AV} {Z:Nat→Prop} {w W:World} {σ:Nat→Sh} (m:MR gv Z w σ (obsF [])) (hu: ∀i,σ i= .un) (h:Below w.heap.size w W):MR gv Z W σ (obsF []):=
 ⟨fun i hi=>absurd (hu i) hi,fun _ _=>rfl,fun i _ b hb=>by rw[hu i]at hb;exact hb.elim,fun b hb=>Nat.lt_of_lt_of_le (m.zlt b hb) h.size,
  fun g=>(m.gl g).mono ⟨fun _ h=>h,fun b hb=>h.block b (m.zlt b hb)⟩ fun i _=> .same _⟩
theorem Ext.below {Z:Nat→Prop} {w W:World} {σ:Nat→Sh} (hu: ∀i,σ i= .un) (h:Below w.heap.size w W):Ext Z w σ (obsF []) Z W σ (obsF []):=
 ⟨h.os,h.tape,h.output,h.size,fun b hb _=>h.block b hb,fun _ h=>h,fun _ h=> .inl h,fun b ⟨i,hb⟩=>by rw[hu i]at hb;exact hb.elim⟩
theorem hor_all (x:F8) (P:List F8):ofG (hor x (upto (fun j=>(P.length-1-j,P.getD (P.length-1-j) 0)) P.length))=evalP (bs P) (ofG x):=by
 have h1:(upto (fun j=>(P.length-1-j,P.getD (P.length-1-j) 0)) P.length).map Prod.snd=P.reverse:=by
  unfold upto
  rw[List.map_map]
  refine List.ext_getElem (by simp) fun i h2 h3=>?_
  have h4:i<P.length:=by simpa using h3
  rw[List.getElem_reverse,List.getElem_map,List.getElem_range]
  show P.getD _ 0=_
  rw[List.getD_eq_getElem?_getD,List.getElem?_eq_getElem (by omega)]
  rfl
 have h2: ∀l:List (Nat×F8),hor x l=(l.map Prod.snd).foldl (fun v c=>gmul v x^^^c) 0:=fun l=>by rw[hor,List.foldl_map]
 have h3: ∀P:List F8,evalP (bs P) (ofG x)=ofG (P.foldr (fun c v=>gmul v x^^^c) 0):=by
  intro P
  induction P with
  | nil=>rfl
  | cons c r ih=>
   show ofG (gmul (toG (evalP (bs r) (ofG x))) (toG (ofG x))^^^toG (ofG c))=_
   rw[ih,toG_ofG,toG_ofG,toG_ofG]
   rfl
 rw[h2,h1,List.foldl_reverse,h3]
theorem eval_impl {gv:Nat→AV} {sp:Spec} (I:Impl Tryz.prog gv 146 sp) (hsp: ∀u v:F8,sp.run (.cn (.p tY (ofG u)) (.cn (.p tY (ofG v)) .e0)) [] some=some { ret:= .p tY (ofG (gmul u v)),objs:=[] }) (k:Nat):Impl Tryz.prog gv 152 (evalS k):=by
 refine⟨⟨Tryz.f152,Tryz.func152,by kernel_rfl,by kernel_rfl⟩,fun args ins K r he=>?_⟩
 obtain⟨x,hx,h4⟩:=Option.bind_eq_some_iff.1 he
 clear he
 obtain⟨p,xi⟩:=x
 change List Int at p
 change Int at xi
 have he:evalF k p xi (fun y=>K { ret:= .p tY y,objs:=[] })=some r:=h4
 clear h4
 obtain⟨rfl,rfl⟩:=(dA_ok (dP_ok (.sl tY)) (d1_ok (dP_ok tY))).dec hx
 clear hx
 unfold evalF at he
 split at he
 case isFalse=>cases he
 rename_i hn
 obtain⟨P,rfl⟩:=exists_bs hn.1
 obtain⟨X,rfl⟩: ∃X:F8,xi=ofG X:=⟨toG xi,(ofG_toG hn.2.2.1 hn.2.2.2).symm⟩
 have hlen:P.length≤room:=by
  have:=hn.2.1
  rwa[bs_len]at this
 refine⟨_,he,(by show 0≤0;decide),fun Z w σ vs hv il m0 hu0=>?_⟩
 have m:MR gv Z w σ (obsF []):=m0
 have hu: ∀h,σ h= .un:=fun h=>(hu0 h).2 (Nat.zero_le _)
 show Calls _ _ _ _ (RetOk gv Z w σ [] 0 { ret:= .p tY (evalP (bs P) (ofG X)),objs:=[] })
 clear m0
 obtain⟨v1,r1,e1,hv1,⟨v2,r2,rfl,hv2,hr2,_⟩,_⟩:=hv
 have hr2:r2=[]:=hr2
 subst hr2
 have hv2:v2= .int .u8 (ofG X):=by simpa[PV]using hv2.2
 subst hv2
 obtain⟨a,c,ev,hlc,hac⟩:=hv1.2
 have ev:v1= .slice a (bs P).length c:=(List.cons.inj ev).1
 rw[bs_len]at ev
 subst ev
 obtain rfl:vs= #[.slice a P.length c, .int .u8 (ofG X)]:=Array.ext' e1
 have hI:BytesAt w.heap.size w a P.length (fun j=>P.getD j 0):=by
  rcases hac with h|⟨b,o,rfl,hz,hc⟩
  ·left
   have h:(bs P).length=0:=h
   rwa[bs_len]at h
  ·refine .inr ⟨b,o,rfl,m.zlt b hz,fun j hj=>?_⟩
   obtain⟨l,h1,h2⟩:=hc j (ofG P[j]) (by show(bs P)[j]?=_;unfold bs;rw[List.getElem?_map,List.getElem?_eq_getElem hj];rfl)
   have h1:l=[.int .u8 (ofG P[j])]:=h1
   have:=h2 0 (.int .u8 (ofG P[j])) (by rw[h1];rfl)
   have hs:o+j*Ty.sz tY+0=o+j:=by show o+j*1+0=o+j;omega
   rw[hs]at this
   rw[this]
   show some (Value.int .u8 (ofG P[j]))=some (Value.int .u8 (ofG (P.getD j 0)))
   rw[List.getD_eq_getElem?_getD,List.getElem?_eq_getElem hj]
   rfl
 refine(callsIn_wide.1 (eval_in a P.length c (fun j=>P.getD j 0) X w hlen hI fun u v W hB=>?_)).mono fun e W' ⟨h1,h2⟩=>?_
 ·obtain⟨fr,h3,_,h5⟩:=I.run _ [] some _ (hsp u v)
  cases h3
  refine(h5 Z W σ #[.int .u8 (ofG u), .int .u8 (ofG v)] ⟨_,_,rfl,⟨rfl,rfl⟩,⟨_,_,rfl,⟨rfl,rfl⟩,rfl,rfl⟩,rfl⟩ rfl (m.below hu hB) fun i=>⟨fun _=>Nat.zero_le _,fun _=>hu i⟩).mono fun e W1 h6=>?_
  cases e with
  | returned y=>
   obtain⟨Z',σ',q1,q2,q3,_⟩:=h6
   have q1:y= .int .u8 (ofG (gmul u v)):=by simpa[PV]using q1.2
   subst q1
   refine⟨rfl,q3.os,q3.tape,q3.out,q3.size,fun b hb=>q3.same b hb fun⟨i,hi⟩=>?_⟩
   rw[hu i]at hi
   exact hi.elim
  | panicked _=>exact h6.elim
  | outgrown=>exact h6.elim
 ·subst h1
  rw[hor_all]
  exact⟨Z,σ,⟨rfl,rfl⟩,m.below hu h2,Ext.below hu h2,fun h hh=>absurd hh (Nat.not_lt_zero h),fun i=>⟨fun _=>Nat.zero_le _,fun _=>hu i⟩⟩
theorem ofG_shr (b:F8):Int.fdiv (ofG b) (2^1)=ofG (b>>>1):=by
 revert b
 decide+kernel
theorem ofG_bit (b:F8):(bitI .and .u8 (ofG b) 1==1)=b.getLsbD 0:=by
 revert b
 decide+kernel
theorem ofG_pos (b:F8):decide (ofG b>0)=!(b==0):=by
 revert b
 decide+kernel
theorem gdbl_walk (a:F8):(bif decide (ofG a<128)then w8 (ofG a*2^1)else bitI .xor .u8 (w8 (ofG a*2^1)) 29)=ofG (gdbl a):=by
 revert a
 decide+kernel
section
variable {α:Type} {k:Nat}
theorem f175_eq (a:F8) (K:Int→Option α):f175 k (ofG a) K=K (ofG (gdbl a)):=by
 simp only[f175,s175,SumT.leaf,SumT.pre,SumT.seq,SumT.cond,SumT.block,SumT.blockP,SumT.loop,zB]
 rw[←gdbl_walk]
 cases decide (ofG a<128)<;>rfl
theorem gmulA_0: ∀(n:Nat) (p a:F8),gmulA n p a 0=p
 | 0,_,_=>rfl
 | n+1,p,a=>gmulA_0 n p _
theorem f146_eq (hk:10000≤k) (a b:F8) (K:Int→Option α):f146 k (ofG a) (ofG b) K=K (ofG (gmul a b)):=by
 simp only[f146,s146,SumT.leaf,SumT.pre,SumT.seq,SumT.cond,SumT.block,SumT.blockP,SumT.loop,zB]
 refine lp_rule (fun m x=>m≤8∧ ∃a' b' p':F8,x=(ofG a',ofG b',ofG p')∧b'.toNat<2^m∧gmulA m p' a' b'=gmul a b) ?_ (m:=8) ⟨Nat.le_refl _,a,b,0,rfl,b.isLt,rfl⟩ (by omega)
 rintro m x n ⟨hm,a',b',p',rfl,hb,hg⟩ hn
 simp only[ofG_pos,ofG_bit,ofG_shr,ofG_xor,f175_eq]
 by_cases h0:b'=0
 ·subst h0
  rw[gmulA_0]at hg
  rw[←hg]
  rfl
 ·have hz:(b'==0)=false:=by simpa using h0
  rw[hz]
  cases m with
  | zero=>exact absurd (BitVec.eq_of_toNat_eq (by simp at hb;simp[hb])) h0
  | succ m=>
   rw[gmulA]at hg
   have hb2:(b'>>>1).toNat<2^m:=by
    rw[BitVec.toNat_ushiftRight,Nat.shiftRight_eq_div_pow]
    rw[Nat.pow_succ]at hb
    omega
   cases hc:b'.getLsbD 0<;>rw[hc]at hg
   ·exact hn m _ (by omega) ⟨by omega,_,_,_,rfl,hb2,hg⟩
   ·exact hn m _ (by omega) ⟨by omega,_,_,_,rfl,hb2,hg⟩
end
theorem mul_run {j:Nat} (hk:10000≤j) (u v:F8):(p146 j).run (.cn (.p tY (ofG u)) (.cn (.p tY (ofG v)) .e0)) [] some=some { ret:= .p tY (ofG (gmul u v)),objs:=[] }:=by
 have hd: ∀a b:Int,d146.dec (.cn (.p tY a) (.cn (.p tY b) .e0)) []=some (a,b):=fun a b=>by kernel_rfl
 show(d146.dec (.cn (.p tY (ofG u)) (.cn (.p tY (ofG v)) .e0)) []).bind (fun x=>f146 j x.1 x.2 fun y=>some (o175 y))=_
 rw[hd]
 exact f146_eq hk u v _
end Go.Proofs.YtkeiedikiiccpaaGreatDoor.Am
namespace Go.Proofs.YtkeiedikiiccpaaGreatDoor.Am
open Go Go.RowKit
theorem info87:(Tryz.prog.info? 87).map (fun i=>(i.size,i.bytes))=some (3,40):=by kernel_rfl
def wZero:Value:= .agg #[.int .i64 0, .slice none 0 0, .bool false]
theorem zero87 (w:World):(zeroValue 87).run Tryz.prog w= .ok wZero w:=by
 have h: ∃i,Tryz.prog.info? 87=some i∧i.zero=some wZero:=by
  have:(Tryz.prog.info? 87).bind (fun i=>i.zero)=some wZero:=by kernel_rfl
  cases h:Tryz.prog.info? 87 with
  | none=>rw[h]at this;cases this
  | some i=>exact⟨i,rfl,by rw[h]at this;exact this⟩
 obtain⟨i,h1,h2⟩:=h
 simp[zeroValue,typeInfo,h1,h2]
theorem run_clear_wide {P:Program} (w:World) (t e ty:TypeId) (z:Value) (ht:P.underlying t=some (.slice e)) (hv: ∀w,(zeroValue e).run P w= .ok z w) (zs:List Value) (b o n c:Nat) (hn:0<n)
  (hz:(Builtin.zeroCells z.cells n).toList=zs) (h1: ∀v∈zs,v.oneCell'=true) (hc: ∀j,j<zs.length→(w.cell? ⟨b,o+j,none⟩).isSome=true) (hf: ∀j,j<zs.length→w.frozen? ⟨b,o+j,none⟩=false):
  (Builtin.clear_ #[t] ty #[.slice (some ⟨b,o,none⟩) n c]).run P w= .ok (.tuple #[]) (w.setCells b o zs):=by
 have hst:=run_storeCells_cells (P:=P) b o zs 0 w (by simpa using hc) (by simpa using hf) h1
 simp only[Nat.add_zero]at hst
 obtain⟨m,rfl⟩: ∃m,n=m+1:=⟨n-1,by omega⟩
 simp[Builtin.clear_,run_underlying ht,hv,hz,hst]
theorem zeroCells_len (cs:Array Value) (n:Nat):(Builtin.zeroCells cs n).size=n*cs.size:=by
 simp[Builtin.zeroCells]
theorem zeroCells_one {cs:Array Value} {n:Nat} (h: ∀v∈cs,v.oneCell'=true): ∀v∈(Builtin.zeroCells cs n).toList,v.oneCell'=true:=by
 intro v hv
 obtain⟨k,hk,rfl⟩:=List.mem_iff_getElem.1 hv
 rw[Array.getElem_toList]
 have h0:0<cs.size:=by
  rw[Array.length_toList,zeroCells_len]at hk
  rcases Nat.eq_zero_or_pos cs.size with h|h
  ·rw[h,Nat.mul_zero]at hk
   omega
  ·exact h
 simp only[Builtin.zeroCells]
 simp
 rw[getElem!_pos cs (k%cs.size) (Nat.mod_lt _ h0)]
 exact h _ (by simp)
theorem isSome_sets (b:Nat) (vs:List Value) (o:Nat) (w:World) (h: ∀j,j<vs.length→(w.cell? ⟨b,o+j,none⟩).isSome=true) (k:Nat) (hk:(w.cell? ⟨b,k,none⟩).isSome=true):((w.setCells b o vs).cell? ⟨b,k,none⟩).isSome=true:=by
 by_cases hin:o≤k∧k<o+vs.length
 ·have:=World.cell?_setCells_in b vs o w h (k-o) (by omega)
  rw[show o+(k-o)=k by omega]at this
  rw[this]
  rfl
 ·rw[World.cell?_setCells_out b vs o w ⟨b,k,none⟩ fun _ _=>by simp only[];omega]
  exact hk
set_option maxHeartbeats 4000000 in
set_option maxRecDepth 1000000 in
theorem del_walk (b off n c i j:Nat) (olds:List Value) (w:World) (hnc:n≤c) (hij:i<j) (hj:j≤n) (hl:olds.length=n*3)
  (hc: ∀q v,olds[q]?=some v→w.cell? ⟨b,off+q,none⟩=some v) (hf: ∀q,q<n*3→w.frozen? ⟨b,off+q,none⟩=false) (h1: ∀v∈olds,v.oneCell'=true):
  Calls Tryz.prog 116 #[.slice (some ⟨b,off,none⟩) n c, .int .i64 i, .int .i64 j] w fun e w'=>e= .returned (.slice (some ⟨b,off,none⟩) (n-(j-i)) c)∧
   ∃zs:List Value,zs.length=(j-i)*3∧w'=(w.drew.setCells b (off+i*3) (olds.drop (j*3))).setCells b (off+(i+(n-j))*3) zs:=by
 obtain⟨i0,hi0,hz1,hz2⟩: ∃i0,Tryz.prog.info? 87=some i0∧i0.size=3∧i0.bytes=40:=by
  have:=info87
  cases h:Tryz.prog.info? 87 with
  | none=>rw[h]at this;cases this
  | some i=>rw[h]at this;simp at this;exact⟨i,rfl,this⟩
 obtain⟨news,hnews⟩: ∃news,news=olds.drop (j*3):=⟨_,rfl⟩
 have hlen:news.length=(n-j)*3:=by rw[hnews,List.length_drop,hl,Nat.sub_mul]
 have hget: ∀t u,news[t]?=some u→w.drew.cell? ⟨b,off+j*3+t,none⟩=some u:=fun t u hu=>by
  rw[hnews,List.getElem?_drop]at hu
  rw[Nat.add_assoc]
  exact hc _ _ hu
 obtain⟨A,hA,hsrc⟩: ∃A:Addr,(if c=j then some (⟨b,off,none⟩:Addr)else some ⟨b,off+j*3,none⟩)=some A∧Hid (∀t u,news[t]?=some u→w.drew.cell? (A.add t)=some u):=by
  by_cases h:c=j
  ·refine⟨⟨b,off,none⟩,by simp[h],fun t u hu=>?_⟩
   have h0:news.length=0:=by rw[hlen];omega
   rw[List.length_eq_zero_iff.1 h0]at hu
   simp at hu
  ·refine⟨⟨b,off+j*3,none⟩,by simp[h],fun t u hu=>?_⟩
   rw[Addr.add_lit]
   exact hget t u hu
 have hsome: ∀t,t<n*3→(w.cell? ⟨b,off+t,none⟩).isSome=true:=fun t ht=>by
  rw[hc t _ (List.getElem?_eq_getElem (by omega))]
  rfl
 have s1:Hid (news.length=(n-j)*3):=hlen
 have s2:Hid (∀u∈news,u.oneCell'=true):=fun u hu=>h1 u (List.mem_of_mem_drop (hnews▸hu))
 have s3:Hid (∀t,t<news.length→(w.drew.cell? ⟨b,off+i*3+t,none⟩).isSome=true∧w.drew.frozen? ⟨b,off+i*3+t,none⟩=false):=by
  intro t ht
  rw[hlen]at ht
  rw[Nat.add_assoc]
  exact⟨hsome _ (by omega),hf _ (by omega)⟩
 obtain⟨W1,hW1⟩: ∃W1,W1=w.drew.setCells b (off+i*3) news:=⟨_,rfl⟩
 obtain⟨zs,hzs⟩: ∃zs,zs=(Builtin.zeroCells wZero.cells (n-(i+(n-j)))).toList:=⟨_,rfl⟩
 have hzl:zs.length=(j-i)*3:=by
  rw[hzs,Array.length_toList,zeroCells_len,show wZero.cells.size=3 from rfl]
  congr 1
  omega
 have hcl: ∀ty,(Builtin.clear_ #[26] ty #[.slice (some ⟨b,off+(i+(n-j))*3,none⟩) (n-(i+(n-j))) (c-(i+(n-j)))]).run Tryz.prog W1= .ok (.tuple #[]) (W1.setCells b (off+(i+(n-j))*3) zs):=
  fun ty=>run_clear_wide W1 26 87 ty wZero Tryz.underlying26 zero87 zs b _ _ _ (by omega) hzs.symm (by rw[hzs];exact zeroCells_one (by decide)) (fun t ht=>by
   rw[hW1,Nat.add_assoc]
   exact isSome_sets b _ _ _ (fun t ht=>by rw[Nat.add_assoc];exact hsome _ (by omega)) _ (hsome _ (by omega))) (fun t ht=>by
   rw[hW1,World.frozen?_setCells,Nat.add_assoc]
   exact hf _ (by omega))
 have hW:Hid (W1=w.drew.setCells b (off+i*3) news):=hW1
 have hic:i≤c:=by omega
 have hjc:j≤c:=by omega
 clear hW1 hzs hsome hget hc hf
 go_enter Tryz.func116,Tryz.ntmps116
 go_wp2_with fail
 go_region_law (refine step_append_room rfl (.tmp 22) (.tmp 25) 26 rfl 87 i0 3 Tryz.underlying26 hi0 hz1 b off i c (by simp[Act.eval,Act.put]) A (n-j) (c-j) news (by simp[Act.eval,Act.put]) s1.out hsrc.out s2.out (by omega) s3.out ?_;rw[←hW.out])
 go_wp2
 go_ret
 refine⟨by rw[show n-(j-i)=i+(n-j) by omega];rfl,zs,hzl,?_⟩
 rw[←hnews, ←hW.out]
set_option maxHeartbeats 4000000 in
set_option maxRecDepth 1000000 in
theorem del_walk0 (b:Addr) (n c i:Nat) (w:World) (hnc:n≤c) (hi:i≤n):
  Calls Tryz.prog 116 #[.slice (some b) n c, .int .i64 i, .int .i64 i] w fun e w'=>e= .returned (.slice (some b) n c)∧w'=w:=by
 have hic:i≤c:=by omega
 go_enter Tryz.func116,Tryz.ntmps116
 go_wp2
 all_goals (go_ret;exact⟨rfl,rfl⟩)
set_option maxHeartbeats 4000000 in
set_option maxRecDepth 1000000 in
theorem del_walkN (w:World):
  Calls Tryz.prog 116 #[.slice none 0 0, .int .i64 0, .int .i64 0] w fun e w'=>e= .returned (.slice none 0 0)∧w'=w:=by
 go_enter Tryz.func116,Tryz.ntmps116
 go_wp2
 all_goals (go_ret;exact⟨rfl,rfl⟩)
end Go.Proofs.YtkeiedikiiccpaaGreatDoor.Am
namespace Go.Proofs.YtkeiedikiiccpaaGreatDoor.Am
open Go Go.RowKit Go.Lib
theorem run_copy_wide {P:Program} (w:World) (dT sT ty elem:TypeId) (size b o dLen dCap:Nat) (a:Addr) (sLen sCap:Nat) (cs:List Value)
  (hu:P.underlying dT=some (.slice elem)) (hs:(P.info? elem).map (·.size)=some size) (hn:cs.length=Nat.min sLen dLen*size)
  (hsrc: ∀j v,cs[j]?=some v→w.cell? (a.add j)=some v) (hc: ∀j,j<cs.length→(w.cell? ⟨b,o+j,none⟩).isSome=true) (hf: ∀j,j<cs.length→w.frozen? ⟨b,o+j,none⟩=false) (h1: ∀v∈cs,v.oneCell'=true):
  (Builtin.copy_ #[dT,sT] ty #[.slice (some ⟨b,o,none⟩) dLen dCap, .slice (some a) sLen sCap]).run P w= .ok (goInt (Nat.min sLen dLen)) (w.setCells b o cs):=by
 have hl:=run_loadCells_list (P:=P) w a cs hsrc
 have hst:=run_storeCells_cells (P:=P) b o cs 0 w (by simpa using hc) (by simpa using hf) h1
 cases hq:P.info? elem with
 | none=>simp[hq]at hs
 | some i=>
  have hi:i.size=size:=by simpa[hq]using hs
  simp[Builtin.copy_,run_underlying hu,Builtin.lenOf,Builtin.firstCells,sizeOf,typeInfo,hq,hi, ←hn,hl,hst]
theorem run_overlaps_own {P:Program} (w:World) (tS tR e:TypeId) (ht:P.underlying tS=some (.slice e)) (size:Nat) (hz: ∀w,(Go.sizeOf e).run P w= .ok size w)
  (a b:Addr) (la ca lb cb:Nat) (hne:a.block≠b.block) {cA cB:Array Value} {tA tB:TypeId} {fA:Nat×Nat} (hA:w.heap[a.block]?=some (.cells cA tA fA)) (hB:w.heap[b.block]?=some (.cells cB tB (0,0))) (hkA:cA.size≠0) (hkB:cB.size≠0):
  (Extern.SlicesOverlaps.overlaps #[tS,tS] #[tR] #[.slice (some a) la ca, .slice (some b) lb cb]).run P w= .ok (.bool false) w:=by
 have hnb:(a.block !=b.block)=true:=by simpa using hne
 have hnb':(a.block==b.block)=false:=by simpa using hne
 have hsa:w.shape? a.block=some (tA,cA.size):=by simp[World.shape?,hA]
 have hsb:w.shape? b.block=some (tB,cB.size):=by simp[World.shape?,hB]
 have hfb: ∀k,w.frozen? { block:=b.block,off:=k }=false:=fun k=>by simp[World.frozen?,hB]
 have hfb':w.frozen? b=false:=by simp[World.frozen?,hB]
 change Sem.run P (α:=Value) (do
  let some t:=(#[tS,tS]:Array TypeId)[0]?|stuck "slices.overlaps: no parameter types"
  let .slice elem←underlying t|stuck "slices.overlaps: slice type expected"
  let size←sizeOf elem
  match(some a:Option Addr),(some b:Option Addr)with
  | some a,some b=>
   if la=0∨lb=0∨size=0 then pure (Value.bool false)
   else if a.block !=b.block&&(←frozen a)&&(←frozen b)then unsupported .addressObserved
   else do
    if a.block !=b.block then do
     noView a;noView b
     if←mayBeOne a b then return Value.bool ((←choose (.extern "sameAddr.stringBytes" 2))==1)
    pure (Value.bool (a.block==b.block&&a.off<b.off+lb*size&&b.off<a.off+la*size))
  | _,_=>pure (Value.bool false)) w=_
 by_cases h0:la=0∨lb=0∨size=0
 ·simp[run_underlying ht,hz,h0]
 ·obtain⟨kA,hkA⟩:=Nat.exists_eq_succ_of_ne_zero hkA
  obtain⟨kB,hkB⟩:=Nat.exists_eq_succ_of_ne_zero hkB
  rw[hkA]at hsa
  rw[hkB]at hsb
  cases hfa:w.frozen? a<;>cases hfe:w.frozen? { block:=a.block,off:=kA+1 }<;>simp[run_underlying ht,hz,h0,hnb,hnb',frozen,noView,viewAt,mayBeOne,stringish,shape,Sem.run,hsa,hsb,hfa,hfe,hfb,hfb']
set_option maxHeartbeats 4000000 in
set_option maxRecDepth 1000000 in
theorem ins_end (base vb:Option Addr) (n c m vc:Nat) (w w':World) (u:Value) (hm:0<m) (hnc:n≤c) (hrun: ∀ty,(Builtin.append_ #[26,26] ty #[.slice base n c, .slice vb m vc]).run Tryz.prog w= .ok u w'):
  Calls Tryz.prog 117 #[.slice base n c, .int .i64 n, .slice vb m vc] w fun e w''=>e= .returned u∧w''=w':=by
 have hz1: ¬((m:Int)=0):=by omega
 go_enter Tryz.func117,Tryz.ntmps117
 cases base with
 | none=>
  go_wp2_with (at_builtin;refine Lib.wpList_append_run _ rfl _ _ _ _ rfl _ _ rfl rfl _ _ (hrun _) ?_)
  all_goals (go_ret;exact⟨rfl,rfl⟩)
 | some a=>
  obtain⟨ab,ao,asp⟩:=a
  go_wp2_with (at_builtin;refine Lib.wpList_append_run _ rfl _ _ _ _ rfl _ _ rfl rfl _ _ (hrun _) ?_)
  all_goals (go_ret;exact⟨rfl,rfl⟩)
set_option maxHeartbeats 4000000 in
set_option maxRecDepth 1000000 in
theorem ins_shift (b off n c i vb voff m vc:Nat) (cs vs:List Value) (w:World) (hi:i<n) (hm:0<m) (hroom:n+m≤c) (hvb:vb≠b) (hbig:n+m≤140737488355328)
  (hcl:cs.length=n*3) (hvl:vs.length=m*3)
  (hcs: ∀j v,cs[j]?=some v→w.cell? ⟨b,off+j,none⟩=some v) (hsp: ∀j,j<(n+m)*3→(w.cell? ⟨b,off+j,none⟩).isSome=true) (hfz: ∀j,j<(n+m)*3→w.frozen? ⟨b,off+j,none⟩=false)
  (hvs: ∀j v,vs[j]?=some v→w.cell? ⟨vb,voff+j,none⟩=some v) (h1c: ∀v∈cs,v.oneCell'=true) (h1v: ∀v∈vs,v.oneCell'=true)
  {cA cB:Array Value} {tA tB:TypeId} {fA:Nat×Nat} (hA:w.heap[vb]?=some (.cells cA tA fA)) (hB:w.heap[b]?=some (.cells cB tB (0,0))) (hkA:cA.size≠0) (hkB:cB.size≠0):
  Calls Tryz.prog 117 #[.slice (some ⟨b,off,none⟩) n c, .int .i64 i, .slice (some ⟨vb,voff,none⟩) m vc] w fun e w'=>
   e= .returned (.slice (some ⟨b,off,none⟩) (n+m) c)∧w'=(w.drew.setCells b (off+(i+m)*3) (cs.drop (i*3))).setCells b (off+i*3) vs:=by
 have hz1: ¬((m:Int)=0):=by omega
 have hz2: ¬((i:Int)=(n:Int)):=by omega
 have hsz:(Tryz.prog.info? 87).map (·.size)=some 3:=by kernel_rfl
 have hso: ∀w,(Go.sizeOf 87).run Tryz.prog w= .ok 3 w:=fun w=>by
  cases h:Tryz.prog.info? 87 with
  | none=>rw[h]at hsz;cases hsz
  | some j=>
   rw[h]at hsz
   have:j.size=3:=by simpa using hsz
   simp[Go.sizeOf,typeInfo,h,this]
 have hov: ∀lb cb,(callFunc 142 #[.slice (some ⟨vb,voff,none⟩) m vc, .slice (some ⟨b,off+(i+m)*3,none⟩) lb cb]).run Tryz.prog w= .ok (.value (.bool false)) w:=fun lb cb=>by
  rw[run_callFunc_extern Tryz.func142 (by kernel_rfl) (by kernel_rfl) (by kernel_rfl) (e:=Extern.SlicesOverlaps.overlaps #[26,26] #[4]) (by kernel_rfl),
   run_overlaps_own w 26 4 87 Tryz.underlying26 3 hso ⟨vb,voff,none⟩ ⟨b,off+(i+m)*3,none⟩ m vc lb cb hvb hA hB hkA hkB]
  rfl
 have hdl:(cs.drop (i*3)).length=(n-i)*3:=by rw[List.length_drop,hcl];omega
 have hw1:IntKind.i64.wrap ((i:Int)+(m:Int))=(i:Int)+(m:Int):=by rw[IntKind.wrap_i64];omega
 have hw2:IntKind.i64.wrap ((n:Int)+(m:Int))=(n:Int)+(m:Int):=by rw[IntKind.wrap_i64];omega
 have hb1:(0:Int)≤(i:Int)+(m:Int):=by omega
 have hin:i≤n:=by omega
 have htn:((i:Int)+(m:Int)).toNat=i+m:=by omega
 have hb2: ¬(c=i+m):=by omega
 have hb3:(i:Int)≤(n:Int)+(m:Int):=by omega
 have hb4: ¬(c=i):=by omega
 have hcp1: ∀ty dc sc,(Builtin.copy_ #[26,26] ty #[.slice (some ⟨b,off+(i+m)*3,none⟩) (n+m-(i+m)) dc, .slice (some ⟨b,off+i*3,none⟩) (n+m-i) sc]).run Tryz.prog w.drew= .ok (goInt ((n-i:Nat):Int)) (w.drew.setCells b (off+(i+m)*3) (cs.drop (i*3))):=fun ty dc sc=>by
  have e:Nat.min (n+m-i) (n+m-(i+m))=n-i:=by simp only[Nat.min_def];split<;>omega
  have:=run_copy_wide w.drew 26 26 ty 87 3 b (off+(i+m)*3) (n+m-(i+m)) dc ⟨b,off+i*3,none⟩ (n+m-i) sc (cs.drop (i*3)) Tryz.underlying26 hsz (by rw[hdl,e])
   (fun j v hj=>by rw[Addr.add_lit,Nat.add_assoc];exact hcs (i*3+j) v (by rwa[List.getElem?_drop]at hj))
   (fun j hj=>by rw[Nat.add_assoc];exact hsp _ (by omega)) (fun j hj=>by rw[Nat.add_assoc];exact hfz _ (by omega)) (fun v hv=>h1c v (List.mem_of_mem_drop hv))
  rwa[e]at this
 obtain⟨W1,hW1⟩: ∃W1,W1=w.drew.setCells b (off+(i+m)*3) (cs.drop (i*3)):=⟨_,rfl⟩
 have hsp1: ∀k,k<(n+m)*3→(W1.cell? ⟨b,off+k,none⟩).isSome=true:=fun k hk=>by
  rw[hW1]
  exact isSome_sets b _ _ _ (fun j hj=>by rw[Nat.add_assoc];exact hsp _ (by omega)) _ (hsp k hk)
 have hcp2: ∀(W:World),(∀x,W.cell? x=W1.cell? x)→(∀x,W.frozen? x=W1.frozen? x)→ ∀ty dc,(Builtin.copy_ #[26,26] ty #[.slice (some ⟨b,off+i*3,none⟩) (n+m-i) dc, .slice (some ⟨vb,voff,none⟩) m vc]).run Tryz.prog W= .ok (goInt m) (W.setCells b (off+i*3) vs):=fun W hWc hWf ty dc=>by
  have e:Nat.min m (n+m-i)=m:=by simp only[Nat.min_def];split<;>omega
  have:=run_copy_wide W 26 26 ty 87 3 b (off+i*3) (n+m-i) dc ⟨vb,voff,none⟩ m vc vs Tryz.underlying26 hsz (by rw[hvl,e])
   (fun j v hj=>by
    rw[Addr.add_lit,hWc,hW1,World.cell?_setCells_out b _ _ _ _ (fun h _=>absurd h hvb)]
    exact hvs j v hj)
   (fun j hj=>by rw[hWc,Nat.add_assoc];exact hsp1 _ (by omega)) (fun j hj=>by rw[hWf,hW1,World.frozen?_setCells,Nat.add_assoc];exact hfz _ (by omega)) h1v
  rwa[e]at this
 rw[←hW1]at hcp1
 clear hsp1 hsp hfz hcs hvs
 go_enter Tryz.func117,Tryz.ntmps117
 go_wp2_with (simp only[hov])
 go_region_law (refine step_copy_runI rfl _ _ 26 26 rfl _ _ (by simp[Act.eval,Act.put]) (by simp[Act.eval,Act.put]) (hcp1 _ _ _) ?_)
 go_wp2_with (at_builtin;refine wpList_copy_runI _ rfl _ _ 26 26 rfl _ _ rfl rfl (hcp2 _ (fun _=>rfl) (fun _=>rfl) _ _) ?_)
 go_ret
 first|exact⟨rfl,rfl⟩|exact⟨rfl,by rw[hW1]⟩
end Go.Proofs.YtkeiedikiiccpaaGreatDoor.Am
namespace Go.Proofs.YtkeiedikiiccpaaGreatDoor.Am
open Go Go.RowKit Go.Lib
set_option maxHeartbeats 4000000 in
set_option maxRecDepth 1000000 in
theorem ins_grow (b off n c i vb voff m vc:Nat) (cs vs:List Value) (w:World) (hi:i<n) (hm:0<m) (hnc:n≤c) (hroom:c<n+m) (hbig:(n+m)*40≤140737488355328)
  (hcl:cs.length=n*3) (hvl:vs.length=m*3)
  (hcs: ∀j v,cs[j]?=some v→w.cell? ⟨b,off+j,none⟩=some v)
  (hvs: ∀j v,vs[j]?=some v→w.cell? ⟨vb,voff+j,none⟩=some v) (h1c: ∀v∈cs,v.oneCell'=true) (h1v: ∀v∈vs,v.oneCell'=true):
  Calls Tryz.prog 117 #[.slice (some ⟨b,off,none⟩) n c, .int .i64 i, .slice (some ⟨vb,voff,none⟩) m vc] w fun e w'=> ∃(G:Nat) (ROW:Array Value),n+m≤G∧ROW.size=G*3∧(∀q,q<i*3→ROW[q]?=cs[q]?)∧
   e= .returned (.slice (some ⟨w.heap.size,0,none⟩) (n+m) G)∧
   w'=(((w.alloc (.cells ROW 87)).drew.setCells w.heap.size (i*3) vs).drew).setCells w.heap.size ((i+m)*3) (cs.drop (i*3)):=by
 obtain⟨i0,hi0,hz0,hzs,hzb⟩: ∃i0,Tryz.prog.info? 87=some i0∧i0.zero=some wZero∧i0.size=3∧i0.bytes=40:=by
  have:(Tryz.prog.info? 87).map (fun i=>(i.zero,i.size,i.bytes))=some (some wZero,3,40):=by kernel_rfl
  cases h:Tryz.prog.info? 87 with
  | none=>rw[h]at this;cases this
  | some i=>rw[h]at this;simp at this;exact⟨i,rfl,this⟩
 have hz1: ¬((m:Int)=0):=by omega
 have hz2: ¬((i:Int)=(n:Int)):=by omega
 have hz3:(c:Int)<(n:Int)+(m:Int):=by omega
 have hsz:(Tryz.prog.info? 87).map (·.size)=some 3:=by rw[hi0];simp[hzs]
 have hbw:b<w.heap.size:=block_lt_of_cell (hcs 0 _ (List.getElem?_eq_getElem (by omega)))
 have hvw:vb<w.heap.size:=block_lt_of_cell (hvs 0 _ (List.getElem?_eq_getElem (by omega)))
 have hkk:(n:Int)+(m:Int)-(i:Int)=((n+m-i:Nat):Int):=by omega
 have hik:i+(n+m-i)=n+m:=by omega
 have htl:(cs.take (i*3)).length=i*3:=by rw[List.length_take];omega
 have hold:(Builtin.firstCells i0.size i (.slice (some ⟨b,off,none⟩) i c)).run Tryz.prog w.drew= .ok (cs.take (i*3)).toArray w.drew:=by
  rw[hzs]
  exact run_firstCells_some w.drew 3 i ⟨b,off,none⟩ i c (cs.take (i*3)) htl (fun j v hj=>by
   rw[Addr.add_lit]
   rw[List.getElem?_take]at hj
   split at hj
   ·exact hcs j v hj
   ·cases hj)
 have hrz: ∀ty,(Builtin.append_ #[26,3] ty #[.slice (some ⟨b,off,none⟩) i c, .int .i64 ((n:Int)+(m:Int)-(i:Int))]).run Tryz.prog w=
   .ok (.slice (some ⟨w.heap.size,0,none⟩) (n+m) (grownCap w (n+m) c 87)) (w.drew.alloc (.cells ((cs.take (i*3)).toArray++Builtin.zeroCells wZero.cells (n+m-i)++Builtin.zeroCells wZero.cells (grownCap w (n+m) c 87-(n+m))) 87)):=fun ty=>by
  have h:=Lib.run_append_grow_zeros w 26 3 ty 87 i0 _ .i64 .i64 Tryz.underlying26 Tryz.underlying3 hi0 hz0 (some ⟨b,off,none⟩) i c (cs.take (i*3)) hold (n+m-i) (by omega) (by omega) (by omega) (by omega) (by rw[hzb];omega) (by rw[hzb,hik];exact growslice_fits hroom hbig)
  rw[hik]at h
  rw[hkk]
  exact h
 obtain⟨G,hG⟩: ∃G,G=grownCap w (n+m) c 87:=⟨_,rfl⟩
 obtain⟨ROW,hROW⟩: ∃ROW:Array Value,ROW=(cs.take (i*3)).toArray++Builtin.zeroCells wZero.cells (n+m-i)++Builtin.zeroCells wZero.cells (G-(n+m)):=⟨_,rfl⟩
 rw[←hG]at hrz
 rw[←hROW]at hrz
 have hGn:n+m≤G:=by rw[hG];exact grownCap_ge w _ _ _
 have hRs:ROW.size=G*3:=by
  rw[hROW,Array.size_append,Array.size_append,zeroCells_len,zeroCells_len,List.size_toArray,htl,show wZero.cells.size=3 from rfl]
  omega
 have hRg: ∀q,q<i*3→ROW[q]?=cs[q]?:=fun q hq=>by
  rw[hROW,Array.append_assoc,Array.getElem?_append_left (by rw[List.size_toArray,htl];exact hq),List.getElem?_toArray,List.getElem?_take,if_pos hq]
 obtain⟨W1,hW1⟩: ∃W1,W1=w.drew.alloc (.cells ROW 87):=⟨_,rfl⟩
 rw[←hW1]at hrz
 have hN: ∀j,j<(n+m)*3→(W1.cell? ⟨w.heap.size,j,none⟩).isSome=true:=fun j hj=>by
  rw[hW1,World.cell?_alloc_at (w:=w.drew) ROW _ w.heap.size j rfl,Array.getElem?_eq_getElem (by omega)];rfl
 have hNf: ∀j,W1.frozen? ⟨w.heap.size,j,none⟩=false:=fun j=>by rw[hW1];exact World.frozen?_alloc_at (w:=w.drew) ROW _ w.heap.size j rfl
 have hOb: ∀j v,w.cell? ⟨b,j,none⟩=some v→W1.cell? ⟨b,j,none⟩=some v:=fun j v h=>by rw[hW1,World.cell?_alloc_past (w:=w.drew) _ b j hbw];exact h
 have hOv: ∀j v,w.cell? ⟨vb,j,none⟩=some v→W1.cell? ⟨vb,j,none⟩=some v:=fun j v h=>by rw[hW1,World.cell?_alloc_past (w:=w.drew) _ vb j hvw];exact h
 have hcpA: ∀(W:World),(∀x,W.cell? x=W1.cell? x)→(∀x,W.frozen? x=W1.frozen? x)→ ∀ty dc,(Builtin.copy_ #[26,26] ty #[.slice (some ⟨w.heap.size,i*3,none⟩) (n+m-i) dc, .slice (some ⟨vb,voff,none⟩) m vc]).run Tryz.prog W= .ok (goInt m) (W.setCells w.heap.size (i*3) vs):=fun W hWc hWf ty dc=>by
  have e:Nat.min m (n+m-i)=m:=by simp only[Nat.min_def];split<;>omega
  have:=run_copy_wide W 26 26 ty 87 3 w.heap.size (i*3) (n+m-i) dc ⟨vb,voff,none⟩ m vc vs Tryz.underlying26 hsz (by rw[hvl,e])
   (fun j v hj=>by rw[Addr.add_lit,hWc];exact hOv _ v (hvs j v hj))
   (fun j hj=>by rw[hWc];exact hN _ (by omega)) (fun j hj=>by rw[hWf];exact hNf _) h1v
  rwa[e]at this
 have hGi: ¬(G=i):=by omega
 have hGim: ¬(G=i+m):=by omega
 have hci: ¬(c=i):=by omega
 have hbN:b≠w.heap.size:=by omega
 have hdl:(cs.drop (i*3)).length=(n-i)*3:=by rw[List.length_drop,hcl];omega
 have hcpB: ∀(W:World),(∀x,W.cell? x=(W1.setCells w.heap.size (i*3) vs).cell? x)→(∀x,W.frozen? x=(W1.setCells w.heap.size (i*3) vs).frozen? x)→ ∀ty dc sc,(Builtin.copy_ #[26,26] ty #[.slice (some ⟨w.heap.size,(i+m)*3,none⟩) (n+m-(i+m)) dc, .slice (some ⟨b,off+i*3,none⟩) (n-i) sc]).run Tryz.prog W= .ok (goInt ((n-i:Nat):Int)) (W.setCells w.heap.size ((i+m)*3) (cs.drop (i*3))):=fun W hWc hWf ty dc sc=>by
  have e:Nat.min (n-i) (n+m-(i+m))=n-i:=by simp only[Nat.min_def];split<;>omega
  have:=run_copy_wide W 26 26 ty 87 3 w.heap.size ((i+m)*3) (n+m-(i+m)) dc ⟨b,off+i*3,none⟩ (n-i) sc (cs.drop (i*3)) Tryz.underlying26 hsz (by rw[hdl,e])
   (fun j v hj=>by
    rw[Addr.add_lit,hWc,World.cell?_setCells_out _ _ _ _ _ (fun h _=>absurd h hbN),Nat.add_assoc]
    exact hOb _ v (hcs (i*3+j) v (by rwa[List.getElem?_drop]at hj)))
   (fun j hj=>by rw[hWc];exact isSome_sets _ _ _ _ (fun t ht=>hN _ (by omega)) _ (hN _ (by omega)))
   (fun j hj=>by rw[hWf,World.frozen?_setCells];exact hNf _) (fun v hv=>h1c v (List.mem_of_mem_drop hv))
  rwa[e]at this
 subst hW1
 have hE1: ∀x,((w.alloc (.cells ROW 87)).drew).cell? x=(w.drew.alloc (.cells ROW 87)).cell? x:=fun x=>rfl
 have hE2: ∀x,((w.alloc (.cells ROW 87)).drew).frozen? x=(w.drew.alloc (.cells ROW 87)).frozen? x:=fun x=>rfl
 have hF1: ∀x,(((w.alloc (.cells ROW 87)).drew.setCells w.heap.size (i*3) vs).drew).cell? x=((w.drew.alloc (.cells ROW 87)).setCells w.heap.size (i*3) vs).cell? x:=fun x=>rfl
 have hF2: ∀x,(((w.alloc (.cells ROW 87)).drew.setCells w.heap.size (i*3) vs).drew).frozen? x=((w.drew.alloc (.cells ROW 87)).setCells w.heap.size (i*3) vs).frozen? x:=fun x=>rfl
 have hw1:IntKind.i64.wrap ((i:Int)+(m:Int))=(i:Int)+(m:Int):=by rw[IntKind.wrap_i64];omega
 have hw2:IntKind.i64.wrap ((n:Int)+(m:Int))=(n:Int)+(m:Int):=by rw[IntKind.wrap_i64];omega
 have hw3:IntKind.i64.wrap ((n:Int)+(m:Int)-(i:Int))=(n:Int)+(m:Int)-(i:Int):=by rw[IntKind.wrap_i64];omega
 have hb1:(0:Int)≤(i:Int)+(m:Int):=by omega
 have hin:i≤n:=by omega
 have htn:((i:Int)+(m:Int)).toNat=i+m:=by omega
 have hb3:(i:Int)≤(n:Int):=by omega
 obtain⟨A1,hA1⟩: ∃A1:Prop,A1=(n+m≤G∧ROW.size=G*3∧(∀q,q<i*3→ROW[q]?=cs[q]?)):=⟨_,rfl⟩
 have hA:A1:=by rw[hA1];exact⟨hGn,hRs,hRg⟩
 clear hkk hik hold hROW hG hRs hRg
 go_enter Tryz.func117,Tryz.ntmps117
 go_wp2_with (first
  | (at_builtin;refine Lib.wpList_append_run _ rfl _ _ _ _ rfl _ _ rfl rfl _ _ (hrz _) ?_)
  | (at_builtin;refine wpList_copy_runI _ rfl _ _ 26 26 rfl _ _ rfl rfl (hcpA _ hE1 hE2 _ _) ?_)
  | (at_builtin;refine wpList_copy_runI _ rfl _ _ 26 26 rfl _ _ rfl rfl (hcpB _ (fun _=>rfl) (fun _=>rfl) _ _ _) ?_))
 go_region_law (refine step_copy_runI rfl _ _ 26 26 rfl (.slice (some ⟨w.heap.size,(i+m)*3,none⟩) (n+m-(i+m)) (G-(i+m))) (.slice (some ⟨b,off+i*3,none⟩) (n-i) (c-i)) (by simp[Act.eval,Act.put]) (by simp[Act.eval,Act.put]) (hcpB _ hF1 hF2 3 (G-(i+m)) (c-i)) ?_)
 go_wp2
 go_ret
 obtain⟨g1,g2,g3⟩:=hA1▸hA
 exact⟨G,ROW,g1,g2,g3,rfl,rfl⟩
end Go.Proofs.YtkeiedikiiccpaaGreatDoor.Am
