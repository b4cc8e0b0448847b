/- A part of the proof of ScrubMade: lemmas. No conditions beyond those of each lemma. -/
import Derived.Test.YtkeiedikiiccpaaGreatDoorK1
import Derived.Calls
import Derived.Laws.AppendOwn
import Derived.Laws.OwnMore
import Derived.Laws.Slices
import Derived.Laws.Bits
set_option linter.all false
namespace Go.Proofs.YtkeiedikiiccpaaGreatDoor.Am
open Go
def cellsAt (w:World) (b o:Nat) (l:List Value):Prop:= ∀j v,l[j]?=some v→w.cell? ⟨b,o+j,none⟩=some v
def PV (Z:Nat→Prop) (w:World):(t:Ty)→t.den→List Value→Prop
 | .int k,x,l=>l=[.int k x]
 | .bool,x,l=>l=[.bool x]
 | .str,x,l=>l=[.string x]
 | .sl e,xs,l=> ∃a c,l=[.slice a (List.length xs) c]∧List.length xs≤c∧(List.length xs=0∨ ∃b o,a=some ⟨b,o,none⟩∧Z b∧
   ∀i x,(id (α:=List e.den) xs)[i]?=some x→ ∃l,PV Z w e x l∧cellsAt w b (o+i*e.sz) l)
 | .pr a b,x,l=> ∃l1 l2,l=l1++l2∧PV Z w a x.1 l1∧PV Z w b x.2 l2
 | .un,_,l=>l=[]
def RowAt (Z:Nat→Prop) (w:World) (b o:Nat) (e:Ty) (xs:List e.den):Prop:= ∀i x,xs[i]?=some x→ ∃l,PV Z w e x l∧cellsAt w b (o+i*e.sz) l
abbrev Pl:=Option (Nat×Nat×Nat)
structure NI where
 v:Nat
 sz:Nat
 row:Nat→Pl×Nat
 pd:Option (Pl×Nat)
inductive Sh where
 | un
 | no
 | S (sz n:Nat) (p:Pl) (r:Option NI)
 | B (b m:Nat)
def Hdr (sz:Nat) (p:Pl) (off n:Nat) (v:Value):Prop:=
 ∃a c,v= .slice a n c∧n≤c∧(c=0∨ ∃b s m,p=some (b,s,m)∧a=some ⟨b,s+off*sz,none⟩∧off+c≤m)
theorem slenN_eq {α:Type} (xs:List α) (off len:Option Nat):slenN xs.length off len=slen xs off len:=by
 cases off<;>cases len<;>rfl
def HV:Sh→AV→Value→Prop
 | .un,_,_=>False
 | .no,_,v=>v.oneCell'=true
 | .S sz n p _, .sl _ off len,v=>Hdr sz p (ofs off) (slenN n off len) v∧ofs off+slenN n off len≤n
 | .S sz n p _, .ptr _ i o,v=> ∃b s m,p=some (b,s,m)∧v= .pointer (some ⟨b,s+i*sz+o,none⟩)∧i<n
 | .S _ _ _ (some r), .row _ id off len u,v=>(u≤r.v∧v.oneCell'=true)∧(u=r.v→Hdr r.sz (r.row id).1 (ofs off) (slenN (r.row id).2 off len) v∧ofs off+slenN (r.row id).2 off len≤(r.row id).2)
 | .S _ _ _ (some r), .prw _ id j o u,v=>(u≤r.v∧v.oneCell'=true)∧(u=r.v→ ∃b s m,(r.row id).1=some (b,s,m)∧v= .pointer (some ⟨b,s+j*r.sz+o,none⟩)∧j<(r.row id).2)
 | .S _ _ _ (some r), .pap _ u,v=>(u≤r.v∧v.oneCell'=true)∧(u=r.v→ ∀q n,r.pd=some (q,n)→Hdr r.sz q 0 n v)
 | .S _ _ _ none, .row _ _ _ _ _,v=>v.oneCell'=true
 | .S _ _ _ none, .prw _ _ _ _ _,v=>v.oneCell'=true
 | .S _ _ _ none, .pap _ _,v=>v.oneCell'=true
 | .B b _, .ptr _ i o,v=>i=0∧v= .pointer (some ⟨b,o,none⟩)
 | _,_,_=>False
def isL:AV→Bool
 | .e0=>true
 | .cn _ _=>true
 | _=>false
def VR (Z:Nat→Prop) (w:World) (σ:Nat→Sh):AV→List Value→Prop
 | .any,l=> ∃v,l=[v]
 | .nil,l=>l=[.slice none 0 0]
 | .p t x,l=>l.length=1∧PV Z w t x l
 | .k v,l=>l=[v]
 | .sl h off len,l=> ∃v,l=[v]∧HV (σ h) (.sl h off len) v
 | .ptr h i o,l=> ∃v,l=[v]∧HV (σ h) (.ptr h i o) v
 | .row h id off len u,l=> ∃v,l=[v]∧HV (σ h) (.row h id off len u) v
 | .prw h id j o u,l=> ∃v,l=[v]∧HV (σ h) (.prw h id j o u) v
 | .pap h u,l=> ∃v,l=[v]∧HV (σ h) (.pap h u) v
 | .agg cs,l=> ∃c,l=[.agg c]∧VR Z w σ cs c.toList∧isL cs=true
 | .tup vs,l=> ∃c,l=[.tuple c]∧VR Z w σ vs c.toList∧isL vs=true
 | .clo f cs,l=> ∃c,l=[.func (.func f) #[] c]∧VR Z w σ cs c.toList∧isL cs=true
 | .rp cs o,l=> ∃b s c,l=[.pointer (some ⟨b,s+o,none⟩)]∧Z b∧cellsAt w b s c∧VR Z w σ cs c∧isL cs=true
 | .rl e xs i o,l=> ∃b s,l=[.pointer (some ⟨b,s+i*e.sz+o,none⟩)]∧Z b∧i<List.length xs∧RowAt Z w b s e xs
 | .e0,l=>l=[]
 | .cn a b,l=> ∃v r,l=v::r∧VR Z w σ a [v]∧VR Z w σ b r∧isL b=true
def RLe (r' r:NI):Prop:=r.v<r'.v∨(r'.v=r.v∧r'.row=r.row∧r'.sz=r.sz∧(r'.pd=r.pd∨r'.pd=none))
inductive Sle:Sh→Sh→Prop
 | new (s:Sh):Sle s .un
 | dead (s:Sh) (h:s≠ .un):Sle .no s
 | same (s:Sh):Sle s s
 | flat (sz n:Nat) (p:Pl) (r:NI):Sle (.S sz n p none) (.S sz n p (some r))
 | rows (sz n:Nat) (p:Pl) (r r':NI) (h:RLe r' r):Sle (.S sz n p (some r')) (.S sz n p (some r))
theorem RLe.trans {a b c:NI} (h:RLe a b) (k:RLe b c):RLe a c:=by
 rcases h with h|⟨h1,h2,h3,h4⟩<;>rcases k with k|⟨k1,k2,k3,k4⟩
 ·exact .inl (by omega)
 ·exact .inl (by omega)
 ·exact .inl (by omega)
 ·refine .inr ⟨h1.trans k1,h2.trans k2,h3.trans k3,?_⟩
  rcases h4 with h4|h4
  ·rcases k4 with k4|k4
   ·exact .inl (h4.trans k4)
   ·exact .inr (h4.trans k4)
  ·exact .inr h4
theorem Sle.trans {a b c:Sh} (h:Sle a b) (k:Sle b c):Sle a c:=by
 cases k with
 | new=>exact .new _
 | same=>exact h
 | dead s hs=>
  cases h with
  | dead=>exact .dead _ hs
  | same=>exact .dead _ hs
 | flat sz n p r=>
  cases h with
  | dead=>exact .dead _ (by simp)
  | same=>exact .flat _ _ _ _
 | rows sz n p r r' hr=>
  cases h with
  | dead=>exact .dead _ (by simp)
  | same=>exact .rows _ _ _ _ _ hr
  | flat=>exact .flat _ _ _ _
  | rows _ _ _ _ r'' hr'=>exact .rows _ _ _ _ _ (hr'.trans hr)
theorem HV.one {s:Sh} {x:AV} {v:Value} (h:HV s x v):v.oneCell'=true:=by
 match s,x,h with
 | .no,_,h=>cases ‹AV› <;>exact h
 | .S sz n p r, .sl _ off len,h=>
  cases r<;>(obtain⟨⟨a,c,rfl,_⟩,_⟩:=h;rfl)
 | .S sz n p r, .ptr _ i o,h=>
  cases r<;>(obtain⟨b,s,m,_,rfl,_⟩:=h;rfl)
 | .S _ _ _ (some r), .row _ id off len u,h=>exact h.1.2
 | .S _ _ _ (some r), .prw _ id j o u,h=>exact h.1.2
 | .S _ _ _ (some r), .pap _ u,h=>exact h.1.2
 | .S _ _ _ none, .row _ _ _ _ _,h=>exact h
 | .S _ _ _ none, .prw _ _ _ _ _,h=>exact h
 | .S _ _ _ none, .pap _ _,h=>exact h
 | .B b _, .ptr _ i o,h=>obtain⟨_,rfl⟩:=h;rfl
theorem HV.mono {s s':Sh} {x:AV} {v:Value} (h:HV s x v) (hs:Sle s' s):HV s' x v:=by
 cases hs with
 | new=>exact h.elim
 | dead=>have:=h.one;cases x<;>exact this
 | same=>exact h
 | flat sz n p r=>have:=h.one;cases x<;>simp_all [HV]
 | rows sz n p r r' hr=>
  cases x<;>simp only[HV]at h ⊢ <;>try exact h
  case row _ id off len u=>
   refine⟨⟨?_,h.1.2⟩,fun e=>?_⟩
   ·have:=h.1.1;rcases hr with hr|hr<;>omega
   ·rcases hr with hr|⟨h1,h2,h3,h4⟩
    ·have:=h.1.1;omega
    ·rw[h2,h3];exact h.2 (e.trans h1)
  case prw _ id j o u=>
   refine⟨⟨?_,h.1.2⟩,fun e=>?_⟩
   ·have:=h.1.1;rcases hr with hr|hr<;>omega
   ·rcases hr with hr|⟨h1,h2,h3,h4⟩
    ·have:=h.1.1;omega
    ·rw[h2,h3];exact h.2 (e.trans h1)
  case pap _ u=>
   refine⟨⟨?_,h.1.2⟩,fun e q n hq=>?_⟩
   ·have:=h.1.1;rcases hr with hr|hr<;>omega
   ·rcases hr with hr|⟨h1,h2,h3,h4⟩
    ·have:=h.1.1;omega
    ·rw[h3]
     rcases h4 with h4|h4
     ·exact h.2 (e.trans h1) q n (h4▸hq)
     ·rw[h4]at hq;cases hq
structure Kept (Z:Nat→Prop) (w:World) (Z':Nat→Prop) (w':World):Prop where
 z: ∀b,Z b→Z' b
 same: ∀b,Z b→w'.heap[b]?=w.heap[b]?
theorem Kept.trans {Z Z' Z'':Nat→Prop} {w w' w'':World} (h:Kept Z w Z' w') (k:Kept Z' w' Z'' w''):Kept Z w Z'' w'':=
 ⟨fun b hb=>k.z b (h.z b hb),fun b hb=>(k.same b (h.z b hb)).trans (h.same b hb)⟩
theorem Kept.refl (Z:Nat→Prop) (w:World):Kept Z w Z w:=⟨fun _ h=>h,fun _ _=>rfl⟩
theorem cellsAt.of_same {w w':World} {b o:Nat} {l:List Value} (h:cellsAt w b o l) (e:w'.heap[b]?=w.heap[b]?):cellsAt w' b o l:=fun j v hj=>by
 rw[World.cell?_of_block (w:=w) (a:=⟨b,o+j,none⟩) e]
 exact h j v hj
theorem PV.kept {Z Z':Nat→Prop} {w w':World} (k:Kept Z w Z' w'): ∀(t:Ty) {x:t.den} {l:List Value},PV Z w t x l→PV Z' w' t x l
 | .int _,_,_,h=>h
 | .bool,_,_,h=>h
 | .str,_,_,h=>h
 | .un,_,_,h=>h
 | .pr a b,_,_,h=>by
  obtain⟨l1,l2,e,h1,h2⟩:=h
  exact⟨l1,l2,e,PV.kept k a h1,PV.kept k b h2⟩
 | .sl e,_,_,h=>by
  obtain⟨a,c,hl,hc,h⟩:=h
  refine⟨a,c,hl,hc,?_⟩
  rcases h with h|⟨b,o,ha,hz,h⟩
  ·exact .inl h
  ·refine .inr ⟨b,o,ha,k.z b hz,fun i x hx=>?_⟩
   obtain⟨l,h1,h2⟩:=h i x hx
   exact⟨l,PV.kept k e h1,h2.of_same (k.same b hz)⟩
theorem RowAt.kept {Z Z':Nat→Prop} {w w':World} (k:Kept Z w Z' w') {b o:Nat} {e:Ty} {xs:List e.den} (h:RowAt Z w b o e xs) (hb:w'.heap[b]?=w.heap[b]?):
  RowAt Z' w' b o e xs:=fun i x hx=>by
 obtain⟨l,h1,h2⟩:=h i x hx
 exact⟨l,h1.kept k,h2.of_same hb⟩
theorem VR.mono {Z Z':Nat→Prop} {w w':World} {σ σ':Nat→Sh} (k:Kept Z w Z' w'): ∀{v:AV} {l:List Value},VR Z w σ v l→(∀h∈hs v,Sle (σ' h) (σ h))→VR Z' w' σ' v l
 | .any,_,h,_=>h
 | .nil,_,h,_=>h
 | .k _,_,h,_=>h
 | .e0,_,h,_=>h
 | .p t _,_,h,_=>⟨h.1,PV.kept k t h.2⟩
 | .sl h off len,_,hv,hh=>by
  obtain⟨v,e,hv⟩:=hv
  exact⟨v,e,hv.mono (hh h (by simp[hs]))⟩
 | .ptr h off len,_,hv,hh=>by
  obtain⟨v,e,hv⟩:=hv
  exact⟨v,e,hv.mono (hh h (by simp[hs]))⟩
 | .row h _ _ _ _,_,hv,hh=>by
  obtain⟨v,e,hv⟩:=hv
  exact⟨v,e,hv.mono (hh h (by simp[hs]))⟩
 | .prw h _ _ _ _,_,hv,hh=>by
  obtain⟨v,e,hv⟩:=hv
  exact⟨v,e,hv.mono (hh h (by simp[hs]))⟩
 | .pap h _,_,hv,hh=>by
  obtain⟨v,e,hv⟩:=hv
  exact⟨v,e,hv.mono (hh h (by simp[hs]))⟩
 | .agg cs,_,hv,hh=>by
  obtain⟨c,e,hv,il⟩:=hv
  exact⟨c,e,VR.mono k hv fun h m=>hh h (by simpa[hs]using m),il⟩
 | .tup cs,_,hv,hh=>by
  obtain⟨c,e,hv,il⟩:=hv
  exact⟨c,e,VR.mono k hv fun h m=>hh h (by simpa[hs]using m),il⟩
 | .clo f cs,_,hv,hh=>by
  obtain⟨c,e,hv,il⟩:=hv
  exact⟨c,e,VR.mono k hv fun h m=>hh h (by simpa[hs]using m),il⟩
 | .rp cs o,_,hv,hh=>by
  obtain⟨b,s,c,e,hz,hc,hv,il⟩:=hv
  exact⟨b,s,c,e,k.z b hz,hc.of_same (k.same b hz),VR.mono k hv fun h m=>hh h (by simpa[hs]using m),il⟩
 | .rl _ _ _ _,_,hv,_=>by
  obtain⟨b,s,e,hz,hi,hr⟩:=hv
  exact⟨b,s,e,k.z b hz,hi,hr.kept k (k.same b hz)⟩
 | .cn a b,_,hv,hh=>by
  obtain⟨v,r,e,h1,h2,il⟩:=hv
  exact⟨v,r,e,VR.mono k h1 fun h m=>hh h (by simp[hs,m]),VR.mono k h2 fun h m=>hh h (by simp[hs,m]),il⟩
def Blk (w:World) (b n:Nat):Prop:= ∃c el,w.heap[b]?=some (.cells c el (0,0))∧n≤c.size
theorem Blk.kept {w w':World} {b n:Nat} (h:Blk w b n) (e:w'.heap[b]?=w.heap[b]?):Blk w' b n:=by
 obtain⟨c,el,h1,h2⟩:=h
 exact⟨c,el,e.trans h1,h2⟩
def Own (Z:Nat→Prop) (w:World) (p:Pl) (e:Ty) (xs:List e.den):Prop:=match p with
 | none=>xs=[]
 | some (b,s,m)=>xs.length≤m∧Blk w b (s+m*e.sz)∧ ¬Z b∧RowAt Z w b s e xs
def plB:Pl→Nat→Prop
 | none,_=>False
 | some (b,_,_),c=>c=b
theorem Own.kept {Z Z':Nat→Prop} {w w':World} (k:Kept Z w Z' w') {p:Pl} {e:Ty} {xs:List e.den} (h:Own Z w p e xs) (hb: ∀b,plB p b→w'.heap[b]?=w.heap[b]?)
  (hz: ∀b,plB p b→ ¬Z' b):Own Z' w' p e xs:=by
 match p,h with
 | none,h=>exact h
 | some (b,s,m),⟨h1,h2,h3,h4⟩=>exact⟨h1,h2.kept (hb b rfl),hz b rfl,h4.kept k (hb b rfl)⟩
structure Rws (Z:Nat→Prop) (w:World) (e:Ty) (ids:Option (List Nat)) (st:List (List e.den)) (pd:Option (Nat×List e.den)) (p:Pl) (r:NI):Prop where
 sz:r.sz=e.sz
 out: ∀i,st.length≤i→r.row i=(none,0)
 len: ∀i xs,st[i]?=some xs→(r.row i).2=xs.length
 own: ∀i xs,st[i]?=some xs→Own Z w (r.row i).1 e xs
 head: ∀i,i<numOf ids st→ ∃b s m x,p=some (b,s,m)∧w.cell? ⟨b,s+i,none⟩=some x∧Hdr e.sz (r.row (idAt ids i)).1 0 (r.row (idAt ids i)).2 x
 blk: ∀b s m,p=some (b,s,m)→numOf ids st≤m∧Blk w b (s+m)∧ ¬Z b
 off: ∀b i,plB p b→i<st.length→ ¬plB (r.row i).1 b
 sep: ∀b i j,i<st.length→j<st.length→plB (r.row i).1 b→plB (r.row j).1 b→i=j
 pd0:pd=none→r.pd=none
 pd1: ∀id xs,pd=some (id,xs)→ ∃q,r.pd=some (q,xs.length)∧Own Z w q e xs∧(∀b,plB q b→ ¬plB p b)∧ ∀b j,plB q b→j<st.length→plB (r.row j).1 b→j=id
def OR (Z:Nat→Prop) (w:World) (σ:Nat→Sh):Ob→Sh→Prop
 | .dead,s=>s≠ .un
 | .L e xs,s=> ∃p,s= .S e.sz xs.length p none∧Own Z w p e xs
 | .F e xs,s=> ∃p,s= .S e.sz xs.length p none∧(xs=[]∨ ∃b o m,p=some (b,o,m)∧Z b∧RowAt Z w b o e xs)
 | .B cs,s=> ∃b c el,s= .B b cs.len∧w.heap[b]?=some (.cells c el (0,0))∧ ¬Z b∧VR Z w σ cs c.toList∧isL cs=true
 | .N e ids st v pd,s=> ∃p r,s= .S 1 (numOf ids st) p (some r)∧r.v=v∧Rws Z w e ids st pd p r
def blks:Ob→Sh→Nat→Prop
 | .L _ _, .S _ _ p _,b=>plB p b
 | .B _, .B b' _,b=>b=b'
 | .N _ _ st _ pd, .S _ _ p (some r),b=>plB p b∨(∃i,i<st.length∧plB (r.row i).1 b)∨(pd.isSome∧ ∃q n,r.pd=some (q,n)∧plB q b)
 | _,_,_=>False
theorem OR.kept {Z Z':Nat→Prop} {w w':World} {σ σ':Nat→Sh} (k:Kept Z w Z' w') {o:Ob} {s:Sh} (h:OR Z w σ o s) (hs: ∀h∈obHs o,Sle (σ' h) (σ h))
  (hb: ∀b,blks o s b→w'.heap[b]?=w.heap[b]?) (hz: ∀b,blks o s b→ ¬Z' b):OR Z' w' σ' o s:=by
 cases o with
 | dead=>exact h
 | L e xs=>
  obtain⟨p,rfl,h⟩:=h
  exact⟨p,rfl,h.kept k hb hz⟩
 | F e xs=>
  obtain⟨p,rfl,h⟩:=h
  refine⟨p,rfl,?_⟩
  rcases h with h|⟨b,o,m,hp,h1,h2⟩
  ·exact .inl h
  ·exact .inr ⟨b,o,m,hp,k.z b h1,h2.kept k (k.same b h1)⟩
 | B cs=>
  obtain⟨b,c,el,rfl,h1,h2,h3,il⟩:=h
  exact⟨b,c,el,rfl,(hb b rfl).trans h1,hz b rfl,h3.mono k hs,il⟩
 | N e ids st v pd=>
  obtain⟨p,r,rfl,hv,h⟩:=h
  have hp: ∀b,plB p b→blks (.N e ids st v pd) (.S 1 (numOf ids st) p (some r)) b:=fun b h=> .inl h
  have hr: ∀i b,i<st.length→plB (r.row i).1 b→blks (.N e ids st v pd) (.S 1 (numOf ids st) p (some r)) b:=fun i b hi h=> .inr (.inl ⟨i,hi,h⟩)
  refine⟨p,r,rfl,hv,{ sz:=h.sz,out:=h.out,len:=h.len,off:=h.off,sep:=h.sep,pd0:=h.pd0,own:=?_,head:=?_,blk:=?_,pd1:=?_ }⟩
  ·intro i xs hx
   have hi:i<st.length:=(List.getElem?_eq_some_iff.1 hx).1
   exact(h.own i xs hx).kept k (fun b hb'=>hb b (hr i b hi hb')) (fun b hb'=>hz b (hr i b hi hb'))
  ·intro i hi
   obtain⟨b,s,m,x,h1,h2,h3⟩:=h.head i hi
   refine⟨b,s,m,x,h1,?_,h3⟩
   rw[World.cell?_of_block (w:=w) (a:=⟨b,s+i,none⟩) (hb b (hp b (by simp[h1,plB])))]
   exact h2
  ·intro b s m hp'
   obtain⟨h1,h2,h3⟩:=h.blk b s m hp'
   have:plB p b:=by simp[hp',plB]
   exact⟨h1,h2.kept (hb b (hp b this)),hz b (hp b this)⟩
  ·intro id xs hpd
   obtain⟨q,h1,h2,h3,h4⟩:=h.pd1 id xs hpd
   have hq: ∀b,plB q b→blks (.N e ids st v pd) (.S 1 (numOf ids st) p (some r)) b:=fun b h=> .inr (.inr ⟨by simp[hpd],q,_,h1,h⟩)
   exact⟨q,h1,h2.kept k (fun b h=>hb b (hq b h)) (fun b h=>hz b (hq b h)),h3,h4⟩
structure MR (gv:Nat→AV) (Z:Nat→Prop) (w:World) (σ:Nat→Sh) (hp:Nat→Ob):Prop where
 ob: ∀h,σ h≠ .un→OR Z w σ (hp h) (σ h)
 un: ∀h,σ h= .un→hp h= .dead
 sep: ∀h h' b,blks (hp h) (σ h) b→blks (hp h') (σ h') b→h=h'
 zlt: ∀b,Z b→b<w.heap.size
 gl: ∀g,VR Z w σ (gv g) [.pointer (some ⟨g,0,none⟩)]
def owned (σ:Nat→Sh) (hp:Nat→Ob) (b:Nat):Prop:= ∃h,blks (hp h) (σ h) b
structure Ext (Z:Nat→Prop) (w:World) (σ:Nat→Sh) (hp:Nat→Ob) (Z':Nat→Prop) (w':World) (σ':Nat→Sh) (hp':Nat→Ob):Prop where
 os:w'.os=w.os
 tape:w'.tape=w.tape
 out:w'.output=w.output
 size:w.heap.size≤w'.heap.size
 same: ∀b,b<w.heap.size→ ¬owned σ hp b→w'.heap[b]?=w.heap[b]?
 z: ∀b,Z b→Z' b
 zn: ∀b,Z' b→Z b∨owned σ hp b∨w.heap.size≤b
 own: ∀b,owned σ' hp' b→owned σ hp b∨w.heap.size≤b
theorem Ext.refl (Z:Nat→Prop) (w:World) (σ:Nat→Sh) (hp:Nat→Ob):Ext Z w σ hp Z w σ hp:=
 ⟨rfl,rfl,rfl,Nat.le_refl _,fun _ _ _=>rfl,fun _ h=>h,fun _ h=> .inl h,fun _ h=> .inl h⟩
theorem Ext.trans {Z Z' Z'':Nat→Prop} {w w' w'':World} {σ σ' σ'':Nat→Sh} {hp hp' hp'':Nat→Ob} (h:Ext Z w σ hp Z' w' σ' hp') (k:Ext Z' w' σ' hp' Z'' w'' σ'' hp''):
  Ext Z w σ hp Z'' w'' σ'' hp'':=by
 refine⟨k.os.trans h.os,k.tape.trans h.tape,k.out.trans h.out,Nat.le_trans h.size k.size,fun b hb ho=>?_,fun b hb=>k.z b (h.z b hb),fun b hb=>?_,fun b hb=>?_⟩
 ·have: ¬owned σ' hp' b:=fun ho'=>(h.own b ho').elim ho (fun hs=>by omega)
  exact(k.same b (Nat.lt_of_lt_of_le hb h.size) this).trans (h.same b hb ho)
 ·rcases k.zn b hb with hz|hz|hz
  ·exact h.zn b hz
  ·rcases h.own b hz with hz|hz
   ·exact .inr (.inl hz)
   ·exact .inr (.inr hz)
  ·exact .inr (.inr (Nat.le_trans h.size hz))
 ·rcases k.own b hb with hz|hz
  ·exact h.own b hz
  ·exact .inr (Nat.le_trans h.size hz)
theorem blks_lt {Z:Nat→Prop} {w:World} {σ:Nat→Sh} {o:Ob} {s:Sh} (h:OR Z w σ o s) {b:Nat} (hb:blks o s b):b<w.heap.size∧ ¬Z b:=by
 have ho: ∀{p:Pl} {e:Ty} {xs:List e.den},Own Z w p e xs→plB p b→b<w.heap.size∧ ¬Z b:=by
  intro p e xs h hp
  match p,h,hp with
  | some (b',s,m),⟨_,⟨c,el,h2,_⟩,h3,_⟩,e=>cases e;exact⟨(Array.getElem?_eq_some_iff.1 h2).1,h3⟩
 cases o with
 | dead=>cases s<;>exact hb.elim
 | L e xs=>
  obtain⟨p,rfl,h⟩:=h
  exact ho h hb
 | F e xs=>
  obtain⟨p,rfl,h⟩:=h
  exact hb.elim
 | B cs=>
  obtain⟨b,c,el,rfl,h1,h2,h3⟩:=h
  cases hb
  exact⟨(Array.getElem?_eq_some_iff.1 h1).1,h2⟩
 | N e ids st v pd=>
  obtain⟨p,r,rfl,hv,h⟩:=h
  rcases hb with hb|⟨i,hi,hb⟩|⟨hpd,q,n,hq,hb⟩
  ·match p,hb,h.blk with
   | some (b',s,m),e,hk=>
    cases e
    obtain⟨_,⟨c,el,h2,_⟩,h3⟩:=hk b s m rfl
    exact⟨(Array.getElem?_eq_some_iff.1 h2).1,h3⟩
  ·exact ho (h.own i st[i] (by simp[hi])) hb
  ·obtain⟨⟨id,xs⟩,hpd⟩:=Option.isSome_iff_exists.1 hpd
   obtain⟨q',h1,h2,_⟩:=h.pd1 id xs hpd
   rw[hq]at h1
   cases h1
   exact ho h2 hb
theorem MR.olt {gv:Nat→AV} {Z:Nat→Prop} {w:World} {σ:Nat→Sh} {hp:Nat→Ob} (h:MR gv Z w σ hp) {b:Nat} (hb:owned σ hp b):b<w.heap.size∧ ¬Z b:=by
 obtain⟨g,hb⟩:=hb
 refine blks_lt (h.ob g fun e=>?_) hb
 rw[h.un g e]at hb
 cases hs:σ g<;>rw[hs]at hb<;>exact hb.elim
def uChk:TypeDesc→UK→Bool
 | .int k, .int k'=>decide (k=k')
 | .bool, .bool=>true
 | .string, .str=>true
 | .slice e, .sl e'=>Nat.beq e e'
 | .struct fs, .st gs=>decide (fs.toList.map (fun f=>(f.offset,f.type))=gs)
 | .array n e, .ar n' e'=>Nat.beq n n'&&Nat.beq e e'
 | .pointer e, .pt e'=>Nat.beq e e'
 | .func _ _ _, .fn=>true
 | _,_=>false
def vChk:AV→Value→Bool
 | .p (.int k) x, .int k' y=>decide (k=k')&&decide (id (α:=Int) x=y)
 | .p .bool x, .bool y=>id (α:=Bool) x==y
 | .p .str x, .string y=>Nat.beq (ByteArray.size x) 0&&Nat.beq y.size 0
 | .p (.sl _) xs, .slice none 0 0=>List.isEmpty xs
 | .nil, .slice none 0 0=>true
 | .k (.pointer none), .pointer none=>true
 | .k .nilFunc, .nilFunc=>true
 | .k (.map none), .map none=>true
 | .k .nilIface, .nilIface=>true
 | _,_=>false
def zChk:AV→List Value→Bool
 | .cn a b,v::r=>vChk a v&&zChk b r
 | .e0,[]=>true
 | _,_=>false
def abChk (T:TI):Bool:=(T.agg||Nat.beq T.size 1)&&match T.ab with
 | none=>true
 | some (e,m)=>Nat.beq T.size (m*e.sz)&&match T.u with
  | .ar _ _=>true
  | _=>false
def dChk (P:Program):TypeDesc→Bool
 | .struct fs=>fs.toList.all fun f=>(P.info? f.type).isSome
 | .array _ e=>(P.info? e).isSome
 | _=>true
def cqL (q:TypeId→Option (List Bool)):List Field→Nat→Option (List Bool)
 | [],_=>some []
 | f::r,o=>if f.offset=o∧f.name≠ "_" then match q f.type with
  | some l=>(cqL q r (o+l.length)).map (l++ ·)
  | none=>none
  else none
def cqF (P:Program):Nat→TypeId→Option (List Bool)
 | 0,_=>none
 | d+1,t=>match P.underlying t,P.info? t with
  | some (.int _),some i=>if i.size=1 then some [true]else none
  | some .bool,some i=>if i.size=1 then some [false]else none
  | some (.struct fs),some i=>if P.stoodInHeld t=false then match cqL (cqF P d) fs.toList 0 with
   | some l=>if l.length=i.size then some l else none
   | none=>none
   else none
  | _,_=>none
def tiChk (P:Program) (t:Nat) (T:TI):Bool:=match P.info? t with
 | some i=>Nat.beq i.size T.size&&Nat.beq i.bytes T.bytes&&(match i.zero with
  | some z=>zChk T.z z.cells.toList&&(!T.eok||zChk (toC T.ec T.ec.zero) z.cells.toList)
  | none=>false)&&(match P.underlying t with
  | some d=>uChk d T.u&&dChk P d
  | none=>false)&&abChk T&&(!T.cq||(decide (cqF P 8 t=some (kd T.z))&&!P.eqGuardType P.depth t))
 | none=>false
def TT.all (f:Nat→TI→Bool):TT→Bool
 | .lf=>true
 | .nd i v l r=>f i v&&l.all f&&r.all f
section
variable {Z:Nat→Prop} {w:World} {σ:Nat→Sh}
theorem VR.len: ∀{cs:AV} {l:List Value},VR Z w σ cs l→isL cs=true→cs.len=l.length
 | .e0,_,h,_=>by cases h;rfl
 | .cn a b,_,h,_=>by
  obtain⟨v,r,rfl,_,h2,il⟩:=h
  simp[AV.len,VR.len h2 il]
theorem VR.nth: ∀{cs:AV} {l:List Value} {i:Nat},VR Z w σ cs l→i<cs.len→ ∃v,l[i]?=some v∧VR Z w σ (cs.nth i) [v]
 | .cn a b,_,0,h,_=>by
  obtain⟨v,r,rfl,h1,_,_⟩:=h
  exact⟨v,rfl,h1⟩
 | .cn a b,_,i+1,h,hi=>by
  obtain⟨v,r,rfl,_,h2,il⟩:=h
  obtain⟨u,h3,h4⟩:=VR.nth (i:=i) h2 (by simp[AV.len]at hi;omega)
  exact⟨u,by simpa using h3,h4⟩
theorem VR.drop: ∀{cs:AV} {l:List Value} {n:Nat},VR Z w σ cs l→isL cs=true→VR Z w σ (cs.drop n) (l.drop n)∧isL (cs.drop n)=true
 | .e0,_,0,h,_=>by cases h;exact⟨rfl,rfl⟩
 | .e0,_,n+1,h,_=>by cases h;exact⟨rfl,rfl⟩
 | .cn a b,_,0,h,_=>⟨by simpa[AV.drop]using h,rfl⟩
 | .cn a b,_,n+1,h,_=>by
  obtain⟨v,r,rfl,_,h2,il⟩:=h
  simpa[AV.drop]using VR.drop (n:=n) h2 il
theorem isL_take: ∀(cs:AV) (n:Nat),isL (cs.take n)=true:=by
 intro cs n
 cases cs<;>cases n<;>rfl
theorem VR.take: ∀{cs:AV} {l:List Value} {n:Nat},VR Z w σ cs l→isL cs=true→VR Z w σ (cs.take n) (l.take n)
 | .e0,_,0,h,_=>by cases h;rfl
 | .e0,_,n+1,h,_=>by cases h;rfl
 | .cn a b,_,0,h,_=>by simp[AV.take,VR]
 | .cn a b,_,n+1,h,_=>by
  obtain⟨v,r,rfl,h1,h2,il⟩:=h
  exact⟨v,r.take n,by simp,h1,VR.take h2 il,isL_take b n⟩
theorem isL_app {a b:AV} (ha:isL a=true) (hb:isL b=true):isL (a.app b)=true:=by
 cases a<;>first|rfl|exact hb|cases ha
theorem VR.app: ∀{a b:AV} {l m:List Value},VR Z w σ a l→isL a=true→VR Z w σ b m→isL b=true→VR Z w σ (a.app b) (l++m)
 | .e0,_,_,_,h,_,h2,_=>by cases h;simpa[AV.app]using h2
 | .cn a b,c,_,_,h,_,h2,il2=>by
  obtain⟨v,r,rfl,h3,h4,il⟩:=h
  exact⟨v,_,rfl,h3,VR.app h4 il h2 il2,isL_app il il2⟩
theorem isL_toC: ∀(e:Ty) (x:e.den),isL (toC e x)=true
 | .pr a b,x=>isL_app (isL_toC a x.1) (isL_toC b x.2)
 | .un,_=>rfl
 | .int _,_=>rfl
 | .bool,_=>rfl
 | .str,_=>rfl
 | .sl _,_=>rfl
theorem PV.length: ∀(e:Ty) {x:e.den} {l:List Value},PV Z w e x l→l.length=e.sz
 | .pr a b,x,_,h=>by
  obtain⟨l1,l2,rfl,h1,h2⟩:=h
  simp[Ty.sz,PV.length a h1,PV.length b h2]
 | .un,_,_,h=>by cases h;rfl
 | .int _,_,_,h=>by cases h;rfl
 | .bool,_,_,h=>by cases h;rfl
 | .str,_,_,h=>by cases h;rfl
 | .sl _,_,_,h=>by
  obtain⟨a,c,rfl,_⟩:=h
  rfl
theorem PV.one: ∀(e:Ty) {x:e.den} {l:List Value},PV Z w e x l→ ∀v∈l,v.oneCell'=true
 | .pr a b,x,_,h,v,hv=>by
  obtain⟨l1,l2,rfl,h1,h2⟩:=h
  rcases List.mem_append.1 hv with hv|hv
  ·exact PV.one a h1 v hv
  ·exact PV.one b h2 v hv
 | .un,_,_,h,v,hv=>by cases h;cases hv
 | .int _,_,_,h,v,hv=>by cases h;simp at hv;subst hv;rfl
 | .bool,_,_,h,v,hv=>by cases h;simp at hv;subst hv;rfl
 | .str,_,_,h,v,hv=>by cases h;simp at hv;subst hv;rfl
 | .sl _,_,_,h,v,hv=>by
  obtain⟨a,c,rfl,_⟩:=h
  simp at hv;subst hv;rfl
theorem PV.toC: ∀(e:Ty) {x:e.den} {l:List Value},PV Z w e x l→VR Z w σ (Am.toC e x) l
 | .pr a b,x,_,h=>by
  obtain⟨l1,l2,rfl,h1,h2⟩:=h
  exact VR.app (PV.toC a h1) (isL_toC a x.1) (PV.toC b h2) (isL_toC b x.2)
 | .un,_,_,h=>h
 | .int k,_,l,h=>by have h0:l=_:=h;subst h0;exact⟨_,[],rfl,⟨rfl,h⟩,rfl,rfl⟩
 | .bool,_,l,h=>by have h0:l=_:=h;subst h0;exact⟨_,[],rfl,⟨rfl,h⟩,rfl,rfl⟩
 | .str,_,l,h=>by have h0:l=_:=h;subst h0;exact⟨_,[],rfl,⟨rfl,h⟩,rfl,rfl⟩
 | .sl _,_,l,h=>by
  have h0:=h
  obtain⟨a,c,rfl,_⟩:=h0
  exact⟨_,[],rfl,⟨rfl,h⟩,rfl,rfl⟩
theorem cast_eq {t u:Ty} {x:t.den} {y:u.den} (h:cast t u x=some y): ∃e:t=u,e▸x=y:=by
 unfold cast at h
 split at h
 ·rename_i e
  exact⟨e,by simpa using h⟩
 ·cases h
theorem castA_PV {t:Ty} {v:AV} {x:t.den} {u:Value} (h:castA t v=some x) (hv:VR Z w σ v [u]):PV Z w t x [u]:=by
 cases v<;>simp only[castA,reduceCtorEq]at h
 case p t' y=>
  obtain⟨e,rfl⟩:=cast_eq h
  subst e
  exact hv.2
 case nil=>
  cases t<;>simp only[reduceCtorEq]at h
  case sl e=>
   cases h
   cases hv
   exact⟨none,0,rfl,Nat.le_refl _, .inl rfl⟩
theorem ofC_PV: ∀(e:Ty) {cs r:AV} {x:e.den} {l:List Value},ofC e cs=some (x,r)→VR Z w σ cs l→isL cs=true→
  ∃l1 l2,l=l1++l2∧PV Z w e x l1∧VR Z w σ r l2∧isL r=true
 | .pr a b,cs,r,x,l,h,hv,il=>by
  simp only[ofC]at h
  split at h
  ·rename_i y s h1
   split at h
   ·rename_i z s' h2
    cases h
    obtain⟨l1,l2,rfl,h3,h4,il2⟩:=ofC_PV a h1 hv il
    obtain⟨l3,l4,rfl,h5,h6,il3⟩:=ofC_PV b h2 h4 il2
    exact⟨l1++l3,l4,by simp,⟨l1,l3,rfl,h3,h5⟩,h6,il3⟩
   ·cases h
  ·cases h
 | .un,cs,r,x,l,h,hv,il=>by
  cases h
  exact⟨[],l,rfl,rfl,hv,il⟩
 | .int k,cs,r,x,l,h,hv,il=>by
  cases cs<;>simp only[ofC,reduceCtorEq]at h
  obtain⟨y,hy,e⟩:=Option.map_eq_some_iff.1 h
  cases e
  obtain⟨v,r',rfl,h1,h2,il2⟩:=hv
  exact⟨[v],r',rfl,castA_PV hy h1,h2,il2⟩
 | .bool,cs,r,x,l,h,hv,il=>by
  cases cs<;>simp only[ofC,reduceCtorEq]at h
  obtain⟨y,hy,e⟩:=Option.map_eq_some_iff.1 h
  cases e
  obtain⟨v,r',rfl,h1,h2,il2⟩:=hv
  exact⟨[v],r',rfl,castA_PV hy h1,h2,il2⟩
 | .str,cs,r,x,l,h,hv,il=>by
  cases cs<;>simp only[ofC,reduceCtorEq]at h
  obtain⟨y,hy,e⟩:=Option.map_eq_some_iff.1 h
  cases e
  obtain⟨v,r',rfl,h1,h2,il2⟩:=hv
  exact⟨[v],r',rfl,castA_PV hy h1,h2,il2⟩
 | .sl e',cs,r,x,l,h,hv,il=>by
  cases cs<;>simp only[ofC,reduceCtorEq]at h
  obtain⟨y,hy,e⟩:=Option.map_eq_some_iff.1 h
  cases e
  obtain⟨v,r',rfl,h1,h2,il2⟩:=hv
  exact⟨[v],r',rfl,castA_PV hy h1,h2,il2⟩
theorem ofCs_PV (e:Ty): ∀(m:Nat) {cs:AV} {xs:List e.den} {l:List Value},ofCs e m cs=some xs→VR Z w σ cs l→isL cs=true→
  xs.length=m∧l.length=m*e.sz∧ ∀i x,xs[i]?=some x→ ∃l1,PV Z w e x l1∧ ∀j v,l1[j]?=some v→l[i*e.sz+j]?=some v
 | 0,cs,xs,l,h,hv,il=>by
  cases cs<;>simp only[ofCs,reduceCtorEq]at h
  cases h
  cases hv
  exact⟨rfl,by simp,by simp⟩
 | m+1,cs,xs,l,h,hv,il=>by
  simp only[ofCs]at h
  split at h
  ·rename_i y s h1
   obtain⟨ys,h2,e2⟩:=Option.map_eq_some_iff.1 h
   subst e2
   obtain⟨l1,l2,rfl,h3,h4,il2⟩:=ofC_PV e h1 hv il
   obtain⟨h5,h6,h7⟩:=ofCs_PV e m h2 h4 il2
   have hl:=PV.length e h3
   refine⟨by simp[h5],by rw[List.length_append,hl,h6,Nat.add_mul];omega,fun i x hx=>?_⟩
   cases i with
   | zero=>
    simp only[List.getElem?_cons_zero,Option.some.injEq]at hx
    subst hx
    exact⟨l1,h3,fun j v hj=>by
     rw[List.getElem?_append_left]
     ·simpa using hj
     ·have:=(List.getElem?_eq_some_iff.1 hj).1
      omega⟩
   | succ i=>
    obtain⟨l3,h8,h9⟩:=h7 i x (by simpa using hx)
    refine⟨l3,h8,fun j v hj=>?_⟩
    rw[List.getElem?_append_right (by rw[hl,Nat.add_mul];omega)]
    have:=h9 j v hj
    rw[←this]
    congr 1
    rw[hl,Nat.add_mul]
    omega
  ·cases h
end
theorem tiChk_info {P:Program} {t:Nat} {T:TI} (h:tiChk P t T=true): ∃i z d,P.info? t=some i∧i.size=T.size∧i.bytes=T.bytes∧i.zero=some z∧zChk T.z z.cells.toList=true∧
  (T.eok=true→zChk (toC T.ec T.ec.zero) z.cells.toList=true)∧P.underlying t=some d∧uChk d T.u=true∧abChk T=true∧dChk P d=true∧(T.cq=true→cqF P 8 t=some (kd T.z)∧P.eqGuardType P.depth t=false):=by
 unfold tiChk at h
 split at h
 ·rename_i i hi
  simp only[Bool.and_eq_true]at h
  obtain⟨⟨⟨⟨⟨h1,h2⟩,h3⟩,h4⟩,h5⟩,h6⟩:=h
  split at h3
  ·rename_i z hz
   split at h4
   ·rename_i d hd
    simp only[Bool.and_eq_true,Bool.or_eq_true,Bool.not_eq_true',decide_eq_true_eq]at h3 h6 h4
    exact⟨i,z,d,hi,Nat.eq_of_beq_eq_true h1,Nat.eq_of_beq_eq_true h2,hz,h3.1,fun he=>h3.2.resolve_left (by simp[he]),hd,h4.1,h5,h4.2,fun hc=>h6.resolve_left (by simp[hc])⟩
   ·cases h4
  ·cases h3
 ·cases h
section
variable {Z:Nat→Prop} {w:World} {σ:Nat→Sh}
theorem vChk_VR {a:AV} {v:Value} (h:vChk a v=true):VR Z w σ a [v]:=by
 unfold vChk at h
 split at h<;>try (exact rfl)
 ·simp only[Bool.and_eq_true,decide_eq_true_eq]at h
  obtain⟨rfl,h⟩:=h
  cases h
  exact⟨rfl,rfl⟩
 ·simp only[beq_iff_eq]at h
  cases h
  exact⟨rfl,rfl⟩
 ·rename_i x y
  simp only[Bool.and_eq_true]at h
  refine⟨rfl,?_⟩
  have h1:=Nat.eq_of_beq_eq_true h.1
  have h2:=Nat.eq_of_beq_eq_true h.2
  have e: ∀b:ByteArray,b.size=0→b=ByteArray.empty:=fun b hb=>by
   apply ByteArray.ext
   exact Array.eq_empty_of_size_eq_zero hb
  show [Value.string y]=[Value.string x]
  rw[e y h2,show x=ByteArray.empty from e x h1]
 ·rename_i e xs
  have h0:(xs:List e.den)=[]:=List.isEmpty_iff.1 h
  cases h0
  exact⟨rfl,none,0,rfl,Nat.le_refl _, .inl rfl⟩
 ·cases h
theorem zChk_isL {a:AV} {l:List Value} (h:zChk a l=true):isL a=true:=by
 unfold zChk at h
 split at h
 ·rfl
 ·rfl
 ·cases h
theorem zChk_VR: ∀{a:AV} {l:List Value},zChk a l=true→VR Z w σ a l
 | .cn a b,v::r,h=>by
  simp only[zChk,Bool.and_eq_true]at h
  exact⟨v,r,rfl,vChk_VR h.1,zChk_VR h.2,zChk_isL h.2⟩
 | .e0,[],_=>rfl
def prL:AV→Prop
 | .e0=>True
 | .cn _ b=>prL b
 | _=>False
theorem prL_app: ∀{a b:AV},prL a→prL b→prL (a.app b)
 | .e0,_,_,h=>h
 | .cn _ a,_,h,h2=>prL_app (a:=a) h h2
theorem prL_toC: ∀(e:Ty) (x:e.den),prL (toC e x)
 | .pr a b,x=>prL_app (prL_toC a x.1) (prL_toC b x.2)
 | .un,_=>trivial
 | .int _,_=>trivial
 | .bool,_=>trivial
 | .str,_=>trivial
 | .sl _,_=>trivial
theorem prL_isL {a:AV} (h:prL a):isL a=true:=by
 cases a<;>first|rfl|exact h.elim
theorem VR.app_inv: ∀{a b:AV} {l:List Value},VR Z w σ (a.app b) l→prL a→ ∃l1 l2,l=l1++l2∧VR Z w σ a l1∧VR Z w σ b l2
 | .e0,b,l,h,_=>⟨[],l,rfl,rfl,h⟩
 | .cn a c,b,l,h,hp=>by
  obtain⟨v,r,rfl,h1,h2,il⟩:=h
  obtain⟨l1,l2,rfl,h3,h4⟩:=VR.app_inv (a:=c) h2 hp
  exact⟨v::l1,l2,rfl,⟨v,l1,rfl,h1,h3,prL_isL (a:=c) hp⟩,h4⟩
theorem PV.of_toC: ∀(e:Ty) {x:e.den} {l:List Value},VR Z w σ (Am.toC e x) l→PV Z w e x l
 | .pr a b,x,_,h=>by
  obtain⟨l1,l2,rfl,h1,h2⟩:=VR.app_inv h (prL_toC a x.1)
  exact⟨l1,l2,rfl,PV.of_toC a h1,PV.of_toC b h2⟩
 | .un,_,_,h=>h
 | .int k,_,l,h=>by
  obtain⟨v,r,rfl,h1,h2,_⟩:=h
  cases h2
  exact h1.2
 | .bool,_,l,h=>by
  obtain⟨v,r,rfl,h1,h2,_⟩:=h
  cases h2
  exact h1.2
 | .str,_,l,h=>by
  obtain⟨v,r,rfl,h1,h2,_⟩:=h
  cases h2
  exact h1.2
 | .sl _,_,l,h=>by
  obtain⟨v,r,rfl,h1,h2,_⟩:=h
  cases h2
  exact h1.2
end
structure EnvOk (P:Program) (E:Env):Prop where
 tab: ∀t,(E.ti t).ok=true→tiChk P t (E.ti t)=true
section
variable {P:Program} {E:Env} {w:World} {t:Nat}
theorem run_size (h:tiChk P t (E.ti t)=true):(sizeOf t).run P w= .ok (E.ti t).size w:=by
 obtain⟨i,z,d,h1,h2,_⟩:=tiChk_info h
 simp[sizeOf,typeInfo,h1,h2]
theorem und_sl {et:Nat} (h:tiChk P t (E.ti t)=true) (hu:(E.ti t).u= .sl et):P.underlying t=some (.slice et):=by
 obtain⟨i,z,d,h1,h2,h3,h4,h5,h6,h7,h8,h9,_⟩:=tiChk_info h
 rw[hu]at h8
 cases d<;>simp only[uChk,Bool.false_eq_true]at h8
 rw[h7,Nat.eq_of_beq_eq_true h8]
theorem und_ar {n et:Nat} (h:tiChk P t (E.ti t)=true) (hu:(E.ti t).u= .ar n et):P.underlying t=some (.array n et):=by
 obtain⟨i,z,d,h1,h2,h3,h4,h5,h6,h7,h8,h9,_⟩:=tiChk_info h
 rw[hu]at h8
 cases d<;>simp only[uChk,Bool.false_eq_true,Bool.and_eq_true]at h8
 rw[h7,Nat.eq_of_beq_eq_true h8.1,Nat.eq_of_beq_eq_true h8.2]
theorem und_int {k:IntKind} (h:tiChk P t (E.ti t)=true) (hu:(E.ti t).u= .int k):P.underlying t=some (.int k):=by
 obtain⟨i,z,d,h1,h2,h3,h4,h5,h6,h7,h8,h9,_⟩:=tiChk_info h
 rw[hu]at h8
 cases d<;>simp only[uChk,Bool.false_eq_true,decide_eq_true_eq]at h8
 rw[h7,h8]
theorem und_bool (h:tiChk P t (E.ti t)=true) (hu:(E.ti t).u= .bool):P.underlying t=some .bool:=by
 obtain⟨i,z,d,h1,h2,h3,h4,h5,h6,h7,h8,h9,_⟩:=tiChk_info h
 rw[hu]at h8
 cases d<;>simp only[uChk,Bool.false_eq_true]at h8
 exact h7
theorem und_str (h:tiChk P t (E.ti t)=true) (hu:(E.ti t).u= .str):P.underlying t=some .string:=by
 obtain⟨i,z,d,h1,h2,h3,h4,h5,h6,h7,h8,h9,_⟩:=tiChk_info h
 rw[hu]at h8
 cases d<;>simp only[uChk,Bool.false_eq_true]at h8
 exact h7
theorem und_st {gs:List (Nat×Nat)} (h:tiChk P t (E.ti t)=true) (hu:(E.ti t).u= .st gs): ∃fs,P.underlying t=some (.struct fs)∧fs.toList.map (fun f=>(f.offset,f.type))=gs:=by
 obtain⟨i,z,d,h1,h2,h3,h4,h5,h6,h7,h8,h9,_⟩:=tiChk_info h
 rw[hu]at h8
 cases d<;>simp only[uChk,Bool.false_eq_true,decide_eq_true_eq]at h8
 exact⟨_,h7,h8⟩
theorem run_agg (h:tiChk P t (E.ti t)=true):(isAgg t).run P w= .ok (E.ti t).agg w:=by
 obtain⟨i,z,d,h1,h2,h3,h4,h5,h6,h7,h8,h9,_⟩:=tiChk_info h
 unfold isAgg TI.agg
 generalize (E.ti t).u=u at h8
 simp only[Sem.run_bind,run_underlying h7,Result.andThen_ok]
 cases d<;>cases u<;>simp_all [uChk]
end
structure SR (gv:Nat→AV) (Z:Nat→Prop) (w:World) (σ:Nat→Sh) (tm:Nat→AV) (hp:Nat→Ob) (a:Act):Prop where
 mem:MR gv Z w σ hp
 tms: ∀t,VR Z w σ (tm t) [a.tmps.getD t undef]
structure Nw (n:Nat) (nw:List Ob) (σ σ':Nat→Sh):Prop where
 old: ∀h,σ h≠ .un→σ' h≠ .un
 new: ∀h∈news n nw,σ' h≠ .un
 no: ∀h,σ h= .un→h∉news n nw→σ' h= .un
def OpSnd (P:Program) (gv:Nat→AV) (o:Oper) (tm:Nat→AV) (hp:Nat→Ob) (n:Nat) (e:Eff):Prop:=
 ∀(tm':Nat→AV) (hp':Nat→Ob) (Z:Nat→Prop) (w:World) (σ:Nat→Sh) (a:Act),(∀t∈opT o,tm' t=tm t)→(∀h∈e.rd,hp' h=hp h)→(∀h∈e.wr.map (·.1),hp' h=hp h)→
  (∀h∈news n e.nw,σ h= .un)→SR gv Z w σ tm' hp' a→(∀d,o.dst=some d→d<a.tmps.size)→
  ∀(K:Act→World→Prop) (Q:Exit→Act→World→Prop),
   (∀a' w' Z' σ',SR gv Z' w' σ' (putD tm' o.dst e.v) (nws (wrs hp' e.wr) n e.nw) a'→Ext Z w σ hp' Z' w' σ' (nws (wrs hp' e.wr) n e.nw)→(∀h,Sle (σ' h) (σ h))→Nw n e.nw σ σ'→
    a'.tmps.size=a.tmps.size→a'.defers=a.defers→K a' w')→o.wp P a w K Q
theorem constAV_VR {Z:Nat→Prop} {w:World} {σ:Nat→Sh} (v:Value):VR Z w σ (constAV v) [v]:=by
 unfold constAV
 split<;>first|exact rfl|exact⟨rfl,rfl⟩
theorem evA_VR {gv:Nat→AV} {E:Env} (hg:E.gl=gv) {Z:Nat→Prop} {w:World} {σ:Nat→Sh} {tm tm':Nat→AV} {hp':Nat→Ob} {a:Act} (h:SR gv Z w σ tm' hp' a) (x:Operand)
  (ht: ∀t,x= .tmp t→tm' t=tm t):VR Z w σ (evA E tm x) [a.eval x]:=by
 cases x with
 | tmp t=>
  show VR Z w σ (tm t) _
  rw[←ht t rfl]
  exact h.tms t
 | const v=>exact constAV_VR v
 | global g=>
  subst hg
  exact h.mem.gl g
 | func f=>exact⟨#[],rfl,rfl,rfl⟩
theorem SR.put {gv:Nat→AV} {Z Z':Nat→Prop} {w w':World} {σ σ':Nat→Sh} {tm:Nat→AV} {hp hp':Nat→Ob} {a:Act} (h:SR gv Z w σ tm hp a) (m:MR gv Z' w' σ' hp')
  (k:Kept Z w Z' w') (s: ∀h,Sle (σ' h) (σ h)) {d:Option Nat} {x:AV} {v:Value} (hv:VR Z' w' σ' x [v]) (hd: ∀t,d=some t→t<a.tmps.size):
  SR gv Z' w' σ' (putD tm d x) hp' (a.put d v):=by
 refine⟨m,fun t=>?_⟩
 cases d with
 | none=>exact(h.tms t).mono k fun h _=>s h
 | some d=>
  have hlt:=hd d rfl
  by_cases e:t=d
  ·subst e
   have:putD tm (some t) x t=x:=by simp[putD,upd]
   rw[this]
   simpa[Act.put,hlt]using hv
  ·have e2:putD tm (some d) x t=tm t:=by
    simp only[putD,upd]
    cases hb:Nat.beq t d
    ·rfl
    ·exact absurd (Nat.eq_of_beq_eq_true hb) e
   rw[e2]
   have e3:(a.put (some d) v).tmps.getD t undef=a.tmps.getD t undef:=by
    simp[Act.put,Array.getElem?_setIfInBounds_ne (Ne.symm e)]
   rw[e3]
   exact(h.tms t).mono k fun h _=>s h
theorem size_put (a:Act) (d:Option Nat) (v:Value):(a.put d v).tmps.size=a.tmps.size:=by cases d<;>simp[Act.put]
theorem defers_put (a:Act) (d:Option Nat) (v:Value):(a.put d v).defers=a.defers:=by cases d<;>rfl
theorem OpSnd.pure {P:Program} {gv:Nat→AV} {o:Oper} {tm:Nat→AV} {hp:Nat→Ob} {n:Nat} {e:Eff} (hw:e.wr=[]) (hn:e.nw=[])
  (H: ∀(tm':Nat→AV) (hp':Nat→Ob) (Z:Nat→Prop) (w:World) (σ:Nat→Sh) (a:Act),(∀t∈opT o,tm' t=tm t)→(∀h∈e.rd,hp' h=hp h)→SR gv Z w σ tm' hp' a→
   ∃v,(execOp a.eval o).run P w= .ok (.value v) w∧VR Z w σ e.v [v]):OpSnd P gv o tm hp n e:=by
 intro tm' hp' Z w σ a h1 h2 _ _ h5 h6 K Q hK
 obtain⟨v,hr,hv⟩:=H tm' hp' Z w σ a h1 h2 h5
 unfold Oper.wp
 rw[hr]
 show K (a.put o.dst v) w
 rw[hw,hn]at hK
 exact hK _ w Z σ (h5.put h5.mem (Kept.refl Z w) (fun h=> .same _) hv h6) (Ext.refl Z w σ hp') (fun h=> .same _) ⟨fun _ h=>h,fun _ h=>(nomatch h),fun _ h _=>h⟩ (size_put _ _ _) (defers_put _ _ _)
theorem binI_snd {R:Type} {op:BinOp} {k k':IntKind} {a b:Int} {K:AV→Option R} {r:R} (h:binI op k k' a b K=some r) (P:Program) (w:World) (t:TypeId) (x y:Operand):
  ∃v,K v=some r∧ ∃u,(do eqGuard op t x y (.int k a) (.int k' b);binOp op t (.int k a) (.int k' b)).run P w= .ok u w∧ ∀Z σ,VR Z w σ v [u]:=by
 have hg: ∀{α:Type} (m:Sem α),(do eqGuard op t x y (.int k a) (.int k' b);m).run P w=m.run P w:=by
  intro α m
  cases op<;>simp[eqGuard]
 rw[hg]
 cases op<;>simp only[binI]at h
 case shl=>
  split at h
  ·rename_i hb
   refine⟨_,h,_,?_,fun Z σ=>⟨rfl,rfl⟩⟩
   have: ¬b<0:=by omega
   simp[binOp,Op.shift,this]
  ·cases h
 case shr=>
  split at h
  ·rename_i hb
   refine⟨_,h,_,?_,fun Z σ=>⟨rfl,rfl⟩⟩
   have: ¬b<0:=by omega
   simp[binOp,Op.shift,this]
  ·cases h
 all_goals
  split at h<;>try cases h
  rename_i hk
  subst hk
 case quo=>
  split at h
  ·cases h
  ·rename_i hb
   exact⟨_,h,_,by simp[binOp,Op.intDiv,hb],fun Z σ=>⟨rfl,rfl⟩⟩
 case rem=>
  split at h
  ·cases h
  ·rename_i hb
   exact⟨_,h,_,by simp[binOp,Op.intDiv,hb],fun Z σ=>⟨rfl,rfl⟩⟩
 all_goals exact⟨_,h,_,by first|(simp only[binOp,ne_eq,not_true_eq_false,if_false];rfl)|simp[binOp,Op.intArith,Op.intBits,Op.intCmp],fun Z σ=>⟨rfl,rfl⟩⟩
section
variable {R:Type} {P:Program} {Z:Nat→Prop} {w:World} {σ:Nat→Sh}
theorem VR.intp {k:IntKind} {x:Int} {v:Value} (h:VR Z w σ (.p (.int k) x) [v]):v= .int k x:=by
 have:=h.2
 simpa[PV]using this
theorem VR.boolp {x:Bool} {v:Value} (h:VR Z w σ (.p .bool x) [v]):v= .bool x:=by
 have:=h.2
 simpa[PV]using this
theorem VR.strp {x:ByteArray} {v:Value} (h:VR Z w σ (.p .str x) [v]):v= .string x:=by
 have:=h.2
 simpa[PV]using this
theorem VR.slp {e:Ty} {xs:List e.den} {v:Value} (h:VR Z w σ (.p (.sl e) xs) [v]): ∃a c,v= .slice a xs.length c∧xs.length≤c∧
  (xs.length=0∨ ∃b o,a=some ⟨b,o,none⟩∧Z b∧RowAt Z w b o e xs):=by
 obtain⟨a,c,h1,h2,h3⟩:=h.2
 simp only[List.cons.injEq,and_true]at h1
 exact⟨a,c,h1,h2,h3⟩
theorem unI_snd {op:UnOp} {k:IntKind} {a:Int} {K:AV→Option R} {r:R} (h:unI op k a K=some r) (w:World):
  ∃v,K v=some r∧ ∃u,(Op.unary op (.int k a)).run P w= .ok u w∧ ∀Z σ,VR Z w σ v [u]:=by
 cases op<;>simp only[unI,reduceCtorEq]at h
 case neg=>exact⟨_,h,_,by simp[Op.unary,Op.intArith],fun Z σ=>⟨rfl,rfl⟩⟩
 case xor=>exact⟨_,h,_,by first|rfl|simp[Op.unary,Op.intBits],fun Z σ=>⟨rfl,rfl⟩⟩
theorem unE_snd {op:UnOp} {x:AV} {K:AV→Option R} {r:R} (h:unE op x K=some r) {a:Value} (hx:VR Z w σ x [a]):
  ∃v,K v=some r∧ ∃u,(Op.unary op a).run P w= .ok u w∧VR Z w σ v [u]:=by
 unfold unE at h
 split at h
 ·rw[hx.intp]
  obtain⟨v,h1,u,h2,h3⟩:=unI_snd (P:=P) h w
  exact⟨v,h1,u,h2,h3 Z σ⟩
 ·rw[hx.boolp]
  exact⟨_,h,_,by simp[Op.unary],⟨rfl,rfl⟩⟩
 ·cases h
end
section
variable {R:Type} {P:Program} {gv:Nat→AV} {Z:Nat→Prop} {w:World} {σ:Nat→Sh} {hp:Nat→Ob}
theorem MR.live (m:MR gv Z w σ hp) {h:Nat} (hh:hp h≠ .dead):OR Z w σ (hp h) (σ h):=m.ob h fun e=>hh (m.un h e)
theorem MR.L (m:MR gv Z w σ hp) {h:Nat} {e:Ty} {xs:List e.den} (hh:hp h= .L e xs): ∃p,σ h= .S e.sz xs.length p none∧Own Z w p e xs:=by
 have:=m.live (h:=h) (by simp[hh])
 rw[hh]at this
 exact this
theorem MR.F (m:MR gv Z w σ hp) {h:Nat} {e:Ty} {xs:List e.den} (hh:hp h= .F e xs):
  ∃p,σ h= .S e.sz xs.length p none∧(xs=[]∨ ∃b o m,p=some (b,o,m)∧Z b∧RowAt Z w b o e xs):=by
 have:=m.live (h:=h) (by simp[hh])
 rw[hh]at this
 exact this
theorem MR.B (m:MR gv Z w σ hp) {h:Nat} {cs:AV} (hh:hp h= .B cs): ∃b c el,σ h= .B b cs.len∧w.heap[b]?=some (.cells c el (0,0))∧ ¬Z b∧VR Z w σ cs c.toList∧isL cs=true:=by
 have:=m.live (h:=h) (by simp[hh])
 rw[hh]at this
 exact this
theorem MR.N (m:MR gv Z w σ hp) {h:Nat} {e:Ty} {ids:Option (List Nat)} {st:List (List e.den)} {v:Nat} {pd:Option (Nat×List e.den)} (hh:hp h= .N e ids st v pd):
  ∃p r,σ h= .S 1 (numOf ids st) p (some r)∧r.v=v∧Rws Z w e ids st pd p r:=by
 have:=m.live (h:=h) (by simp[hh])
 rw[hh]at this
 exact this
theorem Rws.lenOf {e:Ty} {ids:Option (List Nat)} {st:List (List e.den)} {pd:Option (Nat×List e.den)} {p:Pl} {r:NI} (h:Rws Z w e ids st pd p r) (id:Nat):
  (r.row id).2=(rowOf st id).length:=by
 rcases Nat.lt_or_ge id st.length with hi|hi
 ·have h1:st[id]?=some st[id]:=by simp[hi]
  rw[h.len id _ h1]
  simp[rowOf,hi]
 ·simp[h.out id hi,rowOf,List.getElem?_eq_none hi]
end
section
variable {R:Type} {P:Program} {gv:Nat→AV} {hp:Nat→Ob}
theorem lenS_snd {x:AV} {K:Eff→Option R} {r:R} (h:lenS hp x K=some r): ∃e,K e=some r∧e.wr=[]∧e.nw=[]∧ ∃n:Nat,e.v=av .i64 n∧
  ∀{hp':Nat→Ob} {Z:Nat→Prop} {w:World} {σ:Nat→Sh} {a:Value},MR gv Z w σ hp'→(∀h∈e.rd,hp' h=hp h)→VR Z w σ x [a]→ ∃b c,a= .slice b n c:=by
 unfold lenS at h
 split at h
 ·refine⟨_,h,rfl,rfl,0,rfl,fun _ _ hx=>?_⟩
  cases hx
  exact⟨none,0,rfl⟩
 ·refine⟨_,h,rfl,rfl,_,rfl,fun _ _ hx=>?_⟩
  obtain⟨b,c,e,_⟩:=hx.slp
  exact⟨b,c,e⟩
 ·rename_i g off len
  split at h
  ·rename_i e xs hg
   refine⟨_,h,rfl,rfl,_,rfl,fun m hr hx=>?_⟩
   obtain⟨p,hs,_⟩:=m.L (h:=g) (by rw[hr g (by simp)];exact hg)
   obtain⟨v,e,hv⟩:=hx
   cases e
   rw[hs]at hv
   obtain⟨⟨b,c,e,_⟩,_⟩:=hv
   rw[slenN_eq]at e
   exact⟨b,c,e⟩
  ·rename_i e xs hg
   refine⟨_,h,rfl,rfl,_,rfl,fun m hr hx=>?_⟩
   obtain⟨p,hs,_⟩:=m.F (h:=g) (by rw[hr g (by simp)];exact hg)
   obtain⟨v,e,hv⟩:=hx
   cases e
   rw[hs]at hv
   obtain⟨⟨b,c,e,_⟩,_⟩:=hv
   rw[slenN_eq]at e
   exact⟨b,c,e⟩
  ·rename_i e ids st u pd hg
   split at h
   ·refine⟨_,h,rfl,rfl,_,rfl,fun m hr hx=>?_⟩
    obtain⟨p,q,hs,_⟩:=m.N (h:=g) (by rw[hr g (by simp)];exact hg)
    obtain⟨v,e,hv⟩:=hx
    cases e
    rw[hs]at hv
    obtain⟨⟨b,c,e,_⟩,_⟩:=hv
    exact⟨b,c,e⟩
   ·cases h
  ·cases h
 ·rename_i g id off len u
  split at h
  ·rename_i e ids st u' pd hg
   split at h
   ·rename_i hu
    refine⟨_,h,rfl,rfl,_,rfl,fun m hr hx=>?_⟩
    obtain⟨p,q,hs,hq,hn⟩:=m.N (h:=g) (by rw[hr g (by simp)];exact hg)
    obtain⟨v,e,hv⟩:=hx
    cases e
    rw[hs]at hv
    obtain⟨_,hv⟩:=hv
    obtain⟨⟨b,c,e,_⟩,_⟩:=hv (by rw[hq,hu])
    rw[hn.lenOf,slenN_eq]at e
    exact⟨b,c,e⟩
   ·cases h
  ·cases h
 ·cases h
end
section
variable {R:Type} {P:Program} {E:Env} {gv:Nat→AV} {hp:Nat→Ob} {Z:Nat→Prop} {w:World} {σ:Nat→Sh}
theorem asI_VR {x:AV} {i:Int} (h:asI x=some i) {b:Value} (hb:VR Z w σ x [b]): ∃k,b= .int k i:=by
 unfold asI at h
 split at h
 ·cases h
  exact⟨_,hb.intp⟩
 ·cases h
theorem run_index_slice {t et:Nat} (hE:EnvOk P E) (ht:(E.ti t).ok=true) (hu:(E.ti t).u= .sl et) (he:(E.ti et).ok=true) {a:Addr} {n c:Nat} {k:IntKind} {i:Int} (h0:0≤i) (h1:i<n):
  (Instr.indexAt t (.slice (some a) n c) (.int k i)).run P w= .ok (.pointer (some (a.add (i.toNat*(E.ti et).size)))) w:=by
 simp[Instr.indexAt,asIntOf,run_underlying (und_sl (hE.tab t ht) hu),run_size (hE.tab et he),h0,h1]
theorem run_index_array {t n et:Nat} (hE:EnvOk P E) (ht:(E.ti t).ok=true) (hu:(E.ti t).u= .ar n et) (he:(E.ti et).ok=true) {a:Addr} {k:IntKind} {i:Int} (h0:0≤i) (h1:i<n):
  (Instr.indexAt t (.pointer (some a)) (.int k i)).run P w= .ok (.pointer (some (a.add (i.toNat*(E.ti et).size)))) w:=by
 simp[Instr.indexAt,asIntOf,Instr.sureAddr,run_underlying (und_ar (hE.tab t ht) hu),run_size (hE.tab et he),h0,h1]
theorem add_spot (b o n:Nat):(⟨b,o,none⟩:Addr).add n=⟨b,o+n,none⟩:=by
 unfold Addr.add
 split
 ·rename_i h
  simp[h]
 ·rfl
theorem ok_of_u {T:TI} {u:UK} (h:T.u=u) (hu:u≠ .ot):T.ok=true:=by
 unfold TI.ok
 rw[h]
 cases u<;>first|rfl|exact absurd rfl hu
theorem fits_spec {T:TI} {e:Ty} (h:T.fits e=true):T.ok=true∧T.size=e.sz∧1≤e.sz:=by
 simp only[TI.fits,Bool.and_eq_true]at h
 have h1:=Nat.eq_of_beq_eq_true h.1.2
 have h2:=Nat.le_of_ble_eq_true h.2
 exact⟨h.1.1,h1.symm,by omega⟩
theorem one_spec {T:TI} (h:T.one=true):T.ok=true∧T.size=1:=by
 simp only[TI.one,Bool.and_eq_true]at h
 exact⟨h.1,Nat.eq_of_beq_eq_true h.2⟩
theorem at?_spec {i:Int} {n:Nat} {x:Option R} {r:R} (h:at? i n x=some r):0≤i∧i<(n:Int)∧x=some r:=by
 unfold at? at h
 split at h
 ·rename_i hi
  exact⟨hi.1,hi.2,h⟩
 ·cases h
theorem atN_spec {i n:Nat} {x:Option R} {r:R} (h:atN i n x=some r):i<n∧x=some r:=by
 unfold atN at h
 split at h
 ·rename_i hi
  exact⟨hi,h⟩
 ·cases h
theorem bif_spec {c:Bool} {x:Option R} {r:R} (h:(bif c then x else none)=some r):c=true∧x=some r:=by
 cases c
 ·cases h
 ·exact⟨rfl,h⟩
theorem Hdr.base {sz off n:Nat} {p:Pl} {v:Value} (h:Hdr sz p off n v) (hn:0<n): ∃b s m c,p=some (b,s,m)∧v= .slice (some ⟨b,s+off*sz,none⟩) n c∧n≤c∧off+c≤m:=by
 obtain⟨a,c,rfl,h1,h2⟩:=h
 rcases h2 with h2|⟨b,s,m,rfl,rfl,h3⟩
 ·omega
 ·exact⟨b,s,m,c,rfl,rfl,h1,h3⟩
theorem plus_eq (off:Option Nat) (i:Nat):plus off i=i+ofs off:=by cases off<;>rfl
theorem ptr_of_hdr {sz off len0:Nat} {p:Pl} {v:Value} {n:Nat} (h:Hdr sz p off n v) {i:Int} (h0:0≤i) (h1:i<(n:Int)) (hle:off+n≤len0):
  ∃b s m c,p=some (b,s,m)∧v= .slice (some ⟨b,s+off*sz,none⟩) n c∧(⟨b,s+off*sz,none⟩:Addr).add (i.toNat*sz)=⟨b,s+(i.toNat+off)*sz+0,none⟩∧i.toNat+off<len0:=by
 obtain⟨b,s,m,c,rfl,rfl,_,_⟩:=h.base (by omega)
 refine⟨b,s,m,c,rfl,rfl,?_,by omega⟩
 rw[add_spot,Nat.add_mul]
 congr 1
 omega
theorem idxE_snd (hE:EnvOk P E) {t:Nat} {x ix:AV} {K:Eff→Option R} {r:R} (h:idxE E hp t x ix K=some r): ∃e,K e=some r∧e.wr=[]∧e.nw=[]∧
  ∀{hp':Nat→Ob} {Z:Nat→Prop} {w:World} {σ:Nat→Sh} {a b:Value},MR gv Z w σ hp'→(∀h∈e.rd,hp' h=hp h)→VR Z w σ x [a]→VR Z w σ ix [b]→
   ∃u,(Instr.indexAt t a b).run P w= .ok u w∧VR Z w σ e.v [u]:=by
 unfold idxE at h
 split at h
 case h_2=>cases h
 rename_i i hi
 split at h
 case h_3=>cases h
 case h_1 et hu=>
  have ht:=ok_of_u hu (by simp)
  split at h
  ·rename_i e xs
   obtain⟨hf,h⟩:=bif_spec h
   obtain⟨he,hsz,hpos⟩:=fits_spec hf
   obtain⟨h0,h1,h⟩:=at?_spec h
   refine⟨_,h,rfl,rfl,fun m hr hx hb=>?_⟩
   obtain⟨k,rfl⟩:=asI_VR hi hb
   obtain⟨a,c,rfl,hc,hz⟩:=hx.slp
   rcases hz with hz|⟨b,o,rfl,hz,hrow⟩
   ·omega
   ·refine⟨_,run_index_slice hE ht hu he h0 h1,b,o,?_,hz,by omega,hrow⟩
    rw[add_spot,hsz]
    rfl
  ·rename_i g off len
   split at h
   ·rename_i e xs hg
    obtain⟨hf,h⟩:=bif_spec h
    obtain⟨he,hsz,hpos⟩:=fits_spec hf
    obtain⟨h0,h1,h⟩:=at?_spec h
    refine⟨_,h,rfl,rfl,fun m hr hx hb=>?_⟩
    obtain⟨k,rfl⟩:=asI_VR hi hb
    obtain⟨p,hs,_⟩:=m.L (h:=g) (by rw[hr g (by simp)];exact hg)
    obtain⟨v,e1,hv⟩:=hx
    cases e1
    rw[hs]at hv
    obtain⟨hv,hle⟩:=hv
    rw[slenN_eq]at hv hle
    obtain⟨b,s,m',c,rfl,rfl,e2,hlt⟩:=ptr_of_hdr hv h0 h1 hle
    refine⟨_,run_index_slice hE ht hu he h0 h1,_,rfl,?_⟩
    rw[hs,hsz,e2,plus_eq]
    exact⟨b,s,m',rfl,rfl,hlt⟩
   ·rename_i e xs hg
    obtain⟨hf,h⟩:=bif_spec h
    obtain⟨he,hsz,hpos⟩:=fits_spec hf
    obtain⟨h0,h1,h⟩:=at?_spec h
    refine⟨_,h,rfl,rfl,fun m hr hx hb=>?_⟩
    obtain⟨k,rfl⟩:=asI_VR hi hb
    obtain⟨p,hs,_⟩:=m.F (h:=g) (by rw[hr g (by simp)];exact hg)
    obtain⟨v,e1,hv⟩:=hx
    cases e1
    rw[hs]at hv
    obtain⟨hv,hle⟩:=hv
    rw[slenN_eq]at hv hle
    obtain⟨b,s,m',c,rfl,rfl,e2,hlt⟩:=ptr_of_hdr hv h0 h1 hle
    refine⟨_,run_index_slice hE ht hu he h0 h1,_,rfl,?_⟩
    rw[hs,hsz,e2,plus_eq]
    exact⟨b,s,m',rfl,rfl,hlt⟩
   ·rename_i e ids st u pd hg
    split at h
    ·obtain⟨hf,h⟩:=bif_spec h
     obtain⟨he,hsz⟩:=one_spec hf
     obtain⟨h0,h1,h⟩:=at?_spec h
     refine⟨_,h,rfl,rfl,fun m hr hx hb=>?_⟩
     obtain⟨k,rfl⟩:=asI_VR hi hb
     obtain⟨p,q,hs,_⟩:=m.N (h:=g) (by rw[hr g (by simp)];exact hg)
     obtain⟨v,e1,hv⟩:=hx
     cases e1
     rw[hs]at hv
     obtain⟨hv,hle⟩:=hv
     obtain⟨b,s,m',c,rfl,rfl,e2,hlt⟩:=ptr_of_hdr (n:=numOf ids st) hv h0 h1 hle
     refine⟨_,run_index_slice hE ht hu he h0 h1,_,rfl,?_⟩
     rw[hs,hsz,e2]
     exact⟨b,s,m',rfl,rfl,hlt⟩
    ·cases h
   ·cases h
  ·rename_i g id off len u
   split at h
   ·rename_i e ids st u' pd hg
    obtain⟨hf,h⟩:=bif_spec h
    simp only[Bool.and_eq_true]at hf
    obtain⟨hf,hu'⟩:=hf
    have hu':=Nat.eq_of_beq_eq_true hu'
    obtain⟨he,hsz,hpos⟩:=fits_spec hf
    obtain⟨h0,h1,h⟩:=at?_spec h
    refine⟨_,h,rfl,rfl,fun m hr hx hb=>?_⟩
    obtain⟨k,rfl⟩:=asI_VR hi hb
    obtain⟨p,q,hs,hq,hn⟩:=m.N (h:=g) (by rw[hr g (by simp)];exact hg)
    obtain⟨v,e1,hv⟩:=hx
    cases e1
    rw[hs]at hv
    obtain⟨hle0,hv⟩:=hv
    obtain⟨hv,hle⟩:=hv (by rw[hq,hu'])
    rw[hn.lenOf,slenN_eq]at hv hle
    obtain⟨b,s,m',c,e3,rfl,e2,hlt⟩:=ptr_of_hdr hv h0 h1 hle
    refine⟨_,run_index_slice hE ht hu he h0 h1,_,rfl,?_⟩
    rw[hs,hsz, ←hn.sz,e2,plus_eq]
    refine⟨⟨hle0.1,rfl⟩,fun _=>⟨b,s,m',e3,rfl,?_⟩⟩
    rw[hn.lenOf]
    exact hlt
   ·cases h
  ·cases h
 case h_2 n et hu=>
  have ht:=ok_of_u hu (by simp)
  split at h
  ·rename_i e' m' _
   split at h
   ·rename_i e xs j o
    obtain⟨hf,h⟩:=bif_spec h
    simp only[Bool.and_eq_true]at hf
    have hsz:=Nat.eq_of_beq_eq_true hf.1.2
    obtain⟨h0,h1,h⟩:=at?_spec h
    obtain⟨h2,h⟩:=atN_spec h
    refine⟨_,h,rfl,rfl,fun m hr hx hb=>?_⟩
    obtain⟨k,rfl⟩:=asI_VR hi hb
    obtain⟨b,s,e1,hz,hj,hrow⟩:=hx
    cases e1
    refine⟨_,run_index_array hE ht hu hf.1.1 h0 h1,b,s,?_,hz,h2,hrow⟩
    rw[add_spot,hsz]
    have:s+j*e.sz+o+i.toNat*(m'*e.sz)=s+(i.toNat*m'+j)*e.sz+o:=by
     rw[Nat.add_mul,Nat.mul_assoc]
     omega
    rw[this]
   ·cases h
  ·split at h
   ·rename_i g j o
    split at h
    ·rename_i e xs hg
     obtain⟨hf,h⟩:=bif_spec h
     obtain⟨he,hsz,hpos⟩:=fits_spec hf
     obtain⟨h0,h1,h⟩:=at?_spec h
     obtain⟨h2,h⟩:=atN_spec h
     refine⟨_,h,rfl,rfl,fun m hr hx hb=>?_⟩
     obtain⟨k,rfl⟩:=asI_VR hi hb
     obtain⟨p,hs,_⟩:=m.L (h:=g) (by rw[hr g (by simp)];exact hg)
     obtain⟨v,e1,hv⟩:=hx
     cases e1
     rw[hs]at hv
     obtain⟨b,s,m',rfl,rfl,hj⟩:=hv
     refine⟨_,run_index_array hE ht hu he h0 h1,_,rfl,?_⟩
     rw[hs]
     refine⟨b,s,m',rfl,?_,h2⟩
     rw[add_spot,hsz]
     have:s+j*e.sz+o+i.toNat*e.sz=s+(i.toNat+j)*e.sz+o:=by
      rw[Nat.add_mul]
      omega
     rw[this]
    ·rename_i e xs hg
     obtain⟨hf,h⟩:=bif_spec h
     obtain⟨he,hsz,hpos⟩:=fits_spec hf
     obtain⟨h0,h1,h⟩:=at?_spec h
     obtain⟨h2,h⟩:=atN_spec h
     refine⟨_,h,rfl,rfl,fun m hr hx hb=>?_⟩
     obtain⟨k,rfl⟩:=asI_VR hi hb
     obtain⟨p,hs,_⟩:=m.F (h:=g) (by rw[hr g (by simp)];exact hg)
     obtain⟨v,e1,hv⟩:=hx
     cases e1
     rw[hs]at hv
     obtain⟨b,s,m',rfl,rfl,hj⟩:=hv
     refine⟨_,run_index_array hE ht hu he h0 h1,_,rfl,?_⟩
     rw[hs]
     refine⟨b,s,m',rfl,?_,h2⟩
     rw[add_spot,hsz]
     have:s+j*e.sz+o+i.toNat*e.sz=s+(i.toNat+j)*e.sz+o:=by
      rw[Nat.add_mul]
      omega
     rw[this]
    ·cases h
   ·rename_i e xs j o
    obtain⟨hf,h⟩:=bif_spec h
    obtain⟨he,hsz,hpos⟩:=fits_spec hf
    obtain⟨h0,h1,h⟩:=at?_spec h
    obtain⟨h2,h⟩:=atN_spec h
    refine⟨_,h,rfl,rfl,fun m hr hx hb=>?_⟩
    obtain⟨k,rfl⟩:=asI_VR hi hb
    obtain⟨b,s,e1,hz,hj,hrow⟩:=hx
    cases e1
    refine⟨_,run_index_array hE ht hu he h0 h1,b,s,?_,hz,h2,hrow⟩
    rw[add_spot,hsz]
    have:s+j*e.sz+o+i.toNat*e.sz=s+(i.toNat+j)*e.sz+o:=by
     rw[Nat.add_mul]
     omega
    rw[this]
   ·cases h
end
def BV (x:Option Value) (d i:Nat):Prop:=(x=none∧i=d)∨ ∃k,x=some (.int k i)
section
variable {R:Type} {P:Program} {E:Env} {gv:Nat→AV} {hp:Nat→Ob} {Z:Nat→Prop} {w:World} {σ:Nat→Sh}
theorem run_bound {i y:Nat} {k:IntKind} {code:BoundsCode} (h:i≤y):(Instr.sliceBound (.int k i) y code).run P w= .ok i w:=by
 simp[Instr.sliceBound,asIntOf,h]
theorem run_slice_am {t et:Nat} (hE:EnvOk P E) (ht:(E.ti t).ok=true) (hu:(E.ti t).u= .sl et) (he:(E.ti et).ok=true) {a:Option Addr} {n c L H M:Nat} {lo hi mx:Option Value}
  (hl:BV lo 0 L) (hh:BV hi n H) (hm:BV mx c M) (hmh:mx≠none→hi≠none) (h1:L≤H) (h2:H≤M) (h3:M≤c):
  (Instr.sliceAt t (.slice a n c) lo hi mx).run P w= .ok (.slice (if M=L then a else a.map (·.add (L*(E.ti et).size))) (H-L) (M-L)) w:=by
 have hs:=und_sl (hE.tab t ht) hu
 have hz:=run_size (w:=w) (hE.tab et he)
 have hb:(Instr.sliceBounds true n c lo hi mx).run P w= .ok (L,H,M) w:=by
  have hHc:H≤c:=by omega
  rcases hl with ⟨rfl,rfl⟩|⟨kl,rfl⟩<;>rcases hh with ⟨rfl,rfl⟩|⟨kh,rfl⟩<;>rcases hm with ⟨rfl,rfl⟩|⟨km,rfl⟩<;>
   simp_all [Instr.sliceBounds,run_bound]
 simp[Instr.sliceAt,Instr.slice,run_underlying hs,hb,hz]
theorem Hdr.cut {sz off n L H M c:Nat} {p:Pl} {a:Option Addr} (h:Hdr sz p off n (.slice a n c)) (h1:L≤H) (h2:H≤M) (h3:M≤c):
  Hdr sz p (off+L) (H-L) (.slice (if M=L then a else a.map (·.add (L*sz))) (H-L) (M-L)):=by
 obtain⟨a',c',e,hn,hc⟩:=h
 cases e
 refine⟨_,_,rfl,by omega,?_⟩
 by_cases hml:M=L
 ·exact .inl (by omega)
 ·rw[if_neg hml]
  rcases hc with hc|⟨b,s,m,rfl,rfl,h4⟩
  ·omega
  ·refine .inr ⟨b,s,m,rfl,?_,by omega⟩
   simp only[Option.map_some,add_spot]
   congr 2
   rw[Nat.add_mul]
   omega
theorem RowAt.cut {b o L H:Nat} {e:Ty} {xs:List e.den} (h:RowAt Z w b o e xs):RowAt Z w b (o+L*e.sz) e ((xs.take H).drop L):=fun i x hx=>by
 rw[List.getElem?_drop,List.getElem?_take]at hx
 split at hx
 ·obtain⟨l,h1,h2⟩:=h _ x hx
  refine⟨l,h1,fun j v hj=>?_⟩
  have:=h2 j v hj
  rw[←this]
  congr 2
  rw[Nat.add_mul]
  omega
 ·cases hx
theorem PV.cut {e:Ty} {xs:List e.den} {a:Option Addr} {c L H M:Nat} (h:PV Z w (.sl e) xs [.slice a xs.length c]) (h1:L≤H) (h0:H≤xs.length) (h2:H≤M) (h3:M≤c):
  PV Z w (.sl e) ((xs.take H).drop L) [.slice (if M=L then a else a.map (·.add (L*e.sz))) (H-L) (M-L)]:=by
 obtain⟨a',c',e1,hn,hc⟩:=h
 simp only[List.cons.injEq,Value.slice.injEq,true_and,and_true]at e1
 obtain⟨rfl,rfl⟩:=e1
 have hlen:((xs.take H).drop L).length=H-L:=by
  rw[List.length_drop,List.length_take]
  omega
 refine⟨_,_,by rw[hlen],by rw[hlen];omega,?_⟩
 by_cases hml:H=L
 ·exact .inl (by rw[hlen];omega)
 ·have:M≠L:=by omega
  rw[if_neg this]
  rcases hc with hc|⟨b,o,rfl,hz,hrow⟩
  ·exact .inl (by rw[hlen];omega)
  ·exact .inr ⟨b,o+L*e.sz,by simp[add_spot],hz,RowAt.cut hrow⟩
def BA (x:Option AV) (d i:Nat):Prop:=(x=none∧i=d)∨ ∃v,x=some v∧asI v=some (i:Int)
theorem cut?_spec {l h:Int} {n:Nat} {x:Option R} {r:R} (hh:cut? l h n x=some r):0≤l∧l≤h∧h≤(n:Int)∧x=some r:=by
 unfold cut? at hh
 split at hh
 ·rename_i hi
  exact⟨hi.1,hi.2.1,hi.2.2,hh⟩
 ·cases hh
theorem bnd_spec {x:Option AV} {d:Nat} {l:Int} (h:bnd x d=some l) (h0:0≤l):BA x d l.toNat:=by
 cases x with
 | none=>simp only[bnd,Option.some.injEq]at h;exact .inl ⟨rfl,by omega⟩
 | some v=>exact .inr ⟨v,rfl,by rw[Int.toNat_of_nonneg h0];exact h⟩
structure Win (off len off' len':Option Nat) (n L H:Nat):Prop where
 o:ofs off'=ofs off+L
 l: ∀n0,slenN n0 off len=n→slenN n0 off' len'=H-L
theorem win_end (off len:Option Nat) (lo:Option AV) (l:Int) (n:Nat) (h0:lo=none→l=0) (h1:0≤l):Win off len (offBy off lo l) (lenBy len lo l) n l.toNat n:=by
 cases lo with
 | none=>
  have:=h0 rfl
  subst this
  exact⟨rfl,fun n0 h=>by simpa[offBy,lenBy]using h⟩
 | some v=>
  refine⟨by simp only[offBy,ofs,plus_eq];omega,fun n0 h=>?_⟩
  cases len with
  | none=>
   cases off<;>simp_all [offBy,lenBy,slenN,plus]<;>omega
  | some m=>simp_all [lenBy,slenN]
theorem win_at (off len:Option Nat) (lo:Option AV) (l h:Int) (n:Nat) (h0:lo=none→l=0) (h1:0≤l):Win off len (offBy off lo l) (some (widBy lo l h)) n l.toNat h.toNat:=by
 cases lo with
 | none=>
  have:=h0 rfl
  subst this
  exact⟨rfl,fun n0 _=>by simp[widBy,slenN]⟩
 | some v=>exact⟨by simp only[offBy,ofs,plus_eq];omega,fun n0 _=>by simp[widBy,slenN]⟩
theorem lo_none {lo:Option AV} {l:Int} (h:bnd lo 0=some l):lo=none→l=0:=by
 rintro rfl
 simp only[bnd,Option.some.injEq]at h
 omega
theorem dropBy_drop {α:Type} (xs:List α) {lo:Option AV} {l:Int} (h:lo=none→l=0):dropBy xs lo l=xs.drop l.toNat:=by
 cases lo with
 | none=>rw[h rfl];rfl
 | some v=>rfl
theorem sliceH_spec {g:Nat} {off len:Option Nat} {n:Nat} {lo hi:Option AV} {K:Eff→Option R} {r:R} (h:sliceH g off len n lo hi K=some r):
  ∃L H off' len',BA lo 0 L∧BA hi n H∧L≤H∧H≤n∧K { v:= .sl g off' len',rd:=[g] }=some r∧Win off len off' len' n L H:=by
 unfold sliceH at h
 split at h
 case h_2=>cases h
 rename_i l hl
 split at h
 ·obtain⟨h0,h1,h2,h⟩:=cut?_spec h
  exact⟨_,n,_,_,bnd_spec hl h0, .inl ⟨rfl,rfl⟩,by omega,Nat.le_refl _,h,win_end off len lo l n (lo_none hl) h0⟩
 ·rename_i hv
  split at h
  case h_2=>cases h
  rename_i k hk
  obtain⟨h0,h1,h2,h⟩:=cut?_spec h
  exact⟨_,k.toNat,_,_,bnd_spec hl h0, .inr ⟨hv,rfl,by rw[Int.toNat_of_nonneg (by omega)];exact hk⟩,by omega,by omega,h,win_at off len lo l k n (lo_none hl) h0⟩
theorem sliceR_spec {g id v:Nat} {off len:Option Nat} {n:Nat} {lo hi:Option AV} {K:Eff→Option R} {r:R} (h:sliceR g id v off len n lo hi K=some r):
  ∃L H off' len',BA lo 0 L∧BA hi n H∧L≤H∧H≤n∧K { v:= .row g id off' len' v,rd:=[g] }=some r∧Win off len off' len' n L H:=by
 unfold sliceR at h
 split at h
 case h_2=>cases h
 rename_i l hl
 split at h
 ·obtain⟨h0,h1,h2,h⟩:=cut?_spec h
  exact⟨_,n,_,_,bnd_spec hl h0, .inl ⟨rfl,rfl⟩,by omega,Nat.le_refl _,h,win_end off len lo l n (lo_none hl) h0⟩
 ·rename_i hv
  split at h
  case h_2=>cases h
  rename_i k hk
  obtain⟨h0,h1,h2,h⟩:=cut?_spec h
  exact⟨_,k.toNat,_,_,bnd_spec hl h0, .inr ⟨hv,rfl,by rw[Int.toNat_of_nonneg (by omega)];exact hk⟩,by omega,by omega,h,win_at off len lo l k n (lo_none hl) h0⟩
theorem HV.cut {sz n0:Nat} {p:Pl} {off len off' len':Option Nat} {L H:Nat} {v:Value} (h:Hdr sz p (ofs off) (slenN n0 off len) v) (hle:ofs off+slenN n0 off len≤n0)
  (hw:Win off len off' len' (slenN n0 off len) L H) (h1:L≤H) (h2:H≤slenN n0 off len):
  ∃a c,v= .slice a (slenN n0 off len) c∧slenN n0 off len≤c∧ ∀M,H≤M→M≤c→
   Hdr sz p (ofs off') (slenN n0 off' len') (.slice (if M=L then a else a.map (·.add (L*sz))) (H-L) (M-L))∧ofs off'+slenN n0 off' len'≤n0:=by
 have h0:=h
 obtain⟨a,c,rfl,hn,_⟩:=h0
 refine⟨a,c,rfl,hn,fun M h3 h4=>?_⟩
 rw[hw.o,hw.l _ rfl]
 exact⟨h.cut h1 h3 h4,by omega⟩
theorem sliceE_snd {T:TI} {x:AV} {lo hi:Option AV} {K:Eff→Option R} {r:R} (h:sliceE T hp x lo hi K=some r): ∃e L H n,K e=some r∧e.wr=[]∧e.nw=[]∧
  BA lo 0 L∧BA hi n H∧L≤H∧H≤n∧T.ok=true∧(∀h∈hs x,h∈e.rd)∧ ∀{hp':Nat→Ob} {Z:Nat→Prop} {w:World} {σ:Nat→Sh} {a:Value},MR gv Z w σ hp'→(∀h∈e.rd,hp' h=hp h)→VR Z w σ x [a]→
   ∃b c,a= .slice b n c∧n≤c∧ ∀M,H≤M→M≤c→VR Z w σ e.v [.slice (if M=L then b else b.map (·.add (L*T.size))) (H-L) (M-L)]:=by
 unfold sliceE at h
 split at h
 ·rename_i e xs
  obtain⟨hf,h⟩:=bif_spec h
  obtain⟨he,hsz,hpos⟩:=fits_spec hf
  split at h
  case h_2=>cases h
  rename_i l hl
  split at h
  ·obtain⟨h0,h1,h2,h⟩:=cut?_spec h
   refine⟨_,l.toNat,List.length xs,List.length xs,h,rfl,rfl,bnd_spec hl h0, .inl ⟨rfl,rfl⟩,by omega,Nat.le_refl _,he,(fun _ m=>by cases m),fun m _ hx=>?_⟩
   obtain⟨b,c,rfl,hc,_⟩:=hx.slp
   refine⟨b,c,rfl,hc,fun M h3 h4=>⟨rfl,?_⟩⟩
   rw[hsz]
   have:=PV.cut hx.2 (L:=l.toNat) (H:=List.length xs) (M:=M) (by omega) (Nat.le_refl _) h3 h4
   have e2:dropBy xs lo l=(List.take (List.length xs) xs).drop l.toNat:=
    (dropBy_drop (α:=e.den) xs (lo_none hl)).trans (congrArg (List.drop l.toNat) (List.take_length (l:=(xs:List e.den))).symm)
   show PV _ _ (.sl e) (dropBy xs lo l) _
   rw[e2]
   exact this
  ·rename_i hv _
   split at h
   case h_2=>cases h
   rename_i k hk
   obtain⟨h0,h1,h2,h⟩:=cut?_spec h
   refine⟨_,l.toNat,k.toNat,List.length xs,h,rfl,rfl,bnd_spec hl h0, .inr ⟨hv,rfl,by rw[Int.toNat_of_nonneg (by omega)];exact hk⟩,by omega,by omega,he,(fun _ m=>by cases m),fun m _ hx=>?_⟩
   obtain⟨b,c,rfl,hc,_⟩:=hx.slp
   refine⟨b,c,rfl,hc,fun M h3 h4=>⟨rfl,?_⟩⟩
   rw[hsz]
   have:=PV.cut hx.2 (L:=l.toNat) (H:=k.toNat) (M:=M) (by omega) (by omega) h3 h4
   have e2:dropBy (List.take k.toNat xs) lo l=(List.take k.toNat xs).drop l.toNat:=dropBy_drop (α:=e.den) _ (lo_none hl)
   show PV _ _ (.sl e) (dropBy (List.take k.toNat xs) lo l) _
   rw[e2]
   exact this
 ·split at h
  case h_2=>cases h
  rename_i l k hl hk
  have he:=(bif_spec h).1
  replace h:=(bif_spec h).2
  split at h
  case isFalse=>cases h
  rename_i h0
  obtain⟨rfl,rfl⟩:=h0
  refine⟨_,0,0,0,h,rfl,rfl,bnd_spec hl (Int.le_refl _),bnd_spec hk (Int.le_refl _),Nat.le_refl _,Nat.le_refl _,he,(fun _ m=>by cases m),fun m _ hx=>?_⟩
  cases hx
  refine⟨none,0,rfl,Nat.le_refl _,fun M h3 h4=>?_⟩
  have:M=0:=by omega
  subst this
  rfl
 ·rename_i g off len
  split at h
  ·rename_i e xs hg
   obtain⟨hf,h⟩:=bif_spec h
   obtain⟨he,hsz,hpos⟩:=fits_spec hf
   obtain⟨L,H,off',len',hl,hh,h1,h2,h,hw⟩:=sliceH_spec h
   refine⟨_,L,H,_,h,rfl,rfl,hl,hh,h1,h2,he,fun _ m=>by simpa[hs]using m,fun m hr hx=>?_⟩
   obtain⟨p,hs,_⟩:=m.L (h:=g) (by rw[hr g (by simp)];exact hg)
   obtain⟨v,e1,hv⟩:=hx
   cases e1
   rw[hs]at hv
   obtain⟨hv,hle⟩:=hv
   rw[←slenN_eq]at hw h2 ⊢
   obtain⟨a,c,rfl,hc,hM⟩:=HV.cut hv hle hw h1 h2
   refine⟨a,c,rfl,hc,fun M h3 h4=>⟨_,rfl,?_⟩⟩
   rw[hs,hsz]
   exact hM M h3 h4
  ·rename_i e xs hg
   obtain⟨hf,h⟩:=bif_spec h
   obtain⟨he,hsz,hpos⟩:=fits_spec hf
   obtain⟨L,H,off',len',hl,hh,h1,h2,h,hw⟩:=sliceH_spec h
   refine⟨_,L,H,_,h,rfl,rfl,hl,hh,h1,h2,he,fun _ m=>by simpa[hs]using m,fun m hr hx=>?_⟩
   obtain⟨p,hs,_⟩:=m.F (h:=g) (by rw[hr g (by simp)];exact hg)
   obtain⟨v,e1,hv⟩:=hx
   cases e1
   rw[hs]at hv
   obtain⟨hv,hle⟩:=hv
   rw[←slenN_eq]at hw h2 ⊢
   obtain⟨a,c,rfl,hc,hM⟩:=HV.cut hv hle hw h1 h2
   refine⟨a,c,rfl,hc,fun M h3 h4=>⟨_,rfl,?_⟩⟩
   rw[hs,hsz]
   exact hM M h3 h4
  ·rename_i e ids st u pd hg
   obtain⟨hf,h⟩:=bif_spec h
   obtain⟨he,hsz⟩:=one_spec hf
   obtain⟨L,H,off',len',hl,hh,h1,h2,h,hw⟩:=sliceH_spec h
   refine⟨_,L,H,_,h,rfl,rfl,hl,hh,h1,h2,he,fun _ m=>by simpa[hs]using m,fun m hr hx=>?_⟩
   obtain⟨p,q,hs,_⟩:=m.N (h:=g) (by rw[hr g (by simp)];exact hg)
   obtain⟨v,e1,hv⟩:=hx
   cases e1
   rw[hs]at hv
   obtain⟨hv,hle⟩:=hv
   obtain⟨a,c,rfl,hc,hM⟩:=HV.cut hv hle hw h1 h2
   refine⟨a,c,rfl,hc,fun M h3 h4=>⟨_,rfl,?_⟩⟩
   rw[hs,hsz]
   exact hM M h3 h4
  ·cases h
 ·rename_i g id off len u
  split at h
  ·rename_i e ids st u' pd hg
   obtain⟨hf,h⟩:=bif_spec h
   simp only[Bool.and_eq_true]at hf
   obtain⟨hf,hu'⟩:=hf
   have hu':=Nat.eq_of_beq_eq_true hu'
   obtain⟨he,hsz,hpos⟩:=fits_spec hf
   obtain⟨L,H,off',len',hl,hh,h1,h2,h,hw⟩:=sliceR_spec h
   refine⟨_,L,H,_,h,rfl,rfl,hl,hh,h1,h2,he,fun _ m=>by simpa[hs]using m,fun m hr hx=>?_⟩
   obtain⟨p,q,hs,hq,hn⟩:=m.N (h:=g) (by rw[hr g (by simp)];exact hg)
   obtain⟨v,e1,hv⟩:=hx
   cases e1
   rw[hs]at hv
   obtain⟨hle0,hv⟩:=hv
   obtain⟨hv,hle⟩:=hv (by rw[hq,hu'])
   rw[←slenN_eq, ←hn.lenOf]at hw h2 ⊢
   obtain⟨a,c,rfl,hc,hM⟩:=HV.cut hv hle hw h1 h2
   refine⟨a,c,rfl,hc,fun M h3 h4=>⟨_,rfl,?_⟩⟩
   rw[hs,hsz, ←hn.sz]
   exact⟨⟨hle0.1,rfl⟩,fun _=>hM M h3 h4⟩
  ·cases h
 ·cases h
def OV (Z:Nat→Prop) (w:World) (σ:Nat→Sh) (x:Option AV) (y:Option Value):Prop:=(x=none∧y=none)∨ ∃a b,x=some a∧y=some b∧VR Z w σ a [b]
theorem OV.eq_none {y:Option Value} (h:OV Z w σ none y):y=none:=by
 rcases h with ⟨_,e⟩|⟨_,_,e,_⟩
 ·exact e
 ·cases e
theorem OV.eq_some {a:AV} {y:Option Value} (h:OV Z w σ (some a) y): ∃b,y=some b∧VR Z w σ a [b]:=by
 rcases h with ⟨e,_⟩|⟨_,b,e,e2,h⟩
 ·cases e
 ·cases e
  exact⟨b,e2,h⟩
theorem BA.val {x:Option AV} {d i:Nat} (h:BA x d i) {y:Option Value} (hy:OV Z w σ x y):BV y d i:=by
 rcases h with ⟨rfl,rfl⟩|⟨v,rfl,hv⟩
 ·rcases hy with ⟨_,rfl⟩|⟨a,b,e,_,_⟩
  ·exact .inl ⟨rfl,rfl⟩
  ·cases e
 ·rcases hy with ⟨e,_⟩|⟨a,b,e,rfl,hb⟩
  ·cases e
  ·cases e
   obtain⟨k,rfl⟩:=asI_VR hv hb
   exact .inr ⟨k,rfl⟩
theorem lenS_rd {x:AV} {K:Eff→Option R} {r:R} (h:lenS hp x K=some r): ∃e,K e=some r∧(∀h∈e.rd,h∈hs x)∧ ∃n:Nat,e.v=av .i64 n∧
  ∀{hp':Nat→Ob} {Z:Nat→Prop} {w:World} {σ:Nat→Sh} {a:Value},MR gv Z w σ hp'→(∀h∈e.rd,hp' h=hp h)→VR Z w σ x [a]→ ∃b c,a= .slice b n c:=by
 have hrd: ∃rd,(∀h∈rd,h∈hs x)∧ ∀e,lenS hp x some=some e→e.rd=rd:=by
  refine⟨hs x,fun _ h=>h,fun e he=>?_⟩
  unfold lenS at he
  repeat' split at he
  all_goals first|(cases he;rfl)|cases he
 have h2: ∃e,lenS hp x some=some e∧K e=some r:=by
  unfold lenS at h ⊢
  repeat' split at h
  all_goals first|exact⟨_,rfl,h⟩|(simp_all;done)|cases h
 obtain⟨rd,h3,h4⟩:=hrd
 obtain⟨e,h5,h6⟩:=h2
 obtain⟨e',h7,_,_,n,h8,h9⟩:=lenS_snd (gv:=gv) h5
 cases h7
 exact⟨e,h6,fun h hh=>h3 h (by rw[←h4 e h5];exact hh),n,h8,h9⟩
theorem sliceOp_snd (hE:EnvOk P E) {t et:Nat} (ht:(E.ti t).ok=true) (hu:(E.ti t).u= .sl et) {x:AV} {lo hi mx:Option AV} {K:Eff→Option R} {r:R}
  (h:sliceE (E.ti et) hp x lo hi (mxE hp x hi mx K)=some r): ∃e,K e=some r∧e.wr=[]∧e.nw=[]∧ ∀{hp':Nat→Ob} {Z:Nat→Prop} {w:World} {σ:Nat→Sh} {a:Value} {lo' hi' mx':Option Value},
   MR gv Z w σ hp'→(∀h∈e.rd,hp' h=hp h)→VR Z w σ x [a]→OV Z w σ lo lo'→
   OV Z w σ hi hi'→OV Z w σ mx mx'→
   ∃u,(Instr.sliceAt t a lo' hi' mx').run P w= .ok u w∧VR Z w σ e.v [u]:=by
 obtain⟨e,L,H,n,hK,h1,h2,hl,hh,h3,h4,h5,h6,h7⟩:=sliceE_snd (gv:=gv) h
 unfold mxE at hK
 split at hK
 ·refine⟨e,hK,h1,h2,fun m hr hx el eh em=>?_⟩
  obtain⟨b,c,rfl,hc,hM⟩:=h7 m hr hx
  cases em.eq_none
  exact⟨_,run_slice_am hE ht hu h5 (hl.val el) (hh.val eh) (.inl ⟨rfl,rfl⟩) (fun e=>absurd rfl e) h3 (Nat.le_trans h4 hc) (Nat.le_refl _),hM _ (Nat.le_trans h4 hc) (Nat.le_refl _)⟩
 ·rename_i mv
  split at hK
  case h_2=>cases hK
  rename_i hv
  split at hK
  case h_2=>cases hK
  rename_i k hk
  split at hK
  case h_2=>cases hK
  rename_i m hm
  obtain⟨el,hK,hrd,nn,hn,hlen⟩:=lenS_rd (gv:=gv) hK
  rw[hn]at hK
  simp only[av,asI]at hK
  split at hK
  case isFalse=>cases hK
  rename_i hkm
  refine⟨e,hK,h1,h2,fun mr hr hx el eh em=>?_⟩
  obtain⟨b,c,rfl,hc,hM⟩:=h7 mr hr hx
  obtain⟨b2,c2,e2⟩:=hlen mr (fun g hg=>hr g (h6 g (hrd g hg))) hx
  simp only[Value.slice.injEq]at e2
  obtain⟨_,rfl,_⟩:=e2
  have hH:(H:Int)=k:=by
   rcases hh with ⟨e,_⟩|⟨v,e,h⟩
   ·cases e
   ·cases e
    rw[hk]at h
    exact(Option.some.inj h).symm
  obtain⟨mb,rfl,hmb⟩:=em.eq_some
  obtain⟨km,rfl⟩:=asI_VR hm hmb
  obtain⟨hb,rfl,hhb⟩:=eh.eq_some
  have hm0:m=(m.toNat:Int):=by omega
  refine⟨_,run_slice_am hE ht hu h5 (hl.val el) (hh.val (.inr ⟨_,_,rfl,rfl,hhb⟩)) (M:=m.toNat) (.inr ⟨km,by rw[←hm0]⟩) (fun _ e=>by cases e) h3 (by omega) (by omega),hM _ (by omega) (by omega)⟩
end
end Go.Proofs.YtkeiedikiiccpaaGreatDoor.Am
