/- A part of the proof of ScrubMade: lemmas. Conditions: those of the given row (what comes in is well formed and within the reach of the machine; the listed variable holds what the program laid). -/
import Derived.Orders
import Derived.KernelRfl
set_option linter.all false
namespace Go.Proofs.YtkeiedikiiccpaaGreatDoor.Am
open Go
inductive Ty where
 | int (k:IntKind)
 | bool
 | str
 | sl (e:Ty)
 | pr (a b:Ty)
 | un
 deriving DecidableEq
def Ty.den:Ty→Type
 | .int _=>Int
 | .bool=>Bool
 | .str=>ByteArray
 | .sl e=>List e.den
 | .pr a b=>a.den×b.den
 | .un=>Unit
def Ty.sz:Ty→Nat
 | .pr a b=>a.sz+b.sz
 | .un=>0
 | _=>1
def Ty.zero:(t:Ty)→t.den
 | .int _=>(0:Int)
 | .bool=>false
 | .str=>ByteArray.empty
 | .sl _=>[]
 | .pr a b=>(a.zero,b.zero)
 | .un=>()
def cast (t u:Ty) (x:t.den):Option u.den:=if h:t=u then some (h▸x)else none
inductive AV where
 | any
 | nil
 | p (t:Ty) (x:t.den)
 | k (v:Value)
 | sl (h:Nat) (off len:Option Nat)
 | ptr (h i o:Nat)
 | row (h id:Nat) (off len:Option Nat) (v:Nat)
 | prw (h id j o v:Nat)
 | pap (h v:Nat)
 | agg (cs:AV)
 | tup (vs:AV)
 | clo (f:Nat) (caps:AV)
 | rp (cs:AV) (o:Nat)
 | rl (e:Ty) (xs:List e.den) (i o:Nat)
 | e0
 | cn (a b:AV)
namespace AV
def nth:AV→Nat→AV
 | .cn a _,0=>a
 | .cn _ b,n+1=>b.nth n
 | _,_=> .any
def drop:AV→Nat→AV
 | .cn a b,0=> .cn a b
 | .cn _ b,n+1=>b.drop n
 | .e0,_=> .e0
 | x,_=>x
def take:AV→Nat→AV
 | _,0=> .e0
 | .cn a b,n+1=> .cn a (b.take n)
 | _,_=> .e0
def app:AV→AV→AV
 | .cn a b,y=> .cn a (b.app y)
 | _,y=>y
def len:AV→Nat
 | .cn _ b=>b.len+1
 | _=>0
def put:AV→Nat→AV→AV
 | .cn _ b,0, .cn v vs=> .cn v (b.put 0 vs)
 | .cn a b,n+1,vs=> .cn a (b.put n vs)
 | x,_,_=>x
def cells:AV→AV
 | .agg cs=>cs
 | v=> .cn v .e0
end AV
def oneA:AV→Bool
 | .p (.pr _ _) _=>false
 | .p .un _=>false
 | .p _ _=>true
 | .k (.agg _)=>false
 | .k (.tuple _)=>false
 | .k _=>true
 | .any=>false
 | .agg _=>false
 | .tup _=>false
 | .cn _ _=>false
 | .e0=>false
 | _=>true
def cellsOk:AV→Bool
 | .agg _=>true
 | v=>oneA v
def oneAll:AV→Bool
 | .cn a b=>oneA a&&oneAll b
 | .e0=>true
 | _=>false
def toC:(e:Ty)→e.den→AV
 | .pr a b,x=>(toC a x.1).app (toC b x.2)
 | .un,_=> .e0
 | .int k,x=> .cn (.p (.int k) x) .e0
 | .bool,x=> .cn (.p .bool x) .e0
 | .str,x=> .cn (.p .str x) .e0
 | .sl e,x=> .cn (.p (.sl e) x) .e0
def castA (t:Ty):AV→Option t.den
 | .p u x=>cast u t x
 | .nil=>match t with
  | .sl _=>some []
  | _=>none
 | _=>none
def ofC:(e:Ty)→AV→Option (e.den×AV)
 | .pr a b,l=>match ofC a l with
  | some (x,r)=>match ofC b r with
   | some (y,r')=>some ((x,y),r')
   | none=>none
  | none=>none
 | .un,l=>some ((),l)
 | .int k, .cn v r=>(castA (.int k) v).map fun x=>(x,r)
 | .bool, .cn v r=>(castA .bool v).map fun x=>(x,r)
 | .str, .cn v r=>(castA .str v).map fun x=>(x,r)
 | .sl e, .cn v r=>(castA (.sl e) v).map fun x=>(x,r)
 | _,_=>none
def ofCs (e:Ty):Nat→AV→Option (List e.den)
 | 0, .e0=>some []
 | 0,_=>none
 | n+1,l=>match ofC e l with
  | some (x,r)=>(ofCs e n r).map (x:: ·)
  | none=>none
def rdE (e:Ty) (xs:List e.den) (i:Nat):e.den:=xs.getD i e.zero
def win {α:Type} (xs:List α):Option Nat→Option Nat→List α
 | none,none=>xs
 | none,some n=>xs.take n
 | some o,none=>xs.drop o
 | some o,some n=>(xs.drop o).take n
def slen {α:Type} (xs:List α):Option Nat→Option Nat→Nat
 | _,some n=>n
 | none,none=>xs.length
 | some o,none=>xs.length-o
def slenN (n:Nat):Option Nat→Option Nat→Nat
 | _,some m=>m
 | none,none=>n
 | some o,none=>n-o
def ofs:Option Nat→Nat
 | none=>0
 | some o=>o
def plus (off:Option Nat) (i:Nat):Nat:=match off with
 | none=>i
 | some o=>i+o
inductive Ob where
 | dead
 | L (e:Ty) (xs:List e.den)
 | F (e:Ty) (xs:List e.den)
 | B (cs:AV)
 | N (e:Ty) (ids:Option (List Nat)) (st:List (List e.den)) (v:Nat) (pd:Option (Nat×List e.den))
def idAt (ids:Option (List Nat)) (i:Nat):Nat:=match ids with
 | none=>i
 | some l=>l.getD i 0
def rowOf {α:Type} (st:List (List α)) (i:Nat):List α:=st.getD i []
def numOf {α:Type} (ids:Option (List Nat)) (st:List (List α)):Nat:=match ids with
 | none=>st.length
 | some l=>l.length
def mkL:(e:Ty)→List e.den→Ob
 | .sl (.int k),xs=> .N (.int k) none xs 0 none
 | .sl .bool,xs=> .N .bool none xs 0 none
 | e,xs=> .L e xs
inductive UK where
 | int (k:IntKind)
 | bool
 | str
 | sl (e:Nat)
 | st (fs:List (Nat×Nat))
 | ar (n e:Nat)
 | pt (e:Nat)
 | fn
 | ot
structure TI where
 u:UK
 size:Nat
 bytes:Nat
 z:AV
 ec:Ty
 ab:Option (Ty×Nat)
 cq:Bool
def TI.ok (t:TI):Bool:=match t.u with
 | .ot=>false
 | _=>true
def TI.eok (t:TI):Bool:=t.ok&&Nat.beq t.ec.sz t.size&&Nat.ble 1 t.size
def TI.fits (t:TI) (e:Ty):Bool:=t.ok&&Nat.beq e.sz t.size&&Nat.ble 1 t.size
def TI.one (t:TI):Bool:=t.ok&&Nat.beq t.size 1
def TI.agg (t:TI):Bool:=match t.u with
 | .st _=>true
 | .ar _ _=>true
 | _=>false
structure FRes where
 ret:AV
 objs:List Ob
abbrev Run:=AV→List Ob→(FRes→Option FRes)→Option FRes
structure Spec where
 own:List Bool
 run:Run
structure Env where
 ti:Nat→TI
 gl:Nat→AV
 orc:Nat→List Nat→Option Spec
structure Eff where
 v:AV
 rd:List Nat:=[]
 wr:List (Nat×Ob):=[]
 nw:List Ob:=[]
def constAV:Value→AV
 | .int k x=> .p (.int k) x
 | .bool b=> .p .bool b
 | .string s=> .p .str s
 | .slice none 0 0=> .nil
 | v=> .k v
def evA (E:Env) (tm:Nat→AV):Operand→AV
 | .tmp t=>tm t
 | .const v=>constAV v
 | .global g=>E.gl g
 | .func f=> .clo f .e0
def val (T:TI) (cs:AV):AV:=if T.agg then .agg (cs.take T.size)else cs.nth 0
def cellsOf (e:Ty) (xs:List e.den) (i:Nat):Nat→Nat→AV
 | _,0=> .e0
 | j,m+1=>(toC e (rdE e xs (i+j))).app (cellsOf e xs i (j+1) m)
def loadL (T:TI) (e:Ty) (xs:List e.den) (i o:Nat):AV:=match T.ab with
 | some (_,m)=> .agg (cellsOf e xs i 0 m)
 | none=>val T ((toC e (rdE e xs i)).drop o)
def frz (hp:Nat→Ob):AV→Option (AV×List Nat)
 | .sl h off len=>match hp h with
  | .L e xs=>some (.p (.sl e) (win xs off len),[h])
  | .F e xs=>some (.p (.sl e) (win xs off len),[h])
  | .N e none st _ _=>some (.p (.sl (.sl e)) (win st off len),[h])
  | _=>none
 | .p t x=>some (.p t x,[])
 | .nil=>some (.nil,[])
 | .e0=>some (.e0,[])
 | .cn a b=>match frz hp a with
  | some (a',l)=>match frz hp b with
   | some (b',r)=>some (.cn a' b',l++r)
   | none=>none
  | none=>none
 | .agg cs=>match frz hp cs with
  | some (c',l)=>some (.agg c',l)
  | none=>none
 | _=>none
def toF (hp:Nat→Ob) (h:Nat):Nat×Ob:=(h,match hp h with
 | .L e xs=> .F e xs
 | .F e xs=> .F e xs
 | .N e none st _ _=> .F (.sl e) st
 | _=> .dead)
def mkVar (T:TI) (cs:AV):Option Ob:=match T.ab with
 | some (e,m)=>bif Nat.ble 1 m then(ofCs e m cs).map (.L e)else none
 | none=>some (.B cs)
def bitI (op:BinOp) (k:IntKind) (x y:Int):Int:=
 match op with
 | .and=>k.wrap (BitVec.ofInt k.bits x&&&BitVec.ofInt k.bits y).toNat
 | .or=>k.wrap (BitVec.ofInt k.bits x|||BitVec.ofInt k.bits y).toNat
 | .xor=>k.wrap (BitVec.ofInt k.bits x^^^BitVec.ofInt k.bits y).toNat
 | _=>k.wrap (BitVec.ofInt k.bits x&&& ~~~BitVec.ofInt k.bits y).toNat
section
variable {R:Type}
def eqI (x y:Int) (r:Bool):Bool:=(x==y)&&r
def eqB (x y r:Bool):Bool:=(x==y)&&r
def eqC:AV→AV→Option Bool
 | .e0, .e0=>some true
 | .cn (.p (.int j) x) b, .cn (.p (.int k) y) d=>if j=k then(eqC b d).map (eqI x y)else none
 | .cn (.p .bool x) b, .cn (.p .bool y) d=>(eqC b d).map (eqB x y)
 | _,_=>none
def kd:AV→List Bool
 | .cn (.p (.int _) _) b=>true::kd b
 | .cn (.p .bool _) b=>false::kd b
 | _=>[]
def kdE:List Bool→List Bool→Bool
 | [],[]=>true
 | true::a,true::b=>kdE a b
 | false::a,false::b=>kdE a b
 | _,_=>false
def av (k:IntKind) (x:Int):AV:= .p (.int k) x
def ab (b:Bool):AV:= .p .bool b
def binI (op:BinOp) (k k':IntKind) (a b:Int) (K:AV→Option R):Option R:=
 match op with
 | .shl=>if 0≤b then K (av k (k.wrap (a*2^(min b.toNat k.bits))))else none
 | .shr=>if 0≤b then K (av k (a.fdiv (2^(min b.toNat k.bits))))else none
 | .add=>if k=k' then K (av k (k.wrap (a+b)))else none
 | .sub=>if k=k' then K (av k (k.wrap (a-b)))else none
 | .mul=>if k=k' then K (av k (k.wrap (a*b)))else none
 | .quo=>if k=k' then(if b=0 then none else K (av k (k.wrap (a.tdiv b))))else none
 | .rem=>if k=k' then(if b=0 then none else K (av k (a.tmod b)))else none
 | .and=>if k=k' then K (av k (bitI .and k a b))else none
 | .or=>if k=k' then K (av k (bitI .or k a b))else none
 | .xor=>if k=k' then K (av k (bitI .xor k a b))else none
 | .andNot=>if k=k' then K (av k (bitI .andNot k a b))else none
 | .eql=>if k=k' then K (ab (a==b))else none
 | .neq=>if k=k' then K (ab (a !=b))else none
 | .lss=>if k=k' then K (ab (decide (a<b)))else none
 | .leq=>if k=k' then K (ab (decide (a≤b)))else none
 | .gtr=>if k=k' then K (ab (decide (a>b)))else none
 | .geq=>if k=k' then K (ab (decide (a≥b)))else none
def binB (op:BinOp) (a b:Bool) (K:AV→Option R):Option R:=
 match op with
 | .eql=>K (ab (a==b))
 | .neq=>K (ab (!(a==b)))
 | _=>none
def binS (op:BinOp) (a b:ByteArray) (K:AV→Option R):Option R:=
 match op with
 | .eql=>K (ab (a.toList==b.toList))
 | .neq=>K (ab (!(a.toList==b.toList)))
 | _=>none
def byteAt (s:ByteArray) (i:Nat):Int:=((s[i]?).getD 0).toNat
def nilS:AV→Option Bool
 | .nil=>some true
 | .k (.slice a _ _)=>some a.isNone
 | .p (.sl _) (_::_)=>some false
 | _=>none
def binN (T:TI) (op:BinOp) (x:AV) (K:AV→Option R):Option R:=
 match T.u,nilS x with
 | .sl _,some b=>match op with
  | .eql=>K (ab b)
  | .neq=>K (ab (!b))
  | _=>none
 | _,_=>none
def binE (T:TI) (op:BinOp) (x y:AV) (K:AV→Option R):Option R:=
 match x,y with
 | x, .nil=>binN T op x K
 | .p (.int k) a, .p (.int k') b=>binI op k k' a b K
 | .p .str a, .p .str b=>binS op a b K
 | .p .bool a, .p .bool b=>match T.u with
  | .bool=>binB op a b K
  | _=>none
 | .agg cs, .agg ds=>bif T.cq&&(T.agg&&kdE (kd cs) (kd T.z))then match op with
  | .eql=>match eqC cs ds with
   | some r=>K (ab r)
   | none=>none
  | .neq=>match eqC cs ds with
   | some r=>K (ab (!r))
   | none=>none
  | _=>none
  else none
 | _,_=>none
def unI (op:UnOp) (k:IntKind) (a:Int) (K:AV→Option R):Option R:=
 match op with
 | .neg=>K (av k (k.wrap (0-a)))
 | .xor=>K (av k (bitI .xor k (if k.signed then-1 else k.max) a))
 | _=>none
def unE (op:UnOp) (x:AV) (K:AV→Option R):Option R:=
 match op,x with
 | op, .p (.int k) a=>unI op k a K
 | .not, .p .bool b=>K (ab (not b))
 | _,_=>none
def room:Nat:=140737488355328
def srcE (hp:Nat→Ob) (e:Ty) (v:AV):Option (List e.den×List Nat):=
 match v with
 | .nil=>some ([],[])
 | .k (.slice _ 0 _)=>some ([],[])
 | .p (.sl e') ys=>(cast (.sl e') (.sl e) ys).map fun zs=>(zs,[])
 | .sl g off len=>match hp g with
  | .L e' ys=>(cast (.sl e') (.sl e) (win ys off len)).map fun zs=>(zs,[g])
  | .F e' ys=>(cast (.sl e') (.sl e) (win ys off len)).map fun zs=>(zs,[g])
  | _=>none
 | .row g id off len v=>match hp g with
  | .N e' _ st w _=>if v=w then(cast (.sl e') (.sl e) (win (rowOf st id) off len)).map fun zs=>(zs,[g])else none
  | _=>none
 | _=>none
def atEnd {α:Type} (xs:List α) (off:Option Nat):Option Nat→Bool
 | none=>true
 | some n=>decide (ofs off+n=xs.length)
def appY (hp:Nat→Ob) (n:Nat) (e:Ty) (bytes:Nat) (s:AV) (ys:List e.den) (rd:List Nat) (K:Eff→Option R):Option R:=
 match s with
 | .nil=>if ys.length*bytes≤room then K { v:= .sl n none none,rd:=rd,nw:=[.L e ys] } else none
 | .row h id none none w=>match hp h with
  | .N e' ids st v _=>if w=v then match cast (.sl e) (.sl e') ys with
   | some zs=>if(List.length (rowOf st id)+ys.length)*bytes≤room then K { v:= .pap h (v+1),rd:=h::rd,wr:=[(h, .N e' ids st (v+1) (some (id,List.append (α:=e'.den) (rowOf st id) zs)))] } else none
   | none=>none
   else none
  | _=>none
 | .sl h off len=>match hp h with
  | .L e' xs=>match cast (.sl e') (.sl e) xs with
   | some zs=>if atEnd xs off len&&!rd.contains h then
     (if(List.length (win zs off none)+ys.length)*bytes≤room then
      K { v:= .sl n none none,rd:=h::rd,wr:=[(h, .dead)],nw:=[.L e (win zs off none++ys)] } else none)
    else none
   | none=>none
  | _=>none
 | _=>none
def asI:AV→Option Int
 | .p (.int _) i=>some i
 | _=>none
def rowsE (hp:Nat→Ob) (e:Ty) (x:AV):Option ((e':Ty)×List (List e'.den)×Nat):=match e,x with
 | .sl _, .sl g none none=>match hp g with
  | .N e' none st _ _=>some ⟨e',st,g⟩
  | _=>none
 | _,_=>none
def appE (E:Env) (hp:Nat→Ob) (n:Nat) (t t2:Nat) (s x:AV) (K:Eff→Option R):Option R:=
 match(E.ti t).u with
 | .sl et=>bif Nat.beq (E.ti et).bytes 0||!(E.ti et).eok||!(E.ti t2).ok then none else match(E.ti t2).u with
  | .int _=>match asI x with
   | some l=>if 0≤l∧l*(E.ti et).bytes≤room∧l<9223372036854775808 then
     appY hp n (E.ti et).ec (E.ti et).bytes s (List.replicate l.toNat (E.ti et).ec.zero) [] K else none
   | none=>none
  | .sl _=>match rowsE hp (E.ti et).ec x with
   | some ⟨e',st,g⟩=>match s with
    | .nil=>if st.length*(E.ti et).bytes≤room then K { v:= .sl n none none,rd:=[g],wr:=[(g, .dead)],nw:=[.N e' none st 0 none] } else none
    | .sl h none none=>match hp h with
     | .N e'' none st' _ _=>match cast (.sl (.sl e'')) (.sl (.sl e')) st' with
      | some zs=>if h=g then none else
       if(List.length zs+st.length)*(E.ti et).bytes≤room then K { v:= .sl n none none,rd:=[h,g],wr:=[(h, .dead),(g, .dead)],nw:=[.N e' none (List.append (α:=List e'.den) zs st) 0 none] } else none
      | none=>none
     | _=>none
    | _=>none
   | none=>match srcE hp (E.ti et).ec x with
    | some (ys,rd)=>appY hp n (E.ti et).ec (E.ti et).bytes s ys rd K
    | none=>none
  | _=>none
 | _=>none
def lenS (hp:Nat→Ob) (x:AV) (K:Eff→Option R):Option R:=
 match x with
 | .nil=>K { v:=av .i64 0 }
 | .p (.sl _) xs=>K { v:=av .i64 (List.length xs:Nat) }
 | .sl h off len=>match hp h with
  | .L _ xs=>K { v:=av .i64 (slen xs off len:Nat),rd:=[h] }
  | .F _ xs=>K { v:=av .i64 (slen xs off len:Nat),rd:=[h] }
  | .N _ ids st _ _=>match off,len with
   | none,none=>K { v:=av .i64 (numOf ids st:Nat),rd:=[h] }
   | _,_=>none
  | _=>none
 | .row h id off len v=>match hp h with
  | .N _ _ st w _=>if v=w then K { v:=av .i64 (slen (rowOf st id) off len:Nat),rd:=[h] } else none
  | _=>none
 | _=>none
def lenE (T:TI) (hp:Nat→Ob) (x:AV) (K:Eff→Option R):Option R:=
 match T.u with
 | .str=>match x with
  | .p .str s=>K { v:=av .i64 (ByteArray.size s:Nat) }
  | _=>none
 | .sl _=>lenS hp x K
 | _=>none
def at? (i:Int) (n:Nat) (x:Option R):Option R:=if 0≤i∧i<(n:Int)then x else none
def atN (i n:Nat) (x:Option R):Option R:=if i<n then x else none
def idxE (E:Env) (hp:Nat→Ob) (t:Nat) (x ix:AV) (K:Eff→Option R):Option R:=
 match asI ix with
 | some i=>match(E.ti t).u with
  | .sl et=>match x with
   | .p (.sl e) xs=>bif (E.ti et).fits e then at? i (List.length xs) (K { v:= .rl e xs i.toNat 0 })else none
   | .sl h off len=>match hp h with
    | .L e xs=>bif (E.ti et).fits e then at? i (slen xs off len) (K { v:= .ptr h (plus off i.toNat) 0,rd:=[h] })else none
    | .F e xs=>bif (E.ti et).fits e then at? i (slen xs off len) (K { v:= .ptr h (plus off i.toNat) 0,rd:=[h] })else none
    | .N _ ids st _ _=>match off,len with
     | none,none=>bif (E.ti et).one then at? i (numOf ids st) (K { v:= .ptr h i.toNat 0,rd:=[h] })else none
     | _,_=>none
    | _=>none
   | .row h id off len v=>match hp h with
    | .N e _ st w _=>bif (E.ti et).fits e&&Nat.beq v w then at? i (slen (rowOf st id) off len) (K { v:= .prw h id (plus off i.toNat) 0 v,rd:=[h] })else none
    | _=>none
   | _=>none
  | .ar n et=>match(E.ti et).ab with
   | some (_,m)=>match x with
    | .rl e xs j o=>bif (E.ti et).ok&&Nat.beq (E.ti et).size (m*e.sz)&&Nat.ble 1 e.sz then at? i n (atN (i.toNat*m+j) (List.length xs) (K { v:= .rl e xs (i.toNat*m+j) o }))else none
    | _=>none
   | none=>match x with
    | .ptr h j o=>match hp h with
     | .L e xs=>bif (E.ti et).fits e then at? i n (atN (i.toNat+j) (List.length xs) (K { v:= .ptr h (i.toNat+j) o,rd:=[h] }))else none
     | .F e xs=>bif (E.ti et).fits e then at? i n (atN (i.toNat+j) (List.length xs) (K { v:= .ptr h (i.toNat+j) o,rd:=[h] }))else none
     | _=>none
    | .rl e xs j o=>bif (E.ti et).fits e then at? i n (atN (i.toNat+j) (List.length xs) (K { v:= .rl e xs (i.toNat+j) o }))else none
    | _=>none
  | _=>none
 | none=>none
def bnd (x:Option AV) (d:Int):Option Int:=match x with
 | none=>some d
 | some v=>asI v
def cut? (l h:Int) (n:Nat) (x:Option R):Option R:=if 0≤l∧l≤h∧h≤(n:Int)then x else none
def offBy (off:Option Nat) (lo:Option AV) (l:Int):Option Nat:=match lo with
 | none=>off
 | some _=>some (plus off l.toNat)
def lenBy (len:Option Nat) (lo:Option AV) (l:Int):Option Nat:=match lo with
 | none=>len
 | some _=>match len with
  | none=>none
  | some n=>some (n-l.toNat)
def widBy (lo:Option AV) (l h:Int):Nat:=match lo with
 | none=>h.toNat
 | some _=>h.toNat-l.toNat
def dropBy {α:Type} (xs:List α) (lo:Option AV) (l:Int):List α:=match lo with
 | none=>xs
 | some _=>xs.drop l.toNat
def sliceH (g:Nat) (off len:Option Nat) (n:Nat) (lo hi:Option AV) (K:Eff→Option R):Option R:=
 match bnd lo 0 with
 | some l=>match hi with
  | none=>cut? l n n (K { v:= .sl g (offBy off lo l) (lenBy len lo l),rd:=[g] })
  | some hv=>match asI hv with
   | some h=>cut? l h n (K { v:= .sl g (offBy off lo l) (some (widBy lo l h)),rd:=[g] })
   | none=>none
 | none=>none
def sliceR (g id v:Nat) (off len:Option Nat) (n:Nat) (lo hi:Option AV) (K:Eff→Option R):Option R:=
 match bnd lo 0 with
 | some l=>match hi with
  | none=>cut? l n n (K { v:= .row g id (offBy off lo l) (lenBy len lo l) v,rd:=[g] })
  | some hv=>match asI hv with
   | some h=>cut? l h n (K { v:= .row g id (offBy off lo l) (some (widBy lo l h)) v,rd:=[g] })
   | none=>none
 | none=>none
def sliceE (T:TI) (hp:Nat→Ob) (x:AV) (lo hi:Option AV) (K:Eff→Option R):Option R:=
 match x with
 | .p (.sl e) xs=>bif T.fits e then match bnd lo 0 with
  | some l=>match hi with
   | none=>cut? l (List.length xs:Nat) (List.length xs) (K { v:= .p (.sl e) (dropBy xs lo l) })
   | some hv=>match asI hv with
    | some h=>cut? l h (List.length xs) (K { v:= .p (.sl e) (dropBy (List.take h.toNat xs) lo l) })
    | none=>none
  | none=>none
  else none
 | .nil=>match bnd lo 0,bnd hi 0 with
  | some l,some h=>bif T.ok then if l=0∧h=0 then K { v:= .nil } else none else none
  | _,_=>none
 | .sl g off len=>match hp g with
  | .L e xs=>bif T.fits e then sliceH g off len (slen xs off len) lo hi K else none
  | .F e xs=>bif T.fits e then sliceH g off len (slen xs off len) lo hi K else none
  | .N _ ids st _ _=>bif T.one then sliceH g off len (slenN (numOf ids st) off len) lo hi K else none
  | _=>none
 | .row g id off len v=>match hp g with
  | .N e _ st w _=>bif T.fits e&&Nat.beq v w then sliceR g id v off len (slen (rowOf st id) off len) lo hi K else none
  | _=>none
 | _=>none
def storeE (E:Env) (hp:Nat→Ob) (t:Nat) (a v:AV) (K:Eff→Option R):Option R:=
 bif !(E.ti t).ok then none else match a with
 | .ptr h i o=>match hp h with
  | .B cs=>if i=0∧o+(E.ti t).size≤cs.len∧v.cells.len=(E.ti t).size∧oneAll v.cells=true then K { v:= .any,rd:=[h],wr:=[(h, .B (cs.put o v.cells))] } else none
  | .L e xs=>match frz hp v with
   | some (v',fs)=>if fs.contains h||!cellsOk v' then none else
    match(E.ti t).ab with
    | some (_,m)=>if i=0∧o=0∧v'.cells.len=(E.ti t).size then match ofCs e m v'.cells with
     | some ys=>if ys.length=xs.length then K { v:= .any,rd:=h::fs,wr:=(h, .L e ys)::fs.map (toF hp) } else none
     | none=>none
     else none
    | none=>if v'.cells.len=(E.ti t).size∧o+(E.ti t).size≤e.sz then match ofC e ((toC e (rdE e xs i)).put o v'.cells)with
     | some (x, .e0)=>K { v:= .any,rd:=h::fs,wr:=(h, .L e (xs.set i x))::fs.map (toF hp) }
     | _=>none
     else none
   | none=>none
  | .N e ids st w pd=>if o=0∧(E.ti t).size=1 then match v with
   | .pap h' w'=>match ids,pd with
    | none,some (id,ys)=>if h'=h∧w'=w then(if i=id then K { v:= .any,rd:=[h],wr:=[(h, .N e none (st.set id ys) (w+1) none)] } else none)else none
    | _,_=>none
   | .sl g none none=>match ids with
    | none=>match hp g with
     | .L e' xs=>match cast (.sl e') (.sl e) xs with
      | some ys=>if g=h then none else K { v:= .any,rd:=[h,g],wr:=[(h, .N e none (st.set i ys) (w+1) none),(g, .dead)] }
      | none=>none
     | _=>none
    | some _=>none
   | .row h' id none none w'=>if h'=h∧w'=w then K { v:= .any,rd:=[h],wr:=[(h, .N e (some (List.set (match ids with|none=>List.range st.length|some l=>l) i id)) st w none)] } else none
   | _=>none
   else none
  | _=>none
 | .prw h id j o u=>match hp h with
  | .N e ids st w _=>if u=w then match frz hp v with
   | some (v',[])=>if v'.cells.len=(E.ti t).size∧o+(E.ti t).size≤e.sz∧cellsOk v'=true then match ofC e ((toC e (rdE e (rowOf st id) j)).put o v'.cells)with
    | some (x, .e0)=>K { v:= .any,rd:=[h],wr:=[(h, .N e ids (st.set id (List.set (rowOf st id) j x)) w none)] }
    | _=>none
    else none
   | _=>none
   else none
  | _=>none
 | _=>none
def fillE (z:AV) (place:Nat→Option (Nat×Nat)):List (Nat×AV)→Option AV
 | []=>some z
 | (i,v)::r=>match place i with
  | some (off,size)=>if v.cells.len=size∧off+size≤z.len∧cellsOk v=true then fillE (z.put off v.cells) place r else none
  | none=>none
def places (E:Env) (t:Nat):Nat→Option (Nat×Nat):=match(E.ti t).u with
 | .st fs=>fun i=>match fs[i]? with
  | some (off,ft)=>bif (E.ti ft).ok then some (off,(E.ti ft).size)else none
  | none=>none
 | .ar n et=>fun i=>if i<n∧(E.ti et).ok=true then some (i*(E.ti et).size,(E.ti et).size)else none
 | _=>fun _=>none
def nodupB:List Nat→Bool
 | []=>true
 | x::r=>!r.contains x&&nodupB r
def partsOk (n:Nat) (ps:List (Nat×AV)):Bool:=nodupB (ps.map (·.1))&&ps.all fun q=>Nat.blt q.1 n&&cellsOk q.2
def elemsE (e:Ty) (parts:List (Nat×AV)):Nat→Nat→Option (List e.den)
 | _,0=>some []
 | j,n+1=>match(match parts.find? (fun q=>q.1==j)with
   | some (_,v)=>match ofC e v.cells with
    | some (x, .e0)=>some x
    | _=>none
   | none=>some e.zero)with
  | some x=>(elemsE e parts (j+1) n).map (x:: ·)
  | none=>none
def frzL (hp:Nat→Ob):List (Nat×AV)→Option (List (Nat×AV)×List Nat)
 | []=>some ([],[])
 | (i,v)::r=>match frz hp v with
  | some (v',l)=>match frzL hp r with
   | some (r',l')=>some ((i,v')::r',l++l')
   | none=>none
  | none=>none
end
def sig:AV→List Nat
 | .clo f _=>[f]
 | .cn a b=>sig a++sig b
 | _=>[]
def hs:AV→List Nat
 | .sl h _ _=>[h]
 | .ptr h _ _=>[h]
 | .row h _ _ _ _=>[h]
 | .prw h _ _ _ _=>[h]
 | .pap h _=>[h]
 | .agg c=>hs c
 | .tup c=>hs c
 | .clo _ c=>hs c
 | .rp c _=>hs c
 | .cn a b=>hs a++hs b
 | _=>[]
def obHs:Ob→List Nat
 | .B cs=>hs cs
 | _=>[]
def addNew (l xs:List Nat):List Nat:=xs.foldl (fun a h=>if a.contains h then a else a++[h]) l
def clos (hp:Nat→Ob):Nat→Nat→List Nat→List Nat
 | 0,_,l=>l
 | f+1,i,l=>match l[i]? with
  | some h=>clos hp f (i+1) (addNew l (obHs (hp h)))
  | none=>l
def ren (f:Nat→Option Nat) (c:Nat→Nat):AV→AV
 | .sl h o l=>match f h with
  | some j=> .sl j o l
  | none=> .any
 | .ptr h i o=>match f h with
  | some j=> .ptr j i o
  | none=> .any
 | .row h id o l v=>match f h with
  | some j=>if v=c h then .row j id o l 0 else .any
  | none=> .any
 | .prw h id j o v=>match f h with
  | some h'=>if v=c h then .prw h' id j o 0 else .any
  | none=> .any
 | .pap _ _=> .any
 | .agg d=> .agg (ren f c d)
 | .tup d=> .tup (ren f c d)
 | .clo g d=> .clo g (ren f c d)
 | .cn a b=> .cn (ren f c a) (ren f c b)
 | .rp d o=> .rp (ren f c d) o
 | .any=> .any
 | .nil=> .nil
 | .p t x=> .p t x
 | .k v=> .k v
 | .rl e xs i o=> .rl e xs i o
 | .e0=> .e0
def renO (f:Nat→Option Nat) (c:Nat→Nat):Ob→Ob
 | .B cs=> .B (ren f c cs)
 | .N e ids st _ _=> .N e ids st 0 none
 | o=>o
def ver:Ob→Nat
 | .N _ _ _ v _=>v
 | _=>0
def vers (hp:Nat→Ob) (h:Nat):Nat:=ver (hp h)
def bump (v:Nat):Ob→Ob
 | .N e ids st _ _=> .N e ids st (v+1) none
 | o=>o
def idxOf (h:Nat):List Nat→Nat→Option Nat
 | [],_=>none
 | x::r,i=>bif Nat.beq x h then some i else idxOf h r (i+1)
def snapW (bx:AV→Option (AV×List Nat)) (hp:Nat→Ob):AV→Option (AV×List Nat)
 | .sl h off len=>match hp h with
  | .L e xs=>some (.p (.sl e) (win xs off len),[h])
  | .F e xs=>some (.p (.sl e) (win xs off len),[h])
  | .N e none st _ _=>some (.p (.sl (.sl e)) (win st off len),[h])
  | _=>none
 | .row h id off len v=>match hp h with
  | .N e _ st w _=>if v=w then some (.p (.sl e) (win (rowOf st id) off len),[h])else none
  | _=>none
 | .prw _ _ _ _ _=>none
 | .pap _ _=>none
 | .ptr h i o=>match hp h with
  | .L e xs=>some (.rl e xs i o,[h])
  | .F e xs=>some (.rl e xs i o,[h])
  | .B cs=>match bx cs with
   | some (c,l)=>if i=0 then some (.rp c o,h::l)else none
   | none=>none
  | _=>none
 | .agg c=>match snapW bx hp c with
  | some (c',l)=>some (.agg c',l)
  | none=>none
 | .clo f c=>match snapW bx hp c with
  | some (c',l)=>some (.clo f c',l)
  | none=>none
 | .cn a b=>match snapW bx hp a with
  | some (a',l)=>match snapW bx hp b with
   | some (b',r)=>some (.cn a' b',l++r)
   | none=>none
  | none=>none
 | .tup _=>none
 | .any=>some (.any,[])
 | .nil=>some (.nil,[])
 | .p t x=>some (.p t x,[])
 | .k v=>some (.k v,[])
 | .rp c o=>some (.rp c o,[])
 | .rl e xs i o=>some (.rl e xs i o,[])
 | .e0=>some (.e0,[])
def snap (hp:Nat→Ob):Nat→AV→Option (AV×List Nat)
 | 0=>snapW (fun _=>none) hp
 | n+1=>snapW (snap hp n) hp
def argsE (hp:Nat→Ob):List Bool→AV→Option (AV×List Nat)
 | own, .cn a b=>match(if own.headD false then some (a,[])else snap hp 3 a)with
  | some (a',l)=>match argsE hp own.tail b with
   | some (b',r)=>some (.cn a' b',l++r)
   | none=>none
  | none=>none
 | _, .e0=>some (.e0,[])
 | _,_=>none
def noSlT:Ty→Bool
 | .sl _=>false
 | .pr a b=>noSlT a&&noSlT b
 | _=>true
def noSl:AV→Bool
 | .p t _=>noSlT t
 | .agg c=>noSl c
 | .tup c=>noSl c
 | .clo _ c=>noSl c
 | .rp _ _=>false
 | .rl _ _ _ _=>false
 | .cn a b=>noSl a&&noSl b
 | .k _=>true
 | _=>true
def noSlO:Ob→Bool
 | .L e _=>noSlT e
 | .F _ _=>false
 | .N e _ _ _ _=>noSlT e
 | .B c=>noSl c
 | .dead=>true
def disj (a b:List Nat):Bool:=a.all fun x=>!b.contains x
def roots (hp:Nat→Ob) (ord:List Nat) (f:Nat→Option Nat) (c:Nat→Nat):Nat→List Ob→List (Nat×Ob)
 | 0,_=>[]
 | _+1,[]=>[]
 | r+1,o::os=>match ord with
  | h::t=>(h,bump (vers hp h) (renO f c o))::roots hp t f c r os
  | []=>[]
def upd {α:Type} (f:Nat→α) (i:Nat) (v:α):Nat→α:=fun j=>bif Nat.beq j i then v else f j
def rowArg (n:Nat):List Bool→AV→Option (Nat×Nat×Nat×AV)
 | true::_, .cn (.row h id none none v) b=>some (h,id,v, .cn (.sl n none none) b)
 | _::own, .cn a b=>match rowArg n own b with
  | some (h,id,v,b')=>some (h,id,v, .cn a b')
  | none=>none
 | _,_=>none
def wrs (hp:Nat→Ob):List (Nat×Ob)→Nat→Ob
 | []=>hp
 | (h,o)::r=>wrs (upd hp h o) r
section
variable {R:Type}
def callS (sp:Spec) (hp:Nat→Ob) (n:Nat) (args:AV) (K:Eff→Option FRes):Option FRes:=
 match argsE hp sp.own args with
  | some (args',bs)=>
   let ord0:=addNew [] (hs args')
   let ord:=clos hp 20 0 ord0
   let r:=ord0.length
   let f':=fun h=>idxOf h ord 0
   if disj bs ord&&(nodupB ord&&Nat.beq (addNew [] (hs (ren f' (vers hp) args'))).length r)then
    sp.run (ren f' (vers hp) args') (ord.map fun h=>renO f' (vers hp) (hp h)) fun fr=>
     let back:=fun j=>if j<r then ord[j]? else some (n+(j-r))
     let keep:=noSl fr.ret&&fr.objs.all noSlO
     let c:=fun j=>if j<r then 1 else ver (fr.objs.getD j .dead)
     K { v:=ren back c fr.ret,rd:=ord++bs,wr:=roots hp ord back c r fr.objs++(ord.drop r).map (fun h=>(h, .dead))++(if keep then []else bs.map (toF hp)),nw:=(fr.objs.drop r).map (renO back c) }
   else none
  | none=>none
def callE (E:Env) (hp:Nat→Ob) (n:Nat) (f:Nat) (args:AV) (K:Eff→Option FRes):Option FRes:=
 match E.orc f (sig args)with
 | some sp=>match rowArg n sp.own args with
  | some (h,id,v,args')=>match hp h with
   | .N e ids st w _=>if v=w then callS sp (upd (upd hp h .dead) n (.L e (rowOf st id))) (n+1) args' fun x=>match wrs (upd hp n (.L e (rowOf st id))) x.wr n with
    | .L e' xs=>match cast (.sl e') (.sl e) xs with
     | some ys=>if x.rd.contains h then none else K { v:=x.v,rd:=h::x.rd.filter (fun g=>!Nat.beq g n),wr:=x.wr.filter (fun q=>!Nat.beq q.1 n)++[(h, .N e ids (st.set id ys) w none)],nw:= .dead::x.nw }
     | none=>none
    | _=>none
    else none
   | _=>none
  | none=>callS sp hp n args K
 | none=>none
def minI (a b:Int):Int:=if b<a then b else a
def maxI (a b:Int):Int:=if b>a then b else a
def builtinE (E:Env) (hp:Nat→Ob) (n:Nat) (b:Builtin) (ats:Array Nat) (args:AV) (K:Eff→Option R):Option R:=
 match b with
 | .len=>match ats.toList,args with
  | [t], .cn x .e0=>lenE (E.ti t) hp x K
  | _,_=>none
 | .append=>match ats.toList,args with
  | [t,t2], .cn x (.cn y .e0)=>appE E hp n t t2 x y K
  | _,_=>none
 | .min=>match args with
  | .cn (.p (.int k) a) (.cn (.p (.int _) b) .e0)=>K { v:=av k (minI a b) }
  | _=>none
 | .max=>match args with
  | .cn (.p (.int k) a) (.cn (.p (.int _) b) .e0)=>K { v:=av k (maxI a b) }
  | _=>none
 | _=>none
def convE (E:Env) (src dst:Nat) (x:AV) (K:Eff→Option R):Option R:=
 match x with
 | .p (.int _) a=>match(E.ti dst).u with
  | .int k=>match(E.ti src).u with
   | .int _=>K { v:=av k (k.wrap a) }
   | _=>none
  | _=>none
 | _=>none
def loadQ (T:TI) (e:Ty) (xs:List e.den) (i o:Nat) (x:Option R):Option R:=match T.ab with
 | some (e',m)=>if e'=e∧o=0 then(if i+m≤xs.length then x else none)else none
 | none=>if o+T.size≤e.sz then x else none
def loadE (E:Env) (hp:Nat→Ob) (t:Nat) (a:AV) (K:Eff→Option R):Option R:=
 bif !(E.ti t).ok then none else match a with
 | .ptr h i o=>match hp h with
  | .B cs=>if i=0∧o+(E.ti t).size≤cs.len then K { v:=val (E.ti t) (cs.drop o),rd:=[h] } else none
  | .L e xs=>loadQ (E.ti t) e xs i o (K { v:=loadL (E.ti t) e xs i o,rd:=[h] })
  | .F e xs=>loadQ (E.ti t) e xs i o (K { v:=loadL (E.ti t) e xs i o,rd:=[h] })
  | .N _ ids _ v _=>if o=0∧(E.ti t).size=1∧(E.ti t).agg=false then K { v:= .row h (idAt ids i) none none v,rd:=[h] } else none
  | .dead=>none
 | .rp cs o=>if o+(E.ti t).size≤cs.len then K { v:=val (E.ti t) (cs.drop o) } else none
 | .rl e xs i o=>loadQ (E.ti t) e xs i o (K { v:=loadL (E.ti t) e xs i o })
 | .prw h id j o v=>match hp h with
  | .N e _ st w _=>if v=w then loadQ (E.ti t) e (rowOf st id) j o (K { v:=loadL (E.ti t) e (rowOf st id) j o,rd:=[h] })else none
  | _=>none
 | _=>none
def avs (E:Env) (tm:Nat→AV):List Operand→AV
 | []=> .e0
 | x::r=> .cn (evA E tm x) (avs E tm r)
def parts (E:Env) (tm:Nat→AV) (ps:Array (Nat×Operand)):List (Nat×AV):=ps.toList.map fun q=>(q.1,evA E tm q.2)
def newRows (hp:Nat→Ob) (e:Ty) (ps:List (Nat×AV)):Option ((e':Ty)×List (List e'.den)×List Nat):=match e,ps with
 | .sl _,[(0, .sl g none none)]=>match hp g with
  | .L (.int k) xs=>some ⟨.int k,[xs],[g]⟩
  | .L .bool xs=>some ⟨.bool,[xs],[g]⟩
  | _=>none
 | _,_=>none
def fix1:Ty→AV→AV
 | .sl e, .nil=> .p (.sl e) []
 | _,v=>v
def fixC:Ty→AV→AV
 | .pr a b, .cn v r=> .cn (fix1 a v) (fixC b r)
 | t, .cn v r=> .cn (fix1 t v) r
 | _,l=>l
def fixL (E:Env):List Nat→AV→AV
 | t::ts, .cn v r=> .cn (match v with
  | .nil=>fix1 (E.ti t).ec .nil
  | .agg cs=> .agg (fixC (E.ti t).ec cs)
  | v=>v) (fixL E ts r)
 | _,l=>l
def mxE (hp:Nat→Ob) (x:AV) (hi mx:Option AV) (K:Eff→Option R) (e:Eff):Option R:=match mx with
 | none=>K e
 | some m=>match hi with
  | some h=>match asI h with
   | some h=>match asI m with
    | some m=>lenS hp x fun l=>match asI l.v with
     | some n=>if h≤m∧m≤n then K e else none
     | none=>none
    | none=>none
   | none=>none
  | none=>none
def opE (E:Env) (tm:Nat→AV) (hp:Nat→Ob) (n:Nat) (o:Oper) (K:Eff→Option FRes):Option FRes:=
 match o.op with
 | .move x=>K { v:=evA E tm x }
 | .assign x=>K { v:=evA E tm x }
 | .pick c a b=>match evA E tm c with
  | .p .bool x=>cond x (K { v:=evA E tm a }) (K { v:=evA E tm b })
  | _=>none
 | .alloc t=>if(E.ti t).z.len=(E.ti t).size∧(E.ti t).ok=true then match mkVar (E.ti t) (E.ti t).z with
  | some ob=>K { v:= .ptr n 0 0,nw:=[ob] }
  | none=>none
  else none
 | .box t x=>if(evA E tm x).cells.len=(E.ti t).size∧(E.ti t).ok=true∧cellsOk (evA E tm x)=true then match mkVar (E.ti t) (evA E tm x).cells with
  | some ob=>K { v:= .ptr n 0 0,nw:=[ob] }
  | none=>none
  else none
 | .build t ps=>bif (E.ti t).agg then match fillE (E.ti t).z (places E t) (parts E tm ps)with
  | some cs=>K { v:= .agg cs }
  | none=>none
  else none
 | .buildSlice t len ps=>match(E.ti t).u with
  | .sl et=>bif (E.ti et).eok&&partsOk len (parts E tm ps)then match newRows hp (E.ti et).ec (parts E tm ps)with
   | some ⟨e',xs,fs⟩=>if len=1 then K { v:= .sl n none none,rd:=fs,wr:=fs.map fun h=>(h, .dead),nw:=[.N e' none xs 0 none] } else none
   | none=>match frzL hp (parts E tm ps)with
   | some (ps',fs)=>match elemsE (E.ti et).ec ps' 0 len with
    | some xs=>if len*(E.ti et).size≤16777216 then K { v:= .sl n none none,rd:=fs,wr:=fs.map (toF hp),nw:=[.L (E.ti et).ec xs] } else none
    | none=>none
   | none=>none
   else none
  | _=>none
 | .load t a=>loadE E hp t (evA E tm a) K
 | .store t a v=>storeE E hp t (evA E tm a) (evA E tm v) K
 | .nilCheck x=>match evA E tm x with
  | .ptr h i o=>match hp h with
   | .dead=>none
   | _=>K { v:= .ptr h i o,rd:=[h] }
  | .rp cs o=>K { v:= .rp cs o }
  | .rl e xs i o=>K { v:= .rl e xs i o }
  | .clo f c=>K { v:= .clo f c }
  | _=>none
 | .binOp op t x y _=>binE (E.ti t) op (evA E tm x) (evA E tm y) fun v=>K { v:=v }
 | .unOp op _ x=>unE op (evA E tm x) fun v=>K { v:=v }
 | .convert s d x=>convE E s d (evA E tm x) K
 | .makeFunc (.func f) first caps=>if first.isEmpty then K { v:= .clo f (avs E tm caps.toList) } else none
 | .makeSlice t l c=>match asI (evA E tm l),asI (evA E tm c),(E.ti t).u with
  | some l,some c, .sl et=>bif (E.ti et).eok then if 0≤l∧l≤c∧c*(E.ti et).bytes≤room∧c<9223372036854775808 then
    K { v:= .sl n none none,nw:=[mkL (E.ti et).ec (List.replicate l.toNat (E.ti et).ec.zero)] } else none
   else none
  | _,_,_=>none
 | .slice t x lo hi mx=>match(E.ti t).u with
  | .sl et=>sliceE (E.ti et) hp (evA E tm x) (lo.map (evA E tm)) (hi.map (evA E tm)) (mxE hp (evA E tm x) (hi.map (evA E tm)) (mx.map (evA E tm)) K)
  | _=>none
 | .fieldAddr t x f=>match(E.ti t).u with
  | .st fs=>match fs[f]? with
   | some (off,ft)=>bif Nat.beq (E.ti ft).size 0||!(E.ti ft).ok then none else match evA E tm x with
    | .ptr h i o=>match hp h with
     | .dead=>none
     | _=>K { v:= .ptr h i (o+off),rd:=[h] }
    | .rp cs o=>K { v:= .rp cs (o+off) }
    | .rl e xs i o=>K { v:= .rl e xs i (o+off) }
    | _=>none
   | none=>none
  | _=>none
 | .field t x f=>match(E.ti t).u with
  | .st fs=>match fs[f]? with
   | some (off,ft)=>match evA E tm x with
    | .agg cs=>if off+(E.ti ft).size≤cs.len∧(E.ti ft).ok=true then K { v:=val (E.ti ft) (cs.drop off) } else none
    | _=>none
   | none=>none
  | _=>none
 | .indexAddr t x i=>idxE E hp t (evA E tm x) (evA E tm i) K
 | .index t x i=>match(E.ti t).u with
  | .ar m et=>match evA E tm x,asI (evA E tm i)with
   | .agg cs,some i=>match(E.ti t).ab with
    | some (e,q)=>match(E.ti et).ab,ofCs e q cs with
     | none,some xs=>bif !(Nat.beq m q&&(E.ti et).fits e)then none else at? i m (K { v:=val (E.ti et) (toC e (rdE e xs i.toNat)) })
     | _,_=>none
    | none=>none
   | _,_=>none
  | .str=>match evA E tm x,asI (evA E tm i)with
   | .p .str s,some i=>at? i s.size (K { v:=av .u8 (byteAt s i.toNat) })
   | _,_=>none
  | _=>none
 | .extract x i=>match evA E tm x with
  | .tup vs=>if i<vs.len then K { v:=vs.nth i } else none
  | _=>none
 | .call c=>match c.callee with
  | .builtin b=>builtinE E hp n b c.argTypes (avs E tm c.args.toList) K
  | .value f=>match evA E tm f with
   | .clo g caps=>callE E hp n g ((fixL E c.argTypes.toList (avs E tm c.args.toList)).app caps) K
   | _=>none
  | .invoke _ _=>none
 | _=>none
end
structure St where
 tm:Nat→AV
 hp:Nat→Ob
 n:Nat
def putD (tm:Nat→AV) (d:Option Nat) (v:AV):Nat→AV:=match d with
 | some d=>upd tm d v
 | none=>tm
def nws (hp:Nat→Ob) (n:Nat):List Ob→Nat→Ob
 | []=>hp
 | o::r=>nws (upd hp n o) (n+1) r
def St.ap (s:St) (d:Option Nat) (e:Eff):St:={ tm:=putD s.tm d e.v,hp:=nws (wrs s.hp e.wr) s.n e.nw,n:=s.n+e.nw.length }
structure Rec where
 i:Nat
 rt:List Nat
 wt:List Nat
 rh:List Nat
 wh:List Nat
def news (n:Nat):List Ob→List Nat
 | []=>[]
 | _::r=>n::news (n+1) r
def opT (o:Oper):List Nat:=o.op.operands.toList.filterMap fun| .tmp t=>some t|_=>none
def recOf (i:Nat) (o:Oper) (g:List Nat) (n:Nat) (e:Eff):Rec:=
 { i:=i,rt:=g++opT o,wt:=o.dst.toList,rh:=e.rd,wh:=e.wr.map (·.1)++news n e.nw }
def avU:AV:= .k (.tuple #[])
def evOps (E:Env) (gd:Nat→Option Nat):List (Nat×Oper)→St→List Rec→(St→List Rec→Option FRes)→Option FRes
 | [],s,tr,K=>K s tr
 | (i,o)::r,s,tr,K=>match o.guard with
  | none=>opE E s.tm s.hp s.n o fun e=>evOps E gd r (s.ap o.dst e) (recOf i o [] s.n e::tr) K
  | some (j,want)=>match gd j with
   | some d=>match s.tm d with
    | .p .bool b=>cond b
      (if want then
       opE E (upd s.tm d (ab true)) s.hp s.n o fun e=>evOps E gd r (St.ap { s with tm:=upd s.tm d (ab true) } o.dst e) (recOf i o [d] s.n e::tr) K
      else evOps E gd r { s with tm:=putD (upd s.tm d (ab true)) o.dst avU } ({ i:=i,rt:=[d],wt:=o.dst.toList,rh:=[],wh:=[] }::tr) K)
      (if want then evOps E gd r { s with tm:=putD (upd s.tm d (ab false)) o.dst avU } ({ i:=i,rt:=[d],wt:=o.dst.toList,rh:=[],wh:=[] }::tr) K
      else
       opE E (upd s.tm d (ab false)) s.hp s.n o fun e=>evOps E gd r (St.ap { s with tm:=upd s.tm d (ab false) } o.dst e) (recOf i o [d] s.n e::tr) K)
    | .k (.tuple _)=>evOps E gd r { s with tm:=putD s.tm o.dst avU } ({ i:=i,rt:=[d],wt:=o.dst.toList,rh:=[],wh:=[] }::tr) K
    | _=>none
   | none=>none
def befs:List Oper→List Nat→List Nat
 | [],acc=>acc
 | o::r,acc=>befs r (acc++[o.after.toList.foldl (fun m e=>bif Region.binds .any e then m|||2^e.on|||acc.getD e.on 0 else m) 0])
def edgesOk (ops:List Oper):Bool:=ops.zipIdx.all fun q=>q.1.after.toList.all fun e=>!Region.binds .any e||decide (e.on<q.2)
def apart (B:List Nat) (x y:Rec):Bool:=
 (B.getD y.i 0).testBit x.i||(B.getD x.i 0).testBit y.i||
 (disj x.wt y.rt&&disj x.wt y.wt&&disj y.wt x.rt&&disj x.wh y.rh&&disj x.wh y.wh&&disj y.wh x.rh)
def allApart (B:List Nat):List Rec→Bool
 | []=>true
 | x::r=>r.all (apart B x)&&allApart B r
def orderOk (ops:List Oper) (tr:List Rec):Bool:=edgesOk ops&&allApart (befs ops []) tr
inductive X where
 | nm
 | ex (id:Nat)
 | rt
inductive G where
 | frz (s:Nat) (c:Option Nat)
 | own (s:Nat) (c:Option Nat) (e:Ty)
 | dat (s:Nat) (c:Option Nat) (e:Ty)
 | shr (s:Nat) (c:Option Nat)
 | nrm (s:Nat) (c:Option Nat)
 | fl (s:Nat) (c:Option Nat)
 | kp (sl:List Nat)
def getP (s:St) (t:Nat):Option Nat→AV
 | none=>s.tm t
 | some c=>match s.tm t with
  | .agg cs=>cs.nth c
  | .ptr h _ _=>match s.hp h with
   | .B cs=>cs.nth c
   | _=> .any
  | _=> .any
def setP (s:St) (t:Nat) (c:Option Nat) (v:AV):Option St:=match c with
 | none=>some { s with tm:=upd s.tm t v }
 | some c=>match s.tm t with
  | .agg cs=>if c<cs.len then some { s with tm:=upd s.tm t (.agg (cs.put c (.cn v .e0))) } else none
  | .ptr h i _=>match s.hp h with
   | .B cs=>if i=0∧c<cs.len then some { s with hp:=upd s.hp h (.B (cs.put c (.cn v .e0))) } else none
   | _=>none
  | _=>none
def lk:List (Nat×AV)→Nat→AV
 | [],_=> .any
 | (i,v)::r,j=>bif Nat.beq i j then v else lk r j
def stC (l:List (Nat×AV)) (o:List Ob):St:={ tm:=lk l,hp:=fun j=>o.getD j .dead,n:=o.length }
def keepOrd (nr:Nat) (hp:Nat→Ob) (vs:AV):List Nat:=clos hp 60 0 (addNew (List.range nr) (hs vs))
def slotsV (tm:Nat→AV):List Nat→AV
 | []=> .e0
 | t::r=> .cn (tm t) (slotsV tm r)
def gE (nr:Nat) (g:G) (s:St) (K:St→Option FRes):Option FRes:=
 match g with
 | .frz t c=>match frz s.hp (getP s t c)with
  | some (v,fs)=>match setP { s with hp:=wrs s.hp (fs.map (toF s.hp)) } t c v with
   | some s'=>K s'
   | none=>none
  | none=>none
 | .own t c e=>match getP s t c with
  | .nil=>match setP { s with hp:=upd s.hp s.n (mkL e []),n:=s.n+1 } t c (.sl s.n none none)with
   | some s'=>K s'
   | none=>none
  | _=>K s
 | .dat t c e=>match getP s t c with
  | .nil=>match setP s t c (.p (.sl e) [])with
   | some s'=>K s'
   | none=>none
  | _=>K s
 | .shr t c=>match getP s t c with
  | .sl _ none none=>K s
  | .sl h off len=>match s.hp h with
   | .L e xs=>if nr≤h then match setP { s with hp:=upd (upd s.hp h .dead) s.n (.L e (win xs off len)),n:=s.n+1 } t c (.sl s.n none none)with
    | some s'=>K s'
    | none=>none
    else none
   | _=>none
  | _=>K s
 | .nrm t c=>match getP s t c with
  | .sl h _ _=>match s.hp h with
   | .N e (some l) st v _=>if l.Nodup∧l.all (fun i=>decide (i<st.length))then
     K { s with hp:=upd s.hp h (.N e none (l.map (rowOf st)) (v+1) none) } else none
   | _=>K s
  | _=>K s
 | .fl t c=>match getP s t c with
  | .sl h _ _=>match s.hp h with
   | .N e none st _ _=>K { s with hp:=upd s.hp h (.L (.sl e) st) }
   | _=>K s
  | _=>K s
 | .kp ts=>
  let ord:=keepOrd nr s.hp (slotsV s.tm ts)
  let f:=fun h=>idxOf h ord 0
  if nodupB ord&&decide (ord.take nr=List.range nr)then K (stC (ts.map fun t=>(t,ren f (vers s.hp) (s.tm t))) (ord.map fun h=>renO f (vers s.hp) (s.hp h)))else none
def gsE (nr:Nat):List G→St→(St→Option FRes)→Option FRes
 | [],s,K=>K s
 | g::r,s,K=>gE nr g s fun s'=>gsE nr r s' K
inductive H where
 | d
 | n (pre post:List G) (a b:H)
def H.pre:H→List G| .d=>[]| .n p _ _ _=>p
def H.post:H→List G| .d=>[]| .n _ p _ _=>p
def H.l:H→H| .d=> .d| .n _ _ a _=>a
def H.r:H→H| .d=> .d| .n _ _ _ b=>b
abbrev KX:=X→St→Option FRes
def poK (nr:Nat) (g:List G) (K:KX):KX:=fun x s=>match x with
 | .nm=>gsE nr g s fun s'=>K .nm s'
 | .ex id=>K (.ex id) s
 | .rt=>K .rt s
def thK (f:St→KX→Option FRes) (K:KX):KX:=fun x s=>match x with
 | .nm=>f s K
 | .ex id=>K (.ex id) s
 | .rt=>K .rt s
def blK (id:Nat) (K:KX):KX:=fun x s=>match x with
 | .nm=>K .nm s
 | .ex i=>if i=id then K .nm s else K (.ex i) s
 | .rt=>K .rt s
def lpE (body:St→KX→Option FRes):Nat→St→KX→Option FRes
 | 0,_,_=>none
 | j+1,s,K=>body s fun x s'=>match x with
  | .nm=>lpE body j s' K
  | .ex id=>K (.ex id) s'
  | .rt=>K .rt s'
def rgK (ops:Array Oper) (draw:Bool) (K:KX) (s:St) (tr:List Rec):Option FRes:=
 bif !draw||orderOk ops.toList tr then K .nm s else none
def evC (E:Env) (nr j:Nat):Code→H→St→KX→Option FRes
 | .skip,_,s,K=>K .nm s
 | .region _ ops draw,_,s,K=>
   evOps E (fun i=>(ops[i]?).bind (·.dst)) (ops.toList.zipIdx.map fun q=>(q.2,q.1)) s [] (rgK ops draw K)
 | .seq a b,h,s,K=>evC E nr j a h.l s (poK nr h.post (thK (evC E nr j b h.r) K))
 | .cond c a b,h,s,K=>match evA E s.tm c with
  | .p .bool x=>cond x (evC E nr j a h.l s K) (evC E nr j b h.r s K)
  | _=>none
 | .block id a,h,s,K=>evC E nr j a h.l s (poK nr h.post (blK id K))
 | .loop a,h,s,K=>gsE nr h.pre s fun s=>lpE (fun s K=>evC E nr j a h.l s (poK nr h.post K)) j s K
 | .exit id,h,s,K=>gsE nr h.pre s fun s=>K (.ex id) s
 | .ret,h,s,K=>gsE nr h.pre s fun s=>K .rt s
 | _,_,_,_=>none
def resE (E:Env) (s:St):List ResultVar→(AV→Option FRes)→Option FRes
 | [],K=>K .e0
 | .tmp t::r,K=>resE E s r fun vs=>K (.cn (s.tm t) vs)
 | .cell a t::r,K=>loadE E s.hp t (s.tm a) fun e=>resE E s r fun vs=>K (.cn e.v vs)
def retV:AV→AV
 | .cn v .e0=>v
 | vs=> .tup vs
def finE (r:Nat) (hp:Nat→Ob) (vs:AV) (K:FRes→Option FRes):Option FRes:=
 let ord:=keepOrd r hp vs
 let f:=fun h=>idxOf h ord 0
 if nodupB ord&&decide (ord.take r=List.range r)then K { ret:=retV (ren f (vers hp) vs),objs:=ord.map fun h=>renO f (vers hp) (hp h) } else none
def finK (E:Env) (fn:Func) (r:Nat) (K:FRes→Option FRes):KX:=fun x s=>match x with
 | .ex _=>none
 | .nm=>resE E s fn.results.toList fun vs=>finE r s.hp vs K
 | .rt=>resE E s fn.results.toList fun vs=>finE r s.hp vs K
def evF (E:Env) (j:Nat) (fn:Func) (h:H) (po:List G):Run:=fun args ins K=>
 let r:=(addNew [] (hs args)).length
 match fn.body with
 | some c=>bif Nat.ble r ins.length then evC E r j c h { tm:=args.nth,hp:=fun i=>ins.getD i .dead,n:=ins.length } (poK r po (finK E fn r K))else none
 | none=>none
def codeL:Code→Code
 | .seq a _=>a
 | .cond _ a _=>a
 | .block _ a=>a
 | .loop a=>a
 | c=>c
def codeR:Code→Code
 | .seq _ b=>b
 | .cond _ _ b=>b
 | c=>c
section
variable {E:Env} {nr j:Nat} {V W U Z Y:Type}
abbrev Fn4 (V W U Z:Type):=V→(W→Option FRes)→(U→Option FRes)→(Z→Option FRes)→Option FRes
def Sum (E:Env) (nr j:Nat) (c:Code) (h:H) (po:List G) (S:V→St) (N:W→St) (R:U→St) (Q:Z→Nat×St) (F:Fn4 V W U Z):Prop:=
 ∀(K:KX) (x:V),evC E nr j c h (S x) (poK nr po K)=F x (fun w=>K .nm (N w)) (fun u=>K .rt (R u)) (fun z=>K (.ex (Q z).1) (Q z).2)
def evS (E:Env) (nr j:Nat):List (Code×H×List G)→(St→KX→Option FRes)→St→KX→Option FRes
 | [],f,s,K=>f s K
 | (a,h,g)::r,f,s,K=>evC E nr j a h s (poK nr g (thK (evS E nr j r f) K))
theorem evS_end: ∀(l:List (Code×H×List G)) (f:St→KX→Option FRes) (s:St) (K:KX),evS E nr j l f s K=evS E nr j l (fun s _=>f s K) s K
 | [],_,_,_=>rfl
 | (a,ha,g)::r,f,s,K=>by
  show evC E nr j a ha s (poK nr g (thK (evS E nr j r f) K))=evC E nr j a ha s (poK nr g (thK (evS E nr j r fun s _=>f s K) K))
  have h:thK (evS E nr j r f) K=thK (evS E nr j r fun s _=>f s K) K:=by
   funext x s'
   cases x with
   | nm=>exact evS_end r f s' K
   | ex id=>rfl
   | rt=>rfl
  rw[h]
def qB {W Z:Type} (id:Nat) (N:W→St) (Q:Z→Nat×St):W ⊕ Z→Nat×St
 | .inl w=>(id,N w)
 | .inr z=>Q z
def q0:Empty→Nat×St:=fun z=>nomatch z
theorem q0_ne {id:Nat} (z:Empty):(q0 z).1≠id:=nomatch z
theorem qB_ne {W Z:Type} {id i:Nat} {N:W→St} {Q:Z→Nat×St} (h:i≠id) (hq: ∀z,(Q z).1≠id): ∀z,(qB i N Q z).1≠id
 | .inl _=>h
 | .inr z=>hq z
def zB {W Z:Type} {α:Type} (n:W→Option α) (z:Z→Option α):W ⊕ Z→Option α
 | .inl w=>n w
 | .inr q=>z q
def lpF {α V:Type} (F:V→(V→Option α)→Option α):Nat→V→Option α
 | 0,_=>none
 | j+1,x=>F x (lpF F j)
theorem lp_sum {a:Code} {ha:H} {g:List G} {S:V→St} {R:U→St} {Q:Z→Nat×St} {F:Fn4 V V U Z}
  (A:Sum E nr j a ha g S S R Q F) (K:KX): ∀(i:Nat) (x:V),lpE (fun s K=>evC E nr j a ha s (poK nr g K)) i (S x) K=
   lpF (fun x n=>F x n (fun u=>K .rt (R u)) (fun z=>K (.ex (Q z).1) (Q z).2)) i x
 | 0,_=>rfl
 | i+1,x=>by
  show evC E nr j a ha (S x) (poK nr g fun x s'=>match x with
   | .nm=>lpE (fun s K=>evC E nr j a ha s (poK nr g K)) i s' K
   | .ex id=>K (.ex id) s'
   | .rt=>K .rt s')=_
  rw[A]
  show F x (fun w=>lpE (fun s K=>evC E nr j a ha s (poK nr g K)) i (S w) K) _ _=_
  simp only[lp_sum A K i]
  rfl
theorem Sum.post {c:Code} {h:H} {po:List G} {S:V→St} {T:Y→St} {N:W→St} {R:U→St} {Q:Z→Nat×St} {F:Fn4 V Y U Z} {m:Y→W}
  (A:Sum E nr j c h [] S T R Q F) (hm: ∀(y:Y) (K:St→Option FRes),gsE nr po (T y) K=K (N (m y))):
  Sum E nr j c h po S N R Q (fun x n r z=>F x (fun y=>n (m y)) r z):=by
 intro K x
 have h1:poK nr po K=poK nr [] (poK nr po K):=by
  funext x s
  cases x<;>rfl
 rw[h1,A]
 show F x (fun y=>gsE nr po (T y) fun s'=>K .nm s') _ _=_
 simp only[hm]
 rfl
end
theorem evF_sum {E:Env} {j:Nat} {fn:Func} {c:Code} {h:H} {po:List G} {args:AV} {ins:List Ob} {nr:Nat} {V U:Type} {S:V→St} {R:U→St} {F:Fn4 V U U Empty}
  {out:U→Option FRes} {x:V} {K:FRes→Option FRes} (hb:fn.body=some c) (hr:(addNew [] (hs args)).length=nr) (hl:Nat.ble nr ins.length=true)
  (A:Sum E nr j c h po S R R q0 F) (hS:{ tm:=args.nth,hp:=fun i=>ins.getD i .dead,n:=ins.length }=S x)
  (hR: ∀u,(resE E (R u) fn.results.toList fun vs=>finE nr (R u).hp vs K)=out u):
  evF E j fn h po args ins K=F x out out (fun z=>nomatch z):=by
 unfold evF
 simp only[hb,hr,hl,cond_true]
 rw[hS,A]
 show F x (fun w=>resE E (R w) fn.results.toList fun vs=>finE nr (R w).hp vs K) (fun u=>resE E (R u) fn.results.toList fun vs=>finE nr (R u).hp vs K) _=_
 simp only[hR]
 congr 1
 funext z
 cases z
def bodyOf (f:Func):Code:=f.body.getD .skip
def castP (t:Ty):AV→Option t.den
 | .p u x=>cast u t x
 | _=>none
theorem castP_eq {t:Ty} {v:AV} {x:t.den} (h:castP t v=some x):v= .p t x:=by
 cases v<;>simp only[castP,reduceCtorEq]at h
 rename_i u y
 unfold cast at h
 split at h
 ·rename_i e
  subst e
  simp only[Option.some.injEq]at h
  rw[←h]
 ·cases h
def ofS:(e:Ty)→AV→Option (e.den×AV)
 | .pr a b,l=>match ofS a l with
  | some (x,r)=>match ofS b r with
   | some (y,r')=>some ((x,y),r')
   | none=>none
  | none=>none
 | .un,l=>some ((),l)
 | .int k, .cn v r=>(castP (.int k) v).map fun x=>(x,r)
 | .bool, .cn v r=>(castP .bool v).map fun x=>(x,r)
 | .str, .cn v r=>(castP .str v).map fun x=>(x,r)
 | .sl e, .cn v r=>(castP (.sl e) v).map fun x=>(x,r)
 | _,_=>none
theorem app_assoc: ∀(a b c:AV),(a.app b).app c=a.app (b.app c)
 | .cn x a,b,c=>by simp only[AV.app];rw[app_assoc a b c]
 | .any,_,_| .nil,_,_| .row _ _ _ _ _,_,_| .prw _ _ _ _ _,_,_| .pap _ _,_,_| .p _ _,_,_| .k _,_,_| .sl _ _ _,_,_| .ptr _ _ _,_,_| .agg _,_,_| .tup _,_,_| .clo _ _,_,_| .rp _ _,_,_| .rl _ _ _ _,_,_| .e0,_,_=>rfl
theorem ofS_eq: ∀(e:Ty) {l r:AV} {x:e.den},ofS e l=some (x,r)→l=(toC e x).app r
 | .pr a b,l,r,x,h=>by
  simp only[ofS]at h
  split at h
  ·rename_i y s h1
   split at h
   ·rename_i z s' h2
    cases h
    rw[ofS_eq a h1,ofS_eq b h2]
    exact(app_assoc _ _ _).symm
   ·cases h
  ·cases h
 | .un,l,r,x,h=>by
  cases h
  rfl
 | .int k,l,r,x,h=>by
  cases l<;>simp only[ofS,reduceCtorEq]at h
  rename_i v s
  rw[Option.map_eq_some_iff]at h
  obtain⟨y,hy,e⟩:=h
  cases e
  rw[castP_eq hy];rfl
 | .bool,l,r,x,h=>by
  cases l<;>simp only[ofS,reduceCtorEq]at h
  rename_i v s
  rw[Option.map_eq_some_iff]at h
  obtain⟨y,hy,e⟩:=h
  cases e
  rw[castP_eq hy];rfl
 | .str,l,r,x,h=>by
  cases l<;>simp only[ofS,reduceCtorEq]at h
  rename_i v s
  rw[Option.map_eq_some_iff]at h
  obtain⟨y,hy,e⟩:=h
  cases e
  rw[castP_eq hy];rfl
 | .sl e,l,r,x,h=>by
  cases l<;>simp only[ofS,reduceCtorEq]at h
  rename_i v s
  rw[Option.map_eq_some_iff]at h
  obtain⟨y,hy,e⟩:=h
  cases e
  rw[castP_eq hy];rfl
structure Dec1 (α:Type) where
 nr:Nat
 nn:Nat
 av:Nat→Nat→α→AV
 rs:Nat→Nat→α→List Ob
 ns:Nat→Nat→α→List Ob
 dec:Nat→Nat→AV→List Ob→Option α
def dP (t:Ty):Dec1 t.den:={ nr:=0,nn:=0,av:=fun _ _ x=> .p t x,rs:=fun _ _ _=>[],ns:=fun _ _ _=>[],dec:=fun _ _ v _=>castP t v }
def dS (e:Ty):Dec1 e.den:={ nr:=0,nn:=0,av:=fun _ _ x=> .agg (toC e x),rs:=fun _ _ _=>[],ns:=fun _ _ _=>[],dec:=fun _ _ v _=>match v with
 | .agg c=>match ofS e c with
  | some (x, .e0)=>some x
  | _=>none
 | _=>none }
def dR (e:Ty):Dec1 e.den:={ nr:=0,nn:=0,av:=fun _ _ x=> .rp (toC e x) 0,rs:=fun _ _ _=>[],ns:=fun _ _ _=>[],dec:=fun _ _ v _=>match v with
 | .rp c 0=>match ofS e c with
  | some (x, .e0)=>some x
  | _=>none
 | _=>none }
def dO (e:Ty):Dec1 (List e.den):={ nr:=1,nn:=0,av:=fun i _ _=> .sl i none none,rs:=fun _ _ x=>[.L e x],ns:=fun _ _ _=>[],dec:=fun i _ v o=>match v with
 | .sl h none none=>if h=i then match o[i]? with
  | some (.L e' x)=>cast (.sl e') (.sl e) x
  | _=>none
  else none
 | _=>none }
def maskC:List Bool→Nat→AV→AV
 | true::m,j, .cn _ r=> .cn (.sl j none none) (maskC m (j+1) r)
 | false::m,j, .cn v r=> .cn v (maskC m j r)
 | _,_,l=>l
def maskO:List Bool→AV→List Ob
 | true::m, .cn (.p (.sl e) x) r=> .L e x::maskO m r
 | true::m, .cn _ r=> .dead::maskO m r
 | false::m, .cn _ r=>maskO m r
 | _,_=>[]
def unmask:List Bool→Nat→AV→List Ob→AV
 | true::m,j, .cn (.sl h none none) r,o=>match(if h=j then o[j]? else none)with
  | some (.L e x)=> .cn (.p (.sl e) x) (unmask m (j+1) r o)
  | _=> .any
 | false::m,j, .cn v r,o=> .cn v (unmask m j r o)
 | [],_,l,_=>l
 | _,_,_,_=> .any
def dB (e:Ty) (m:List Bool):Dec1 e.den:={ nr:=1,nn:=(m.filter id).length,av:=fun i _ _=> .ptr i 0 0,rs:=fun _ j x=>[.B (maskC m j (toC e x))],ns:=fun _ _ x=>maskO m (toC e x),dec:=fun i j v o=>match v with
 | .ptr h 0 0=>if h=i then match o[i]? with
  | some (.B c)=>match ofS e (unmask m j c o)with
   | some (x, .e0)=>some x
   | _=>none
  | _=>none
  else none
 | _=>none }
def dNR (e:Ty):Dec1 (List (List e.den)):={ nr:=1,nn:=0,av:=fun i _ _=> .sl i none none,rs:=fun _ _ x=>[.N e none x 0 none],ns:=fun _ _ _=>[],dec:=fun i _ v o=>match v with
 | .sl h none none=>if h=i then match o[i]? with
  | some (.N e' none x 0 none)=>cast (.sl (.sl e')) (.sl (.sl e)) x
  | _=>none
  else none
 | _=>none }
structure Dec (α:Type) where
 nr:Nat
 nn:Nat
 av:Nat→Nat→α→AV
 rs:Nat→Nat→α→List Ob
 ns:Nat→Nat→α→List Ob
 dc:Nat→Nat→AV→List Ob→Option α
def dN:Dec Unit:={ nr:=0,nn:=0,av:=fun _ _ _=> .e0,rs:=fun _ _ _=>[],ns:=fun _ _ _=>[],dc:=fun _ _ v _=>match v with
 | .e0=>some ()
 | _=>none }
def d1 {α:Type} (d:Dec1 α):Dec α:={ nr:=d.nr,nn:=d.nn,av:=fun i j x=> .cn (d.av i j x) .e0,rs:=d.rs,ns:=d.ns,dc:=fun i j v o=>match v with
 | .cn a .e0=>d.dec i j a o
 | _=>none }
def dA {α β:Type} (d:Dec1 α) (r:Dec β):Dec (α×β):={ nr:=d.nr+r.nr,nn:=d.nn+r.nn,av:=fun i j x=> .cn (d.av i j x.1) (r.av (i+d.nr) (j+d.nn) x.2),rs:=fun i j x=>d.rs i j x.1++r.rs (i+d.nr) (j+d.nn) x.2,ns:=fun i j x=>d.ns i j x.1++r.ns (i+d.nr) (j+d.nn) x.2,dc:=fun i j v o=>match v with
 | .cn a b=>match d.dec i j a o with
  | some x=>match r.dc (i+d.nr) (j+d.nn) b o with
   | some y=>some (x,y)
   | none=>none
  | none=>none
 | _=>none }
def dC {α:Type} (f:Nat) (d:Dec α):Dec1 α:={ nr:=d.nr,nn:=d.nn,av:=fun i j x=> .clo f (d.av i j x),rs:=d.rs,ns:=d.ns,dec:=fun i j v o=>match v with
 | .clo g c=>if g=f then d.dc i j c o else none
 | _=>none }
def Dec.args {α:Type} (d:Dec α) (x:α):AV:=d.av 0 d.nr x
def Dec.ins {α:Type} (d:Dec α) (x:α):List Ob:=d.rs 0 d.nr x++d.ns 0 d.nr x
def Dec.dec {α:Type} (d:Dec α) (a:AV) (o:List Ob):Option α:=if o.length=d.nr+d.nn then d.dc 0 d.nr a o else none
abbrev tI:Ty:= .int .i64
abbrev tY:Ty:= .int .u8
abbrev tU:Ty:= .int .u64
abbrev tU32:Ty:= .int .u32
abbrev pI (x:Int):AV:= .p (.int .i64) x
abbrev pY (x:Int):AV:= .p (.int .u8) x
abbrev pU (x:Int):AV:= .p (.int .u64) x
abbrev pB (x:Bool):AV:= .p .bool x
abbrev w64 (x:Int):Int:=IntKind.wrap .i64 x
abbrev w8 (x:Int):Int:=IntKind.wrap .u8 x
abbrev wu64 (x:Int):Int:=IntKind.wrap .u64 x
def lkS:List (Nat×List Nat×Spec)→Nat→List Nat→Option Spec
 | [],_,_=>none
 | (f,s,sp)::r,g,t=>if g=f then(if t=s then some sp else lkS r g t)else lkS r g t
inductive TT where
 | lf
 | nd (i:Nat) (v:TI) (l r:TT)
def TT.get:TT→Nat→TI
 | .lf,_=>{ u:= .ot,size:=1152921504606846976,bytes:=0,z:= .e0,ec:= .un,ab:=none,cq:=false }
 | .nd i v l r,j=>bif Nat.beq i j then v else bif Nat.ble i j then r.get j else l.get j
def cloneF (by_ _k:Nat) {α β:Type} (xs:List β) (K:List β→Option α):Option α:=if xs.length*by_≤room then K xs else none
def cloneS (e:Ty) (by_ _k:Nat):Spec:={ own:=[false],run:=fun args ins K=>(Dec.dec (d1 (dP (.sl e))) args ins).bind fun x=>cloneF by_ _k x fun y=>K { ret:= .sl 0 none none,objs:=[.L e y] } }
def insertF (by_ _k:Nat) {α β:Type} (xs:List β) (i:Int) (vs:List β) (K:List β→Option α):Option α:=
 if 0≤i∧i≤(xs.length:Int)∧(xs.length+vs.length)*by_≤room then K (xs.take i.toNat++vs++xs.drop i.toNat)else none
def insertS (e:Ty) (by_ k:Nat):Spec:={ own:=[true,false,false],run:=fun args ins K=>(Dec.dec (dA (dO e) (dA (dP tI) (d1 (dP (.sl e))))) args ins).bind fun x=>insertF by_ k x.1 x.2.1 x.2.2 fun y=>K { ret:= .sl 1 none none,objs:=[.dead, .L e y] } }
def deleteF (_k:Nat) {α β:Type} (xs:List β) (i j:Int) (K:List β→Option α):Option α:=
 if 0≤i∧i≤j∧j≤(xs.length:Int)then K (xs.take i.toNat++xs.drop j.toNat)else none
def deleteS (e:Ty) (k:Nat):Spec:={ own:=[true,false,false],run:=fun args ins K=>(Dec.dec (dA (dO e) (dA (dP tI) (d1 (dP tI)))) args ins).bind fun x=>deleteF k x.1 x.2.1 x.2.2 fun y=>K { ret:= .sl 1 none none,objs:=[.dead, .L e y] } }
abbrev F8:=BitVec 8
def gdbl (a:F8):F8:=bif a.getLsbD 7 then(a<<<1)^^^29#8 else a<<<1
def gmulA:Nat→F8→F8→F8→F8
 | 0,p,_,_=>p
 | n+1,p,a,b=>gmulA n (bif b.getLsbD 0 then p^^^a else p) (gdbl a) (b>>>1)
def gmul (a b:F8):F8:=gmulA 8 0 a b
def toG (x:Int):F8:=BitVec.ofInt 8 x
def ofG (a:F8):Int:=(a.toNat:Int)
def evalP (p:List Int) (x:Int):Int:=p.foldr (fun c v=>ofG (gmul (toG v) (toG x)^^^toG c)) 0
def evalF (_k:Nat) {α:Type} (p:List Int) (x:Int) (K:Int→Option α):Option α:=
 if(∀c∈p,0≤c∧c<256)∧p.length≤room∧0≤x∧x<256 then K (evalP p x)else none
def evalS (k:Nat):Spec:={ own:=[false,false],run:=fun args ins K=>(Dec.dec (dA (dP (.sl tY)) (d1 (dP tY))) args ins).bind fun x=>evalF k x.1 x.2 fun y=>K { ret:= .p tY y,objs:=[] } }
def namesT:List Bool:=[false,false,false,false,false,false,true,true,true,true,true,true,true,true,true,true,true,false,true,true,true,true,false,true,
 true,true,true,true,false,false,true,true,true,false,false,false,true,true,false,false,false,false]
theorem lp_rule {V α:Type} {F:V→(V→Option α)→Option α} {r:Option α} (I:Nat→V→Prop)
  (h: ∀m x n,I m x→(∀m' y,m'<m→I m' y→n y=r)→F x n=r): ∀{j m x},I m x→m<j→lpF F j x=r
 | 0,_,_,_,hj=>absurd hj (Nat.not_lt_zero _)
 | j+1,m,x,hi,hj=>h m x (lpF F j) hi fun m' y hm hy=>lp_rule I h hy (by omega)
theorem w64_id {x:Int} (h1: -9223372036854775808≤x) (h2:x<9223372036854775808):w64 x=x:=by
 simp only[w64,IntKind.wrap,IntKind.bits,IntKind.signed]
 simp
 split<;>omega
theorem wu64_id {x:Int} (h1:0≤x) (h2:x<18446744073709551616):wu64 x=x:=by
 simp only[wu64,IntKind.wrap,IntKind.bits,IntKind.signed]
 simp
 omega
theorem w8_id {x:Int} (h1:0≤x) (h2:x<256):w8 x=x:=by
 simp only[w8,IntKind.wrap,IntKind.bits,IntKind.signed]
 simp
 omega
theorem ofG_lt (a:F8):ofG a<256:=by
 have:=a.isLt
 unfold ofG
 omega
theorem ofG_nn (a:F8):0≤ofG a:=by
 unfold ofG
 omega
theorem toG_ofG (a:F8):toG (ofG a)=a:=by
 unfold toG ofG
 simp
theorem ofG_toG {x:Int} (h1:0≤x) (h2:x<256):ofG (toG x)=x:=by
 unfold toG ofG
 simp[BitVec.toNat_ofInt]
 omega
theorem ofG_inj {a b:F8} (h:ofG a=ofG b):a=b:=by
 rw[←toG_ofG a,h,toG_ofG]
theorem ofG_xor (a b:F8):bitI .xor .u8 (ofG a) (ofG b)=ofG (a^^^b):=by
 have h: ∀a:F8,BitVec.ofInt 8 (ofG a)=a:=toG_ofG
 show w8 ((BitVec.ofInt 8 (ofG a)^^^BitVec.ofInt 8 (ofG b)).toNat:Int)=_
 rw[h,h]
 exact w8_id (ofG_nn (a^^^b)) (ofG_lt (a^^^b))
theorem ofG_eq_zero {a:F8}:ofG a=0↔a=0:=⟨fun h=>ofG_inj h,fun h=>by rw[h];rfl⟩
def bs (l:List F8):List Int:=l.map ofG
theorem bs_len (l:List F8):(bs l).length=l.length:=List.length_map _
theorem bs_getD (l:List F8) (i:Nat):(bs l).getD i 0=ofG (l.getD i 0):=by
 unfold bs
 rw[List.getD_eq_getElem?_getD,List.getD_eq_getElem?_getD,List.getElem?_map]
 cases l[i]?<;>rfl
theorem bs_set (l:List F8) (i:Nat) (a:F8):(bs l).set i (ofG a)=bs (l.set i a):=by
 unfold bs
 rw[List.map_set]
theorem bs_append (l m:List F8):bs l++bs m=bs (l++m):=by
 unfold bs
 rw[List.map_append]
theorem bs_take (l:List F8) (n:Nat):(bs l).take n=bs (l.take n):=by
 unfold bs
 rw[List.map_take]
theorem bs_drop (l:List F8) (n:Nat):(bs l).drop n=bs (l.drop n):=by
 unfold bs
 rw[List.map_drop]
theorem bs_rep (n:Nat):List.replicate n (0:Int)=bs (List.replicate n 0):=by
 unfold bs
 rw[List.map_replicate]
 rfl
theorem exists_bs: ∀{l:List Int},(∀x∈l,0≤x∧x<256)→ ∃m:List F8,l=bs m
 | [],_=>⟨[],rfl⟩
 | x::l,h=>by
  obtain⟨m,hm⟩:=exists_bs (l:=l) fun y hy=>h y (by simp[hy])
  have:=h x (by simp)
  exact⟨toG x::m,by rw[hm];simp[bs,ofG_toG this.1 this.2]⟩
theorem xx (a:F8):a^^^a=0:=BitVec.xor_self
theorem x0 (a:F8):a^^^0=a:=BitVec.xor_zero
theorem zx (a:F8):0^^^a=a:=BitVec.zero_xor
theorem F8_ind {P:F8→Prop} (h0:P 0) (hb: ∀i:Fin 8,P (1#8<<<i.val)) (hx: ∀a b,P a→P b→P (a^^^b)) (a:F8):P a:=by
 have h: ∀a:F8,a=(bif a.getLsbD 0 then 1#8<<<0 else 0)^^^(bif a.getLsbD 1 then 1#8<<<1 else 0)^^^(bif a.getLsbD 2 then 1#8<<<2 else 0)^^^(bif a.getLsbD 3 then 1#8<<<3 else 0)
   ^^^(bif a.getLsbD 4 then 1#8<<<4 else 0)^^^(bif a.getLsbD 5 then 1#8<<<5 else 0)^^^(bif a.getLsbD 6 then 1#8<<<6 else 0)^^^(bif a.getLsbD 7 then 1#8<<<7 else 0):=by decide+kernel
 have hc: ∀(c:Bool) (i:Fin 8),P (bif c then 1#8<<<i.val else 0):=fun c i=>by cases c;exact h0;exact hb i
 rw[h a]
 exact hx _ _ (hx _ _ (hx _ _ (hx _ _ (hx _ _ (hx _ _ (hx _ _ (hc _ 0) (hc _ 1)) (hc _ 2)) (hc _ 3)) (hc _ 4)) (hc _ 5)) (hc _ 6)) (hc _ 7)
theorem xor_mid (a b c d:F8):(a^^^b)^^^(c^^^d)=(a^^^c)^^^(b^^^d):=by
 rw[BitVec.xor_assoc,BitVec.xor_assoc, ←BitVec.xor_assoc b c d,BitVec.xor_comm b c,BitVec.xor_assoc c b d]
theorem gdbl_xor (a b:F8):gdbl (a^^^b)=gdbl a^^^gdbl b:=by
 unfold gdbl
 rw[BitVec.getLsbD_xor,BitVec.shiftLeft_xor_distrib]
 cases a.getLsbD 7<;>cases b.getLsbD 7
 ·rfl
 ·exact(BitVec.xor_assoc _ _ _)
 ·show a<<<1^^^b<<<1^^^29#8=a<<<1^^^29#8^^^b<<<1
  rw[BitVec.xor_assoc,BitVec.xor_assoc,BitVec.xor_comm (b<<<1)]
 ·show a<<<1^^^b<<<1=(a<<<1^^^29#8)^^^(b<<<1^^^29#8)
  rw[xor_mid,BitVec.xor_self,BitVec.xor_zero]
theorem gmulA_xorB: ∀(n:Nat) (p q a b c:F8),gmulA n (p^^^q) a (b^^^c)=gmulA n p a b^^^gmulA n q a c
 | 0,_,_,_,_,_=>rfl
 | n+1,p,q,a,b,c=>by
  simp only[gmulA]
  rw[BitVec.ushiftRight_xor_distrib, ←gmulA_xorB n,BitVec.getLsbD_xor]
  congr 1
  cases b.getLsbD 0<;>cases c.getLsbD 0
  ·rfl
  ·exact BitVec.xor_assoc _ _ _
  ·show p^^^q^^^a=p^^^a^^^q
   rw[BitVec.xor_assoc,BitVec.xor_assoc,BitVec.xor_comm q]
  ·show p^^^q=(p^^^a)^^^(q^^^a)
   rw[xor_mid,BitVec.xor_self,BitVec.xor_zero]
theorem gmulA_xorA: ∀(n:Nat) (p q a b c:F8),gmulA n (p^^^q) (a^^^b) c=gmulA n p a c^^^gmulA n q b c
 | 0,_,_,_,_,_=>rfl
 | n+1,p,q,a,b,c=>by
  simp only[gmulA]
  rw[gdbl_xor, ←gmulA_xorA n]
  congr 1
  cases c.getLsbD 0
  ·rfl
  ·exact xor_mid _ _ _ _
theorem gmul_add (a b c:F8):gmul a (b^^^c)=gmul a b^^^gmul a c:=by
 unfold gmul
 rw[←gmulA_xorB]
 rfl
theorem add_gmul (a b c:F8):gmul (a^^^b) c=gmul a c^^^gmul b c:=by
 unfold gmul
 rw[←gmulA_xorA]
 rfl
theorem gmul_zero (a:F8):gmul a 0=0:=by
 have:=gmul_add a 0 0
 rw[xx]at this
 rw[this,xx]
theorem zero_gmul (a:F8):gmul 0 a=0:=by
 have:=add_gmul 0 0 a
 rw[xx]at this
 rw[this,xx]
theorem gmul_comm (a b:F8):gmul a b=gmul b a:=by
 refine F8_ind (P:=fun a=>gmul a b=gmul b a) (by rw[zero_gmul,gmul_zero]) (fun i=>?_) (fun x y hx hy=>by rw[add_gmul,gmul_add,hx,hy]) a
 refine F8_ind (P:=fun b=>gmul (1#8<<<i.val) b=gmul b (1#8<<<i.val)) (by rw[zero_gmul,gmul_zero]) (fun j=>?_) (fun x y hx hy=>by rw[add_gmul,gmul_add,hx,hy]) b
 revert i j
 decide+kernel
theorem gmul_assoc (a b c:F8):gmul (gmul a b) c=gmul a (gmul b c):=by
 refine F8_ind (P:=fun a=>gmul (gmul a b) c=gmul a (gmul b c)) (by simp only[zero_gmul]) (fun i=>?_) (fun x y hx hy=>by simp only[add_gmul,hx,hy]) a
 refine F8_ind (P:=fun b=>gmul (gmul (1#8<<<i.val) b) c=gmul (1#8<<<i.val) (gmul b c)) (by simp only[zero_gmul,gmul_zero]) (fun j=>?_) (fun x y hx hy=>by simp only[add_gmul,gmul_add,hx,hy]) b
 refine F8_ind (P:=fun c=>gmul (gmul (1#8<<<i.val) (1#8<<<j.val)) c=gmul (1#8<<<i.val) (gmul (1#8<<<j.val) c)) (by simp only[gmul_zero]) (fun l=>?_) (fun x y hx hy=>by simp only[gmul_add,hx,hy]) c
 revert i j l
 decide+kernel
theorem one_gmul (a:F8):gmul 1 a=a:=by
 revert a
 decide+kernel
theorem gmul_one (a:F8):gmul a 1=a:=by rw[gmul_comm,one_gmul]
def gpow (a:F8):Nat→F8
 | 0=>1
 | n+1=>gmul (gpow a n) a
theorem gpow_add (a:F8) (m:Nat): ∀n,gpow a (m+n)=gmul (gpow a m) (gpow a n)
 | 0=>(gmul_one _).symm
 | n+1=>by
  show gmul (gpow a (m+n)) a=gmul (gpow a m) (gmul (gpow a n) a)
  rw[gpow_add a m n,gmul_assoc]
theorem gpow_one (a:F8):gpow a 1=a:=one_gmul a
theorem gpow_mul (a:F8) (m:Nat): ∀n,gpow a (m*n)=gpow (gpow a m) n
 | 0=>rfl
 | n+1=>by
  rw[Nat.mul_succ,gpow_add,gpow_mul a m n]
  rfl
theorem gpow_sq (a:F8) (n:Nat):gpow (gmul a a) n=gpow a (2*n):=by
 rw[gpow_mul]
 congr 1
 show gmul a a=gmul (gmul 1 a) a
 rw[one_gmul]
theorem one_gpow: ∀n,gpow 1 n=1
 | 0=>rfl
 | n+1=>by
  show gmul (gpow 1 n) 1=1
  rw[one_gpow n]
  rfl
def ginv (a:F8):F8:=gpow a 254
theorem gpow_255 {a:F8} (h:a≠0):gpow a 255=1:=by
 have e: ∀a:F8,gpow a 255=gmul (gpow (gmul a a) 127) a:=fun a=>by rw[gpow_sq];rfl
 have e1: ∀a:F8,gpow a 127=gmul (gpow (gmul a a) 63) a:=fun a=>by rw[gpow_sq];rfl
 have e2: ∀a:F8,gpow a 63=gmul (gpow (gmul a a) 31) a:=fun a=>by rw[gpow_sq];rfl
 have e3: ∀a:F8,gpow a 31=gmul (gpow (gmul a a) 15) a:=fun a=>by rw[gpow_sq];rfl
 rw[e,e1,e2,e3]
 revert a
 decide+kernel
theorem ginv_gmul {a:F8} (h:a≠0):gmul (ginv a) a=1:=gpow_255 h
theorem gmul_ginv {a:F8} (h:a≠0):gmul a (ginv a)=1:=by rw[gmul_comm,ginv_gmul h]
theorem gmul_eq_zero {a b:F8} (h:gmul a b=0):a=0∨b=0:=by
 by_cases ha:a=0
 ·exact .inl ha
 ·right
  rw[←one_gmul b, ←ginv_gmul ha,gmul_assoc,h,gmul_zero]
theorem ginv_ne {a:F8} (h:a≠0):ginv a≠0:=fun e=>by
 have:=ginv_gmul h
 rw[e,zero_gmul]at this
 revert this
 decide
theorem gmul_ne {a b:F8} (ha:a≠0) (hb:b≠0):gmul a b≠0:=fun h=>(gmul_eq_zero h).elim ha hb
theorem gpow_ne {a:F8} (h:a≠0): ∀n,gpow a n≠0
 | 0=>show(1:F8)≠0 by decide
 | n+1=>gmul_ne (gpow_ne h n) h
theorem gpow_mod {a:F8} (h:a≠0) (n:Nat):gpow a (n%255)=gpow a n:=by
 have h1:=Nat.div_add_mod n 255
 have h2:gpow a n=gpow a (255*(n/255)+n%255):=by rw[h1]
 rw[h2,gpow_add,gpow_mul,gpow_255 h,one_gpow,one_gmul]
theorem two_ne:(2:F8)≠0:=by decide
theorem pow2_inj {i j:Nat} (hi:i<64) (hj:j<64) (h:gpow 2 i=gpow 2 j):i=j:=by
 have: ∀i j:Fin 64,gpow 2 i.val=gpow 2 j.val→i=j:=by decide+kernel
 exact congrArg Fin.val (this ⟨i,hi⟩ ⟨j,hj⟩ h)
theorem xor_eq_zero {a b:F8}:a^^^b=0↔a=b:=by
 constructor
 ·intro h
  have:(a^^^b)^^^b=0^^^b:=by rw[h]
  rwa[BitVec.xor_assoc,xx,x0,zx]at this
 ·rintro rfl
  exact BitVec.xor_self
end Go.Proofs.YtkeiedikiiccpaaGreatDoor.Am
