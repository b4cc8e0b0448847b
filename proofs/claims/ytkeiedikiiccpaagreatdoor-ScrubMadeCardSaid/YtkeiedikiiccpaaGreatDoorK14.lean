/- A part of the proof of ScrubMade: lemmas. No conditions beyond those of each lemma. -/
import Derived.Test.YtkeiedikiiccpaaGreatDoorK13
set_option linter.all false
namespace Go.Proofs.YtkeiedikiiccpaaGreatDoor.Am
open Go
def pev (c:List F8) (x:F8):F8:=c.foldr (fun c v=>gmul v x^^^c) 0
def quo (a:F8):List F8→List F8
 | []=>[]
 | [_]=>[]
 | _::c::r=>pev (c::r) a::quo a (c::r)
theorem xor_swap (a b c:F8):(a^^^c)^^^(b^^^c)=a^^^b:=by rw[xor_mid,xx,x0]
theorem quo_spec (a x:F8): ∀c,pev c x^^^pev c a=gmul (x^^^a) (pev (quo a c) x)
 | []=>by
  show(0:F8)^^^0=gmul (x^^^a) 0
  rw[gmul_zero,xx]
 | [c]=>by
  show(gmul 0 x^^^c)^^^(gmul 0 a^^^c)=gmul (x^^^a) 0
  rw[xor_swap,zero_gmul,zero_gmul,gmul_zero,xx]
 | c0::c1::r=>by
  have ih:=quo_spec a x (c1::r)
  show(gmul (pev (c1::r) x) x^^^c0)^^^(gmul (pev (c1::r) a) a^^^c0)=gmul (x^^^a) (gmul (pev (quo a (c1::r)) x) x^^^pev (c1::r) a)
  rw[xor_swap,gmul_add, ←gmul_assoc, ←ih,add_gmul,add_gmul,gmul_comm x (pev _ a),gmul_comm a (pev _ a),BitVec.xor_assoc, ←BitVec.xor_assoc (gmul (pev (c1::r) a) x),xx,zx]
theorem quo_len (a:F8): ∀c,(quo a c).length=c.length-1
 | []=>rfl
 | [_]=>rfl
 | _::c::r=>by
  show(quo a (c::r)).length+1=_
  rw[quo_len a (c::r)]
  simp
theorem quo_last (a:F8): ∀(c:List F8) (c0 c1:F8),(quo a (c0::c1::c)).getLast?=(c1::c).getLast?
 | [],c0,c1=>by
  show some (gmul 0 a^^^c1)=some c1
  rw[zero_gmul,zx]
 | c2::r,c0,c1=>by
  have ih:=quo_last a r c1 c2
  show(pev (c1::c2::r) a::quo a (c1::c2::r)).getLast?=_
  have hne:quo a (c1::c2::r)≠[]:=fun e=>by cases e
  rw[List.getLast?_cons_cons, ←ih]
  cases hq:quo a (c1::c2::r)with
  | nil=>exact absurd hq hne
  | cons y ys=>rfl
theorem roots_le: ∀(L:Nat) (c xs:List F8),c.length=L+1→c.getLast?=some 1→xs.Nodup→(∀x∈xs,pev c x=0)→xs.length≤L
 | _,_,[],_,_,_,_=>Nat.zero_le _
 | 0,c,a::xs,hl,h1,_,hr=>by
  match c,hl with
  | [c0],_=>
   have h1:some c0=some (1:F8):=h1
   have:=hr a (by simp)
   have:gmul 0 a^^^c0=0:=this
   rw[zero_gmul,zx,Option.some.inj h1]at this
   exact absurd this (by decide)
 | L+1,c,a::xs,hl,h1,hn,hr=>by
  match c,hl with
  | c0::c1::r,hl=>
   rw[List.nodup_cons]at hn
   have h2:=roots_le L (quo a (c0::c1::r)) xs (by rw[quo_len,hl];omega) (by rw[quo_last];exact h1) hn.2 fun x hx=>by
    have h3:=quo_spec a x (c0::c1::r)
    rw[hr x (by simp[hx]),hr a (by simp),xx]at h3
    refine(gmul_eq_zero h3.symm).resolve_left fun e=>?_
    rw[xor_eq_zero.1 e]at hx
    exact hn.1 hx
   simp only[List.length_cons]
   omega
theorem pev_gsum (x:F8): ∀c:List F8,pev c x=gsum c.length fun k=>gmul (c.getD k 0) (gpow x k)
 | []=>rfl
 | c::r=>by
  have ih:=pev_gsum x r
  show gmul (pev r x) x^^^c=gsum (r.length+1) _
  rw[gsum_front,ih,gmul_comm, ←gsum_mul,BitVec.xor_comm]
  congr 1
  ·exact(gmul_one c).symm
  ·refine gsum_congr fun k _=>?_
   show gmul x (gmul (r.getD k 0) (gpow x k))=gmul (r.getD k 0) (gmul (gpow x k) x)
   rw[gmul_comm,gmul_assoc]
section
variable {β:Type}
def lsum (l:List β) (f:β→F8):F8:=l.foldr (fun x a=>f x^^^a) 0
theorem lsum_congr {f g:β→F8}: ∀{l:List β},(∀x∈l,f x=g x)→lsum l f=lsum l g
 | [],_=>rfl
 | x::l,h=>by
  show f x^^^lsum l f=g x^^^lsum l g
  rw[h x (by simp),lsum_congr fun y hy=>h y (by simp[hy])]
theorem lsum_add (f g:β→F8): ∀l:List β,lsum l (fun x=>f x^^^g x)=lsum l f^^^lsum l g
 | []=>(x0 _).symm
 | x::l=>by
  show(f x^^^g x)^^^lsum l (fun x=>f x^^^g x)=(f x^^^lsum l f)^^^(g x^^^lsum l g)
  rw[lsum_add f g l,xor_mid]
theorem lsum_mul (c:F8) (f:β→F8): ∀l:List β,lsum l (fun x=>gmul c (f x))=gmul c (lsum l f)
 | []=>(gmul_zero c).symm
 | x::l=>by
  show gmul c (f x)^^^lsum l (fun x=>gmul c (f x))=gmul c (f x^^^lsum l f)
  rw[lsum_mul c f l,gmul_add]
theorem lsum_perm {f:β→F8} {l m:List β} (h:l.Perm m):lsum l f=lsum m f:=by
 induction h with
 | nil=>rfl
 | cons x _ ih=>exact congrArg (f x^^^ ·) ih
 | swap x y l=>
  show f y^^^(f x^^^lsum l f)=f x^^^(f y^^^lsum l f)
  rw[←BitVec.xor_assoc,BitVec.xor_comm (f y),BitVec.xor_assoc]
 | trans _ _ h1 h2=>exact h1.trans h2
theorem lsum_zero {f:β→F8}: ∀{l:List β},(∀x∈l,f x=0)→lsum l f=0
 | [],_=>rfl
 | x::l,h=>by
  show f x^^^lsum l f=0
  rw[h x (by simp),zx,lsum_zero fun y hy=>h y (by simp[hy])]
theorem lsum_gsum (f:β→F8) (d:β): ∀l:List β,lsum l f=gsum l.length fun i=>f (l.getD i d)
 | []=>rfl
 | x::l=>by
  show f x^^^lsum l f=gsum (l.length+1) _
  rw[gsum_front,lsum_gsum f d l]
  rfl
end
theorem vand: ∀(xs:List F8) (y:F8→F8),xs.Nodup→(∀k,k<xs.length→lsum xs (fun x=>gmul (y x) (gpow x k))=0)→ ∀x∈xs,y x=0
 | [],_,_,_,x,hx=>by cases hx
 | a::xs,y,hn,h,x,hx=>by
  rw[List.nodup_cons]at hn
  have h1:=vand xs (fun x=>gmul (x^^^a) (y x)) hn.2 fun k hk=>by
   have e:lsum (a::xs) (fun x=>gmul (gmul (x^^^a) (y x)) (gpow x k))=0:=by
    rw[lsum_congr (g:=fun x=>gmul (y x) (gpow x (k+1))^^^gmul a (gmul (y x) (gpow x k))) fun x _=>by
     rw[gmul_assoc,add_gmul,gmul_comm x,gmul_assoc]
     rfl]
    rw[lsum_add,lsum_mul,h (k+1) (by simp;omega),h k (by simp;omega),gmul_zero,x0]
   have e2:gmul (gmul (a^^^a) (y a)) (gpow a k)^^^lsum xs (fun x=>gmul (gmul (x^^^a) (y x)) (gpow x k))=0:=e
   rwa[xx,zero_gmul,zero_gmul,zx]at e2
  have h2: ∀z∈xs,y z=0:=fun z hz=>(gmul_eq_zero (h1 z hz)).resolve_left fun e=>by
   rw[xor_eq_zero.1 e]at hz
   exact hn.1 hz
  rcases List.mem_cons.1 hx with rfl|hx
  ·have h3:=h 0 (by simp)
   have h3:gmul (y x) 1^^^lsum xs (fun x=>gmul (y x) (gpow x 0))=0:=h3
   rwa[lsum_zero fun z hz=>by rw[h2 z hz,zero_gmul],x0,gmul_one]at h3
  ·exact h2 x hx
def mt (rows:List (List F8)) (i j:Nat):F8:=(rows.getD i []).getD j 0
def RS (M:Nat→Nat→F8) (R w:Nat) (y:Nat→F8):Prop:= ∀i,i<R→gsum w (fun k=>gmul (M i k) (y k))=M i w
def swM (M:Nat→Nat→F8) (a b:Nat) (i:Nat):Nat→F8:=if i=a then M b else if i=b then M a else M i
def scM (M:Nat→Nat→F8) (c:Nat) (f:F8) (i j:Nat):F8:=if i=c then gmul (M c j) f else M i j
def elM (M:Nat→Nat→F8) (c:Nat) (i j:Nat):F8:=if i=c then M c j else M i j^^^gmul (M i c) (M c j)
def stM (M:Nat→Nat→F8) (c p:Nat):Nat→Nat→F8:=elM (scM (swM M c p) c (ginv (M p c))) c
theorem RS_sw {M:Nat→Nat→F8} {R w a b:Nat} {y:Nat→F8} (ha:a<R) (hb:b<R):RS (swM M a b) R w y↔RS M R w y:=by
 have h1: ∀{M:Nat→Nat→F8},RS M R w y→RS (swM M a b) R w y:=fun {M} h i hi=>by
  unfold swM
  split
  ·exact h b hb
  ·split
   ·exact h a ha
   ·exact h i hi
 refine⟨fun h=>?_,h1⟩
 have:=h1 h
 have e:swM (swM M a b) a b=M:=by
  funext i
  unfold swM
  by_cases h1:i=a
  ·subst h1
   rw[if_pos rfl]
   by_cases h2:b=i
   ·rw[if_pos h2,h2]
   ·rw[if_neg h2,if_pos rfl]
  ·rw[if_neg h1]
   by_cases h2:i=b
   ·subst h2
    rw[if_pos rfl,if_pos rfl]
   ·rw[if_neg h2,if_neg h1,if_neg h2]
 rwa[e]at this
theorem RS_sc {M:Nat→Nat→F8} {R w c:Nat} {f:F8} {y:Nat→F8} (hf:f≠0):RS (scM M c f) R w y↔RS M R w y:=by
 have e: ∀i,gsum w (fun k=>gmul (scM M c f i k) (y k))=if i=c then gmul f (gsum w fun k=>gmul (M c k) (y k))else gsum w (fun k=>gmul (M i k) (y k)):=fun i=>by
  unfold scM
  split
  ·rw[←gsum_mul]
   exact gsum_congr fun k _=>by rw[gmul_comm (M c k) f,gmul_assoc]
  ·rfl
 constructor
 ·intro h i hi
  have:=h i hi
  rw[e]at this
  unfold scM at this
  by_cases hc:i=c
  ·subst hc
   rw[if_pos rfl,if_pos rfl,gmul_comm (M i w)]at this
   have h2:=congrArg (gmul (ginv f)) this
   rwa[←gmul_assoc, ←gmul_assoc,ginv_gmul hf,one_gmul,one_gmul]at h2
  ·rwa[if_neg hc,if_neg hc]at this
 ·intro h i hi
  rw[e]
  unfold scM
  split
  ·rename_i hc
   subst hc
   rw[h i hi,gmul_comm]
  ·exact h i hi
theorem RS_el {M:Nat→Nat→F8} {R w c:Nat} {y:Nat→F8} (hc:c<R):RS (elM M c) R w y↔RS M R w y:=by
 have e: ∀i,gsum w (fun k=>gmul (elM M c i k) (y k))=if i=c then gsum w fun k=>gmul (M c k) (y k)else gsum w (fun k=>gmul (M i k) (y k))^^^gmul (M i c) (gsum w fun k=>gmul (M c k) (y k)):=fun i=>by
  unfold elM
  split
  ·rfl
  ·rw[←gsum_mul, ←gsum_add]
   exact gsum_congr fun k _=>by rw[add_gmul,gmul_assoc]
 constructor
 ·intro h
  have hcc:=h c hc
  rw[e,if_pos rfl]at hcc
  unfold elM at hcc
  rw[if_pos rfl]at hcc
  intro i hi
  have:=h i hi
  rw[e]at this
  unfold elM at this
  by_cases hic:i=c
  ·rw[hic];exact hcc
  ·rw[if_neg hic,if_neg hic,hcc]at this
   have h2:=congrArg (· ^^^gmul (M i c) (M c w)) this
   simp only[BitVec.xor_assoc]at h2
   rwa[xx,x0,x0]at h2
 ·intro h i hi
  rw[e]
  unfold elM
  split
  ·exact h c hc
  ·rw[h i hi,h c hc]
theorem RS_st {M:Nat→Nat→F8} {R w c p:Nat} {y:Nat→F8} (hc:c<R) (hp:p<R) (h0:M p c≠0):RS (stM M c p) R w y↔RS M R w y:=by
 unfold stM
 rw[RS_el hc,RS_sc (ginv_ne h0),RS_sw hc hp]
def Ech (M:Nat→Nat→F8) (R c:Nat):Prop:=c≤R∧ ∀j,j<c→ ∀i,i<R→M i j=if i=j then 1 else 0
theorem Ech_st {M:Nat→Nat→F8} {R c p:Nat} (h:Ech M R c) (hc:c≤p) (hp:p<R) (h0:M p c≠0):Ech (stM M c p) R (c+1):=by
 refine⟨by omega,fun j hj i hi=>?_⟩
 have hcp: ∀j,j<c→M p j=0:=fun j hj=>by rw[h.2 j hj p hp,if_neg (by omega)]
 have hcc: ∀j,j<c→M c j=0:=fun j hj=>by rw[h.2 j hj c (by omega),if_neg (by omega)]
 have e1:scM (swM M c p) c (ginv (M p c)) c j=gmul (M p j) (ginv (M p c)):=by
  unfold scM swM
  rw[if_pos rfl,if_pos rfl]
 unfold stM elM
 by_cases hic:i=c
 ·subst hic
  rw[if_pos rfl,e1]
  by_cases hj2:i=j
  ·subst hj2
   rw[if_pos rfl,gmul_ginv h0]
  ·rw[if_neg hj2,hcp j (by omega),zero_gmul]
 ·rw[if_neg hic,e1]
  have e2: ∀j,scM (swM M c p) c (ginv (M p c)) i j=if i=p then M c j else M i j:=fun j=>by
   unfold scM swM
   rw[if_neg hic,if_neg hic]
   split<;>rfl
  rw[e2,e2]
  by_cases hj2:j=c
  ·subst hj2
   rw[if_neg hic,gmul_ginv h0,gmul_one,xx]
  ·rw[hcp j (by omega),zero_gmul,gmul_zero,x0]
   split
   ·rename_i hip
    rw[hcc j (by omega),if_neg (by omega)]
   ·exact h.2 j (by omega) i hi
theorem Ech_fail {M:Nat→Nat→F8} {R w c:Nat} (h:Ech M R c) (hcw:c<w) (h0: ∀i,c≤i→i<R→M i c=0) {y:Nat→F8} (hy:RS M R w y): ∃y',RS M R w y'∧ ∃k,k<w∧y' k≠y k:=by
 refine⟨fun k=>y k^^^(if k<c then M k c else if k=c then 1 else 0),fun i hi=>?_,c,hcw,fun e=>?_⟩
 ·rw[show gsum w (fun k=>gmul (M i k) (y k^^^(if k<c then M k c else if k=c then 1 else 0)))=gsum w (fun k=>gmul (M i k) (y k)^^^gmul (M i k) (if k<c then M k c else if k=c then 1 else 0))from gsum_congr fun _ _=>gmul_add _ _ _,gsum_add,hy i hi]
  rw[gsum_ext (n:=c+1) (f:=fun k=>gmul (M i k) (if k<c then M k c else if k=c then 1 else 0)) (by omega) fun k h1 h2=>by rw[if_neg (by omega),if_neg (by omega),gmul_zero]]
  rw[gsum,if_neg (by omega),if_pos rfl,gmul_one]
  have:gsum c (fun k=>gmul (M i k) (if k<c then M k c else if k=c then 1 else 0))=M i c:=by
   by_cases hic:i<c
   ·rw[gsum_one hic fun k hk hne=>by rw[h.2 k hk i hi,if_neg (fun e=>hne e.symm),zero_gmul],h.2 i hic i hi,if_pos rfl,if_pos hic,one_gmul]
   ·rw[h0 i (by omega) hi]
    exact gsum_zero fun k hk=>by rw[h.2 k hk i hi,if_neg (by omega),zero_gmul]
  rw[this,xx,x0]
 ·have e:y c^^^(if c<c then M c c else if c=c then 1 else 0)=y c:=e
  rw[if_neg (by omega),if_pos rfl]at e
  have h2:=congrArg (y c^^^ ·) e
  rw[show y c^^^(y c^^^1)=1 by rw[←BitVec.xor_assoc,xx,zx],show y c^^^y c=0 from xx _]at h2
  exact absurd h2 (by decide)
theorem Ech_end {M:Nat→Nat→F8} {R w:Nat} (h:Ech M R w) (y:Nat→F8):RS M R w y↔(∀k,k<w→y k=M k w)∧ ∀i,w≤i→i<R→M i w=0:=by
 have e1: ∀i,i<w→gsum w (fun k=>gmul (M i k) (y k))=y i:=fun i hi=>by
  rw[gsum_one hi fun k hk hne=>by rw[h.2 k hk i (by have:=h.1;omega),if_neg (fun e=>hne e.symm),zero_gmul],h.2 i hi i (by have:=h.1;omega),if_pos rfl,one_gmul]
 have e2: ∀i,w≤i→i<R→gsum w (fun k=>gmul (M i k) (y k))=0:=fun i h1 h2=>gsum_zero fun k hk=>by rw[h.2 k hk i h2,if_neg (by omega),zero_gmul]
 constructor
 ·intro hs
  refine⟨fun k hk=>?_,fun i h1 h2=>?_⟩
  ·rw[←hs k (by have:=h.1;omega),e1 k hk]
  ·rw[←hs i h2,e2 i h1 h2]
 ·rintro ⟨h1,h2⟩ i hi
  by_cases hw:i<w
  ·rw[e1 i hw,h1 i hw]
  ·rw[e2 i (by omega) hi,h2 i (by omega) hi]
def scl (r:List F8) (f:F8):List F8:=run (fun i r=>r.set i (gmul (r.getD i 0) f)) 0 r.length r
theorem scl_len (r:List F8) (f:F8):(scl r f).length=r.length:=
 run_inv (fun _ a=>List.length a=r.length) _ _ _ rfl fun j a _ _ h=>by rw[List.length_set,h]
theorem scl_run (f:F8): ∀(n i:Nat) (r:List F8) (j:Nat),i+n=r.length→(run (fun i r=>r.set i (gmul (r.getD i 0) f)) i n r).getD j 0=if i≤j then gmul (r.getD j 0) f else r.getD j 0
 | 0,i,r,j,h=>by
  by_cases hj:i≤j
  ·rw[if_pos hj,run,getD_ge r j 0 (by omega),zero_gmul]
  ·rw[if_neg hj]
   rfl
 | n+1,i,r,j,h=>by
  rw[run,scl_run f n (i+1) _ j (by rw[List.length_set];omega),getD_set]
  by_cases h1:i=j
  ·subst h1
   rw[if_neg (by omega),if_pos ⟨rfl,by omega⟩,if_pos (Nat.le_refl _)]
  ·rw[if_neg (c:=i=j∧i<r.length) (by omega)]
   by_cases h2:i+1≤j
   ·rw[if_pos h2,if_pos (by omega)]
   ·rw[if_neg h2,if_neg (by omega)]
theorem scl_getD (r:List F8) (f:F8) (j:Nat):(scl r f).getD j 0=gmul (r.getD j 0) f:=by
 unfold scl
 rw[scl_run f r.length 0 r j (by omega),if_pos (Nat.zero_le _)]
def lsw (rows:List (List F8)) (a b:Nat):List (List F8):=(rows.set a (rows.getD b [])).set b (rows.getD a [])
theorem lsw_len (rows:List (List F8)) (a b:Nat):(lsw rows a b).length=rows.length:=by simp[lsw]
theorem lsw_getD (rows:List (List F8)) (a b i:Nat) (ha:a<rows.length) (hb:b<rows.length):(lsw rows a b).getD i []=if i=a then rows.getD b []else if i=b then rows.getD a []else rows.getD i []:=by
 unfold lsw
 rw[getD_set,getD_set,List.length_set]
 by_cases h1:b=i
 ·subst h1
  rw[if_pos ⟨rfl,hb⟩]
  by_cases h2:b=a
  ·rw[if_pos h2,h2]
  ·rw[if_neg h2,if_pos rfl]
 ·rw[if_neg (by omega)]
  by_cases h2:a=i
  ·rw[if_pos ⟨h2,ha⟩,if_pos h2.symm]
  ·rw[if_neg (by omega),if_neg (by omega),if_neg (by omega)]
def lel1 (c k:Nat) (rows:List (List F8)):List (List F8):=if k=c then rows else rows.set k (paddAt (rows.getD k []) (rows.getD c []) (mt rows k c) 0)
def lel (rows:List (List F8)) (c:Nat):List (List F8):=run (lel1 c) 0 rows.length rows
theorem lel1_len (c k:Nat) (rows:List (List F8)):(lel1 c k rows).length=rows.length:=by
 unfold lel1
 split
 ·rfl
 ·rw[List.length_set]
theorem lel_len (rows:List (List F8)) (c:Nat):(lel rows c).length=rows.length:=
 run_inv (fun _ a=>List.length a=rows.length) _ _ _ rfl fun j a _ _ h=>by rw[lel1_len,h]
def Wd (rows:List (List F8)) (m:Nat):Prop:= ∀i,i<rows.length→(rows.getD i []).length=m
theorem Wd.set {rows:List (List F8)} {m:Nat} (h:Wd rows m) (k:Nat) {r:List F8} (hr:r.length=m):Wd (rows.set k r) m:=fun i hi=>by
 rw[List.length_set]at hi
 rw[getD_set]
 split
 ·exact hr
 ·exact h i hi
theorem lel1_wd {rows:List (List F8)} {m c k:Nat} (h:Wd rows m) (hk:k<rows.length):Wd (lel1 c k rows) m:=by
 unfold lel1
 split
 ·exact h
 ·exact h.set k (by rw[paddAt_len];exact h k hk)
theorem lel1_getD {rows:List (List F8)} {c k i:Nat}:(lel1 c k rows).getD i []=if i=k∧k≠c∧k<rows.length then paddAt (rows.getD k []) (rows.getD c []) (mt rows k c) 0 else rows.getD i []:=by
 unfold lel1
 by_cases h:k=c
 ·rw[if_pos h,if_neg (by omega)]
 ·rw[if_neg h,getD_set]
  by_cases h2:k=i∧k<rows.length
  ·rw[if_pos h2,if_pos ⟨h2.1.symm,h,h2.2⟩]
  ·rw[if_neg h2,if_neg (by omega)]
theorem lel_run (c:Nat): ∀(n k:Nat) (rows:List (List F8)) (i:Nat),k+n≤rows.length→(run (lel1 c) k n rows).getD i []=if k≤i∧i<k+n∧i≠c then paddAt (rows.getD i []) (rows.getD c []) (mt rows i c) 0 else rows.getD i []
 | 0,k,rows,i,_=>by rw[if_neg (by omega)];rfl
 | n+1,k,rows,i,h=>by
  rw[run,lel_run c n (k+1) _ i (by rw[lel1_len];omega)]
  have ec:(lel1 c k rows).getD c []=rows.getD c []:=by rw[lel1_getD,if_neg (by omega)]
  by_cases h1:i=k
  ·subst h1
   rw[if_neg (by omega),lel1_getD]
   by_cases h2:i=c
   ·rw[if_neg (by omega),if_neg (by omega)]
   ·rw[if_pos ⟨rfl,h2,by omega⟩,if_pos ⟨Nat.le_refl _,by omega,h2⟩]
  ·have ei:(lel1 c k rows).getD i []=rows.getD i []:=by rw[lel1_getD,if_neg (by omega)]
   rw[ec]
   unfold mt
   rw[ei]
   by_cases h2:k+1≤i∧i<k+1+n∧i≠c
   ·rw[if_pos h2,if_pos (by omega)]
   ·rw[if_neg h2,if_neg (by omega)]
theorem lel_getD {rows:List (List F8)} {c i:Nat} (hi:i<rows.length):(lel rows c).getD i []=if i=c then rows.getD i []else paddAt (rows.getD i []) (rows.getD c []) (mt rows i c) 0:=by
 unfold lel
 rw[lel_run c rows.length 0 rows i (by omega)]
 by_cases h:i=c
 ·rw[if_neg (by omega),if_pos h]
 ·rw[if_pos (by omega),if_neg h]
theorem lel_wd {rows:List (List F8)} {m c:Nat} (h:Wd rows m):Wd (lel rows c) m:=fun i hi=>by
 rw[lel_len]at hi
 rw[lel_getD hi]
 split
 ·exact h i hi
 ·rw[paddAt_len];exact h i hi
theorem lel_mt {rows:List (List F8)} {m c i j:Nat} (h:Wd rows m) (hi:i<rows.length) (hc:c<rows.length):mt (lel rows c) i j=elM (mt rows) c i j:=by
 unfold elM
 show((lel rows c).getD i []).getD j 0=_
 rw[lel_getD hi]
 by_cases hic:i=c
 ·rw[if_pos hic,if_pos hic,hic]
  rfl
 ·rw[if_neg hic,if_neg hic,paddAt_getD _ _ _ _ _ (by rw[h c hc,h i hi];omega)]
  show mt rows i j^^^_=_
  congr 1
  by_cases hj:j<m
  ·rw[if_pos (by rw[h c hc];omega)]
   rfl
  ·rw[if_neg (by rw[h c hc];omega)]
   unfold mt
   rw[getD_ge (rows.getD c []) j 0 (by rw[h c hc];omega),gmul_zero]
def gst1 (rows:List (List F8)) (c p:Nat):List (List F8):=(lsw rows c p).set c (scl (rows.getD p []) (ginv (mt rows p c)))
def gst (rows:List (List F8)) (c p:Nat):List (List F8):=lel (gst1 rows c p) c
theorem gst1_len (rows:List (List F8)) (c p:Nat):(gst1 rows c p).length=rows.length:=by
 unfold gst1
 rw[List.length_set,lsw_len]
theorem gst_len (rows:List (List F8)) (c p:Nat):(gst rows c p).length=rows.length:=by
 unfold gst
 rw[lel_len,gst1_len]
theorem lsw_wd {rows:List (List F8)} {m a b:Nat} (h:Wd rows m) (ha:a<rows.length) (hb:b<rows.length):Wd (lsw rows a b) m:=(h.set a (h b hb)).set b (h a ha)
theorem gst1_wd {rows:List (List F8)} {m c p:Nat} (h:Wd rows m) (hc:c<rows.length) (hp:p<rows.length):Wd (gst1 rows c p) m:=(lsw_wd h hc hp).set c (by rw[scl_len];exact h p hp)
theorem gst_wd {rows:List (List F8)} {m c p:Nat} (h:Wd rows m) (hc:c<rows.length) (hp:p<rows.length):Wd (gst rows c p) m:=lel_wd (gst1_wd h hc hp)
theorem gst1_mt {rows:List (List F8)} {c p i j:Nat} (hc:c<rows.length) (hp:p<rows.length):mt (gst1 rows c p) i j=scM (swM (mt rows) c p) c (ginv (mt rows p c)) i j:=by
 unfold gst1 scM swM
 show(((lsw rows c p).set c _).getD i []).getD j 0=_
 rw[getD_set]
 by_cases h:c=i
 ·rw[if_pos ⟨h,by rw[lsw_len];exact hc⟩,if_pos h.symm,if_pos rfl,scl_getD]
  rfl
 ·rw[if_neg (c:=c=i∧c<(lsw rows c p).length) (by omega),if_neg (c:=i=c) (by omega),if_neg (c:=i=c) (by omega),lsw_getD _ _ _ _ hc hp,if_neg (c:=i=c) (by omega)]
  by_cases h2:i=p
  ·rw[if_pos h2,if_pos h2]
   rfl
  ·rw[if_neg h2,if_neg h2]
   rfl
theorem gst_mt {rows:List (List F8)} {m c p i j:Nat} (h:Wd rows m) (hc:c<rows.length) (hp:p<rows.length) (hi:i<rows.length):mt (gst rows c p) i j=stM (mt rows) c p i j:=by
 unfold gst stM
 rw[lel_mt (gst1_wd h hc hp) (by rw[gst1_len];exact hi) (by rw[gst1_len];exact hc)]
 unfold elM
 simp only[gst1_mt hc hp]
def piv (rows:List (List F8)) (c:Nat):Nat→Nat→Option Nat
 | _,0=>none
 | i,n+1=>if mt rows i c≠0 then some i else piv rows c (i+1) n
theorem piv_some {rows:List (List F8)} {c:Nat}: ∀{n i p:Nat},piv rows c i n=some p→i≤p∧p<i+n∧mt rows p c≠0
 | 0,_,_,h=>by cases h
 | n+1,i,p,h=>by
  rw[piv]at h
  split at h
  ·rename_i h1
   cases h
   exact⟨Nat.le_refl _,by omega,h1⟩
  ·have:=piv_some h
   exact⟨by omega,by omega,this.2.2⟩
theorem piv_none {rows:List (List F8)} {c:Nat}: ∀{n i:Nat},piv rows c i n=none→ ∀j,i≤j→j<i+n→mt rows j c=0
 | 0,_,_,_,_,_=>by omega
 | n+1,i,h,j,h1,h2=>by
  rw[piv]at h
  split at h
  ·cases h
  ·rename_i h3
   by_cases e:i=j
   ·subst e
    exact Classical.not_not.1 h3
   ·exact piv_none h j (by omega) (by omega)
def gcols:Nat→Nat→List (List F8)→Option (List (List F8))
 | 0,_,rows=>some rows
 | n+1,c,rows=>match piv rows c c (rows.length-c)with
  | none=>none
  | some p=>gcols n (c+1) (gst rows c p)
def gzero (rows:List (List F8)) (w:Nat):Nat→Nat→Bool
 | _,0=>true
 | i,n+1=>if mt rows i w=0 then gzero rows w (i+1) n else false
theorem gzero_iff {rows:List (List F8)} {w:Nat}: ∀{n i:Nat},gzero rows w i n=true↔ ∀j,i≤j→j<i+n→mt rows j w=0
 | 0,i=>⟨fun _ j h1 h2=>by omega,fun _=>rfl⟩
 | n+1,i=>by
  rw[gzero]
  split
  ·rename_i h
   rw[gzero_iff]
   constructor
   ·intro h1 j h2 h3
    by_cases e:i=j
    ·rw[←e,h]
    ·exact h1 j (by omega) (by omega)
   ·intro h1 j h2 h3
    exact h1 j (by omega) (by omega)
  ·rename_i h
   constructor
   ·intro h1
    cases h1
   ·intro h1
    exact absurd (h1 i (Nat.le_refl _) (by omega)) h
def gfin (rows:List (List F8)) (w:Nat):Option (List F8):=if gzero rows w w (rows.length-w)then some ((List.range w).map fun k=>mt rows k w)else none
def gauss (rows:List (List F8)) (w:Nat):Option (List F8):=(gcols w 0 rows).bind fun rows=>gfin rows w
theorem RS_congr {M M':Nat→Nat→F8} {R w:Nat} {y:Nat→F8} (h: ∀i j,i<R→M i j=M' i j):RS M R w y↔RS M' R w y:=by
 unfold RS
 constructor
 ·intro hs i hi
  rw[←h i w hi, ←hs i hi]
  exact gsum_congr fun k _=>by rw[h i k hi]
 ·intro hs i hi
  rw[h i w hi, ←hs i hi]
  exact gsum_congr fun k _=>by rw[h i k hi]
theorem Ech_congr {M M':Nat→Nat→F8} {R c:Nat} (h: ∀i j,i<R→M i j=M' i j) (he:Ech M R c):Ech M' R c:=⟨he.1,fun j hj i hi=>by rw[←h i j hi];exact he.2 j hj i hi⟩
theorem gcols_spec {m w:Nat}: ∀(n c:Nat) (rows:List (List F8)),c+n=w→w≤rows.length→Wd rows m→Ech (mt rows) rows.length c→
  match gcols n c rows with
  | some r=>r.length=rows.length∧Ech (mt r) rows.length w∧(∀y,RS (mt r) rows.length w y↔RS (mt rows) rows.length w y)
  | none=> ∀y,RS (mt rows) rows.length w y→ ∃y',RS (mt rows) rows.length w y'∧ ∃k,k<w∧y' k≠y k
 | 0,c,rows,hc,_,_,he=>by
  obtain rfl:c=w:=by omega
  exact⟨rfl,he,fun y=>Iff.rfl⟩
 | n+1,c,rows,hc,hw,hd,he=>by
  rw[gcols]
  cases hp:piv rows c c (rows.length-c)with
  | none=>
   intro y hy
   exact Ech_fail (R:=rows.length) (w:=w) he (by omega) (fun i h1 h2=>piv_none hp i h1 (by omega)) hy
  | some p=>
   obtain⟨h1,h2,h3⟩:=piv_some hp
   have hpl:p<rows.length:=by omega
   have hcl:c<rows.length:=by omega
   have hm: ∀i j,i<rows.length→stM (mt rows) c p i j=mt (gst rows c p) i j:=fun i j hi=>(gst_mt hd hcl hpl hi).symm
   have ih:=gcols_spec (m:=m) (w:=w) n (c+1) (gst rows c p) (by omega) (by rw[gst_len];exact hw) (gst_wd hd hcl hpl) (by rw[gst_len];exact Ech_congr hm (Ech_st he h1 hpl h3))
   rw[gst_len]at ih
   have hrs: ∀y,RS (mt (gst rows c p)) rows.length w y↔RS (mt rows) rows.length w y:=fun y=>(RS_congr hm).symm.trans (RS_st hcl hpl h3)
   show match gcols n (c+1) (gst rows c p)with|some r=>_|none=>_
   cases hg:gcols n (c+1) (gst rows c p)with
   | none=>
    rw[hg]at ih
    intro y hy
    obtain⟨y',h4,h5⟩:=ih y ((hrs y).2 hy)
    exact⟨y',(hrs y').1 h4,h5⟩
   | some r=>
    rw[hg]at ih
    exact⟨ih.1,ih.2.1,fun y=>(ih.2.2 y).trans (hrs y)⟩
theorem gauss_spec {m w:Nat} {rows:List (List F8)} (hw:w≤rows.length) (hd:Wd rows m):
  match gauss rows w with
  | some out=>out.length=w∧ ∀y,RS (mt rows) rows.length w y↔ ∀k,k<w→y k=out.getD k 0
  | none=> ∀y,RS (mt rows) rows.length w y→ ∃y',RS (mt rows) rows.length w y'∧ ∃k,k<w∧y' k≠y k:=by
 have h:=gcols_spec (w:=w) w 0 rows (by omega) hw hd ⟨by omega,fun j hj=>by omega⟩
 unfold gauss
 cases hg:gcols w 0 rows with
 | none=>
  rw[hg]at h
  exact h
 | some r=>
  rw[hg]at h
  obtain⟨h1,h2,h3⟩:=h
  show match gfin r w with|some out=>_|none=>_
  unfold gfin
  by_cases hz:gzero r w w (r.length-w)=true
  ·rw[if_pos hz]
   rw[gzero_iff,h1]at hz
   refine⟨by simp,fun y=>?_⟩
   rw[←h3 y,Ech_end h2]
   have e: ∀k,k<w→((List.range w).map fun k=>mt r k w).getD k 0=mt r k w:=fun k hk=>by
    rw[List.getD_eq_getElem?_getD,List.getElem?_map,List.getElem?_range hk]
    rfl
   constructor
   ·rintro ⟨h4,_⟩ k hk
    rw[h4 k hk,e k hk]
   ·intro h4
    exact⟨fun k hk=>by rw[h4 k hk,e k hk],fun i hi1 hi2=>hz i hi1 (by omega)⟩
  ·rw[if_neg hz]
   intro y hy
   rw[←h3 y,Ech_end h2]at hy
   rw[gzero_iff,h1]at hz
   exact absurd (fun j h4 h5=>hy.2 j h4 (by omega)) hz
def rb (rows:List (List F8)):List (List Int):=rows.map bs
theorem rb_len (rows:List (List F8)):(rb rows).length=rows.length:=List.length_map _
theorem rb_getD (rows:List (List F8)) (i:Nat):(rb rows).getD i []=bs (rows.getD i []):=by
 unfold rb
 rw[List.getD_eq_getElem?_getD,List.getD_eq_getElem?_getD,List.getElem?_map]
 cases rows[i]?<;>rfl
theorem rb_set (rows:List (List F8)) (i:Nat) (r:List F8):(rb rows).set i (bs r)=rb (rows.set i r):=by
 unfold rb
 rw[List.map_set]
theorem rb_drop (rows:List (List F8)) (n:Nat):(rb rows).drop n=rb (rows.drop n):=by
 unfold rb
 rw[List.map_drop]
theorem getD_drop {β:Type} (l:List β) (n i:Nat) (d:β):(l.drop n).getD i d=l.getD (n+i) d:=by
 rw[List.getD_eq_getElem?_getD,List.getD_eq_getElem?_getD,List.getElem?_drop]
abbrev perm (R c p:Nat):List Nat:=((List.range R).set c p).set p c
theorem perm_len (R c p:Nat):(perm R c p).length=R:=by simp[perm]
theorem perm_getD {R c p i:Nat} (hc:c<R) (hp:p<R) (hi:i<R):(perm R c p).getD i 0=if i=c then p else if i=p then c else i:=by
 unfold perm
 have hr:(List.range R).getD i 0=i:=by
  rw[List.getD_eq_getElem?_getD,List.getElem?_range hi]
  rfl
 rw[getD_set,getD_set,List.length_set,List.length_range,hr]
 by_cases h1:p=i
 ·subst h1
  rw[if_pos ⟨rfl,hp⟩,if_pos rfl]
  split
  ·rename_i h
   exact h.symm
  ·rfl
 ·rw[if_neg (by omega)]
  by_cases h2:c=i
  ·rw[if_pos ⟨h2,hc⟩,if_pos h2.symm]
  ·rw[if_neg (by omega),if_neg (by omega),if_neg (by omega)]
theorem perm_ok {R c p:Nat} (hc:c<R) (hp:p<R) {m:Nat} (hm:m=R):List.Nodup (perm R c p)∧List.all (perm R c p) (fun i=>decide (i<m))=true:=by
 have hg: ∀(i:Nat) (h:i<(perm R c p).length),(perm R c p)[i]=if i=c then p else if i=p then c else i:=fun i h=>by
  rw[←perm_getD hc hp (by rw[perm_len]at h;exact h),List.getD_eq_getElem?_getD,List.getElem?_eq_getElem h]
  rfl
 subst hm
 constructor
 ·rw[List.Nodup,List.pairwise_iff_getElem]
  intro i j hi hj hij
  rw[hg i hi,hg j hj]
  rw[perm_len]at hi hj
  split<;>split<;>(try split)<;>(try split)<;>omega
 ·rw[List.all_eq_true]
  intro x hx
  obtain⟨i,hi,rfl⟩:=List.mem_iff_getElem.1 hx
  rw[hg i hi]
  rw[perm_len]at hi
  apply decide_eq_true
  split
  ·exact hp
  ·split
   ·exact hc
   ·exact hi
theorem perm_map {R c p:Nat} (X:List (List Int)) (hc:c<R) (hp:p<R) {Y:List (List Int)} (hY:Y.length=R) (h: ∀i,i<R→Y.getD i []=X.getD (if i=c then p else if i=p then c else i) []):(perm R c p).map (rowOf X)=Y:=by
 refine ext_getD [] (by rw[List.length_map,perm_len,hY]) fun i hi=>?_
 rw[List.length_map,perm_len]at hi
 rw[h i hi, ←perm_getD hc hp hi]
 have hl:i<(perm R c p).length:=by rw[perm_len];exact hi
 rw[List.getD_eq_getElem?_getD,List.getElem?_map,List.getD_eq_getElem?_getD (l:=perm R c p),List.getElem?_eq_getElem hl]
 rfl
theorem perm_sw {rows:List (List F8)} {c p:Nat} (hc:c<rows.length) (hp:p<rows.length):(perm rows.length c p).map (rowOf (rb rows))=rb (lsw rows c p):=
 perm_map _ hc hp (by rw[rb_len,lsw_len]) fun i hi=>by
  rw[rb_getD,rb_getD,lsw_getD _ _ _ _ hc hp]
  split
  ·rfl
  ·split<;>rfl
theorem perm_st {rows:List (List F8)} {c p:Nat} (hc:c<rows.length) (hp:p<rows.length):(perm rows.length c p).map (rowOf (rb (rows.set p (scl (rows.getD p []) (ginv (mt rows p c))))))=rb (gst1 rows c p):=
 perm_map _ hc hp (by rw[rb_len,gst1_len]) fun i hi=>by
  rw[rb_getD,rb_getD]
  unfold gst1
  rw[getD_set,getD_set,lsw_len,lsw_getD _ _ _ _ hc hp]
  by_cases h1:c=i
  ·rw[if_pos ⟨h1,hc⟩,if_pos (by rw[if_pos h1.symm];exact⟨rfl,hp⟩)]
  ·rw[if_neg (by omega),if_neg (c:=i=c) (by omega),if_neg (c:=i=c) (by omega)]
   by_cases h2:i=p
   ·rw[if_pos h2,if_pos h2,if_neg (by omega)]
   ·rw[if_neg h2,if_neg h2,if_neg (by omega)]
section
variable {α:Type} {k:Nat}
theorem f158_eq (hk:10000≤k) (r:List F8) (f:F8) (hr:r.length<1000) (K:List Int→Option α):f158 k (bs r) (ofG f) K=K (bs (scl r f)):=by
 simp only[f158,s158,SumT.leaf,SumT.pre,SumT.seq,SumT.cond,SumT.block,SumT.blockP,SumT.loop,zB]
 rw[bs_len]
 refine lp_run (fun i r'=>(bs r',ofG f,(r.length:Int),(i:Int))) r.length _ (fun i r'=>r'.length=r.length) (fun r'=>K (bs r')) ?_ ?_ (by omega) (a:=r) rfl
 ·intro i r' n hi hI
  refine⟨?_,?_⟩
  rotate_left
  ·rw[List.length_set,hI]
  ·simp (disch:=omega) only[gd,w64_id,wu64_id,room,Int.toNat_natCast,bs_len,List.length_set,List.length_append,List.length_replicate,List.length_cons,List.length_nil,bs_getD,bs_set,ofG_xor,cond_true,cond_false,dlt,dge,dle,dgt,Bool.not_true,Bool.not_false,f146_eq hk]
   rfl
 ·intro r' n hI
  simp (disch:=omega) only[gd,w64_id,wu64_id,room,Int.toNat_natCast,bs_len,List.length_set,List.length_append,List.length_replicate,List.length_cons,List.length_nil,bs_getD,bs_set,ofG_xor,cond_true,cond_false,dlt,dge,dle,dgt,Bool.not_true,Bool.not_false]
theorem f156_eq (hk:10000≤k) (rows:List (List F8)) (c m:Nat) (hd:Wd rows m) (hc:c<m) (hR:rows.length<1000) (hm:m<1000) (K:Int→Option α):
  f156_157 k (rb (rows.drop c)) (c:Int) K=match piv rows c c (rows.length-c)with|some p=>K ((p-c:Nat):Int)|none=>K (-1):=by
 simp only[f156_157,s156_157,SumT.leaf,SumT.pre,SumT.seq,SumT.cond,SumT.block,SumT.blockP,SumT.loop,zB]
 rw[rb_len,List.length_drop]
 refine lp_rule (fun q x=> ∃i:Nat,i+q=rows.length-c∧x=(rb (rows.drop c),(c:Int),((rows.length-c:Nat):Int),(i:Int))∧piv rows c (c+i) q=piv rows c c (rows.length-c)) ?_ (m:=rows.length-c) ⟨0,by omega,rfl,rfl⟩ (by omega)
 rintro q x n ⟨i,hi,rfl,hp⟩ hn
 cases q with
 | zero=>
  simp only[]
  rw[dge (by omega),cond_false, ←hp]
  rfl
 | succ q=>
  have hw:=hd (c+i) (by omega)
  simp only[]
  rw[dlt (by omega),cond_true,rb_len,List.length_drop,gd (by omega),Int.toNat_natCast,rb_getD,getD_drop]
  simp only[f157,s157,SumT.leaf,SumT.pre,SumT.seq,SumT.cond,SumT.block,SumT.blockP,SumT.loop,zB]
  rw[bs_len,hw,gd (by omega),Int.toNat_natCast,bs_getD]
  rw[piv]at hp
  by_cases hz:mt rows (c+i) c=0
  ·rw[if_neg (fun h=>h hz)]at hp
   have e:ofG ((rows.getD (c+i) []).getD c 0)=0:=by
    rw[show(rows.getD (c+i) []).getD c 0=mt rows (c+i) c from rfl,hz]
    rfl
   rw[e,w64_id (by omega) (by omega)]
   exact hn q _ (by omega) ⟨i+1,by omega,rfl,hp⟩
  ·rw[if_pos hz]at hp
   have e:(ofG ((rows.getD (c+i) []).getD c 0) !=0)=true:=bne_iff_ne.2 fun h=>hz (ofG_eq_zero.1 h)
   rw[e, ←hp]
   show K (i:Int)=K ((c+i-c:Nat):Int)
   congr 2
   omega
def zs (l:List Nat):List Int:=l.map fun p:Nat=>(p:Int)
theorem zs_len (l:List Nat):(zs l).length=l.length:=List.length_map _
theorem zs_getD (l:List Nat) (i:Nat):(zs l).getD i 0=((l.getD i 0:Nat):Int):=by
 unfold zs
 rw[List.getD_eq_getElem?_getD,List.getD_eq_getElem?_getD,List.getElem?_map]
 cases l[i]?<;>rfl
def srow (n:Nat) (s:List F8) (ps:List Nat) (j:Nat):List F8:=(List.range ps.length).map (fun i=>gpow (gpow 2 (n-1-ps.getD i 0)) j)++[s.getD j 0]
def srows (n:Nat) (s:List F8) (ps:List Nat):List (List F8):=(List.range s.length).map (srow n s ps)
theorem map_range_getD {β:Type} (g:Nat→β) (R i:Nat) (d:β) (h:i<R):((List.range R).map g).getD i d=g i:=by
 rw[List.getD_eq_getElem?_getD,List.getElem?_map,List.getElem?_range h]
 rfl
theorem srows_len (n:Nat) (s:List F8) (ps:List Nat):(srows n s ps).length=s.length:=by simp[srows]
theorem srows_wd (n:Nat) (s:List F8) (ps:List Nat):Wd (srows n s ps) (ps.length+1):=fun i hi=>by
 rw[srows_len]at hi
 unfold srows
 rw[map_range_getD _ _ _ _ hi]
 simp[srow]
theorem run_setall {β:Type} (g:Nat→β) (d:β) (R:Nat) (l:List β) (hl:l.length=R):run (fun i (l:List β)=>l.set i (g i)) 0 R l=(List.range R).map g:=by
 have key: ∀(n i:Nat) (l:List β) (j:Nat),i+n≤l.length→(run (fun i (l:List β)=>l.set i (g i)) i n l).getD j d=if i≤j∧j<i+n then g j else l.getD j d:=by
  intro n
  induction n with
  | zero=>
   intro i l j _
   rw[if_neg (by omega)]
   rfl
  | succ n ih=>
   intro i l j h
   rw[run,ih (i+1) _ j (by rw[List.length_set];omega),getD_set]
   by_cases h1:i=j
   ·subst h1
    rw[if_neg (by omega),if_pos ⟨rfl,by omega⟩,if_pos (by omega)]
   ·rw[if_neg (c:=i=j∧i<l.length) (by omega)]
    by_cases h2:i+1≤j∧j<i+1+n
    ·rw[if_pos h2,if_pos (by omega)]
    ·rw[if_neg h2,if_neg (by omega)]
 have hlen:(run (fun i (l:List β)=>l.set i (g i)) 0 R l).length=R:=run_inv (fun _ a=>List.length a=R) _ _ _ hl fun j a _ _ h=>by rw[List.length_set,h]
 refine ext_getD d (by rw[hlen];simp) fun j hj=>?_
 rw[hlen]at hj
 rw[key R 0 l j (by omega),if_pos (by omega),map_range_getD _ _ _ _ hj]
theorem f148_eq (hk:10000≤k) (n p:Nat) (hn:n≤64) (hp:p<n) (K:Int→Option α):f148 k (n:Int) (p:Int) K=K (ofG (gpow 2 (n-1-p))):=by
 simp only[f148,s148,SumT.leaf,SumT.pre,SumT.seq,SumT.cond,SumT.block,SumT.blockP,SumT.loop,zB]
 have e1:w64 ((n:Int)-1)=((n-1:Nat):Int):=by
  rw[w64_id (by omega) (by omega)]
  omega
 have e2:w64 (((n-1:Nat):Int)-(p:Int))=((n-1-p:Nat):Int):=by
  rw[w64_id (by omega) (by omega)]
  omega
 rw[e1,e2,f145_eq hk _ (by omega)]
theorem getD_mem {β:Type} {l:List β} {i:Nat} (d:β) (h:i<l.length):l.getD i d∈l:=by
 rw[List.getD_eq_getElem?_getD,List.getElem?_eq_getElem h]
 exact List.getElem_mem h
theorem set_same {β:Type} {l:List β} {i:Nat} {d x:β} (h:l.getD i d=x) (hi:i<l.length):l.set i x=l:=by
 refine ext_getD d (by simp) fun j hj=>?_
 rw[getD_set]
 split
 ·rename_i h2
  rw[←h2.1,h]
 ·rfl
theorem bs_snoc2 (l:List F8) (x:F8):bs l++[ofG x]=bs (l++[x]):=bs_append l [x]
theorem paddAt_zero (p q:List F8) (a:Nat) (h:a+q.length≤p.length):paddAt p q 0 a=p:=ext_getD 0 (paddAt_len _ _ _ _) fun i _=>by
 rw[paddAt_getD _ _ _ _ _ h]
 split
 ·rw[zero_gmul,x0]
 ·rw[x0]
theorem f127_eq (hk:10000≤k) (n:Nat) (s:List F8) (ps:List Nat) (hs:s.length<100) (hn:n≤64) (hps: ∀p∈ps,p<n) (hw:ps.length≤s.length) (K:List Int→Bool→Option α):
  f127 k (bs s) (n:Int) (zs ps) K=match gauss (srows n s ps) ps.length with|some out=>K (bs out) true|none=>K [] false:=by
 simp only[f127,s127,SumT.leaf,SumT.pre,SumT.seq,SumT.cond,SumT.block,SumT.blockP,SumT.loop,zB]
 rw[bs_len,gd (by unfold room;omega),Int.toNat_natCast,show List.replicate s.length ([]:List Int)=rb (List.replicate s.length []) by simp[rb,bs],rb_len,List.length_replicate]
 refine lp_run2 (fun i rows=>(bs s,(n:Int),zs ps,rb rows,(s.length:Int),(i:Int))) s.length (fun i rows=>rows.set i (srow n s ps i)) (fun i rows=>rows.length=s.length∧ ∀j,i≤j→rows.getD j []=[]) (by omega)
  (a:=List.replicate s.length []) ⟨List.length_replicate,fun j _=>getD_rep _ _ _⟩ ?_ ?_
 ·rintro i rows n' hi ⟨hl,he⟩
  refine⟨?_,by rw[List.length_set,hl],fun j hj=>by rw[getD_set,if_neg (by omega),he j (by omega)]⟩
  simp only[]
  rw[dlt (by omega),cond_true,zs_len]
  refine lp_run2 (fun j rows'=>(bs s,(n:Int),zs ps,rb rows',(i:Int),(s.length:Int),(i:Int),zs ps,(ps.length:Int),(j:Int))) ps.length (fun j rows'=>rows'.set i (rows'.getD i []++[gpow (gpow 2 (n-1-ps.getD j 0)) i]))
   (fun j rows'=>rows'=rows.set i ((List.range j).map fun j=>gpow (gpow 2 (n-1-ps.getD j 0)) i)) (by omega) (a:=rows) (set_same (he i (Nat.le_refl _)) (by omega)).symm ?_ ?_
  ·rintro j rows' n2 hj rfl
   have hg:(rows.set i ((List.range j).map fun j=>gpow (gpow 2 (n-1-ps.getD j 0)) i)).getD i []=(List.range j).map fun j=>gpow (gpow 2 (n-1-ps.getD j 0)) i:=by rw[getD_set,if_pos ⟨rfl,by omega⟩]
   refine⟨?_,by rw[hg,List.set_set,List.range_succ,List.map_append];rfl⟩
   simp only[]
   rw[dlt (by omega),cond_true,zs_len,gd (by omega),Int.toNat_natCast,zs_getD,f148_eq hk n _ hn (hps _ (getD_mem 0 hj)),f155_eq hk _ (gpow_ne two_ne _) i (by omega),rb_len,List.length_set,gd (by omega),Int.toNat_natCast,rb_getD,hg,bs_snoc2,bs_len,List.length_map,List.length_range]
   rw[gd (by simp;unfold room;omega),gd (by omega),if_pos trivial,rb_set,w64_id (by omega) (by omega)]
   rfl
  ·intro n2 hI
   rw[hI]
   have hg:(rows.set i ((List.range ps.length).map fun j=>gpow (gpow 2 (n-1-ps.getD j 0)) i)).getD i []=(List.range ps.length).map fun j=>gpow (gpow 2 (n-1-ps.getD j 0)) i:=by rw[getD_set,if_pos ⟨rfl,by omega⟩]
   simp only[]
   rw[dge (by omega),cond_false,rb_len,List.length_set,gd (by omega),bs_len,gd (by omega),Int.toNat_natCast,rb_getD,hg,bs_getD,bs_snoc2,bs_len,List.length_map,List.length_range]
   rw[gd (by simp;unfold room;omega),gd (by omega),if_pos trivial,rb_set,List.set_set,w64_id (by omega) (by omega)]
   rfl
 ·intro n' _
  rw[run_setall (srow n s ps) [] s.length _ List.length_replicate,show(List.range s.length).map (srow n s ps)=srows n s ps from rfl]
  simp only[]
  have hl0:=srows_len n s ps
  have hd0:=srows_wd n s ps
  rw[dge (by omega),cond_false,zs_len,rb_len,hl0,decide_eq_false (by omega),cond_false]
  generalize hrw:srows n s ps=rows0 at hl0 hd0
  refine lp_rule (fun q x=> ∃(c:Nat) (rows:List (List F8)),c+q=ps.length∧x=(rb rows,(ps.length:Int),(ps.length:Int),(c:Int))∧rows.length=s.length∧Wd rows (ps.length+1)∧
   ((gcols q c rows).bind fun r=>gfin r ps.length)=gauss rows0 ps.length) ?_ (m:=ps.length) ⟨0,rows0,by omega,rfl,hl0,hd0,rfl⟩ (by omega)
  rintro q x n2 ⟨c,rows,hcq,rfl,hl,hd,hg⟩ hn2
  cases q with
  | zero=>
   have hg:gfin rows ps.length=gauss rows0 ps.length:=hg
   simp only[]
   rw[dge (by omega),cond_false,rb_len,hl, ←hg]
   refine lp_rule (fun q x=> ∃i:Nat,i+q=s.length∧x=((ps.length:Int),bs ((List.range (min i ps.length)).map fun k=>mt rows k ps.length),rb rows,(s.length:Int),(i:Int))∧
    gzero rows ps.length (max i ps.length) (s.length-max i ps.length)=gzero rows ps.length ps.length (s.length-ps.length)) ?_ (m:=s.length) ⟨0,by omega,by simp[bs],by simp⟩ (by omega)
   rintro q x n3 ⟨i,hi,rfl,hz⟩ hn3
   unfold gfin
   rw[hl, ←hz]
   cases q with
   | zero=>
    simp only[]
    rw[dge (by omega),cond_false,show s.length-max i ps.length=0 by omega,show min i ps.length=ps.length by omega]
    rfl
   | succ q=>
    have hrow:=hd i (by omega)
    simp only[]
    rw[dlt (by omega),cond_true,rb_len,gd (by omega),Int.toNat_natCast,rb_getD,bs_len,hrow,Int.toNat_natCast,bs_getD,show(rows.getD i []).getD ps.length 0=mt rows i ps.length from rfl]
    by_cases hiw:i<ps.length
    ·rw[dlt (by omega),cond_true,gd (by omega),bs_len,List.length_map,List.length_range,gd (by simp;unfold room;omega),bs_snoc2,w64_id (by omega) (by omega)]
     rw[hz]
     have:=hn3 q ((ps.length:Int),bs ((List.range (min (i+1) ps.length)).map fun k=>mt rows k ps.length),rb rows,(s.length:Int),((i+1:Nat):Int)) (by omega) ⟨i+1,by omega,rfl,by rw[←hz];congr 1<;>omega⟩
     unfold gfin at this
     rw[hl]at this
     rw[←this,show min (i+1) ps.length=min i ps.length+1 by omega,List.range_succ,List.map_append,show min i ps.length=i by omega]
     rfl
    ·rw[dge (by omega),cond_false,gd (by omega),show s.length-max i ps.length=(s.length-max (i+1) ps.length)+1 by omega,gzero,show max i ps.length=i by omega]
     by_cases h0:mt rows i ps.length=0
     ·rw[h0,show(ofG 0 !=(0:Int))=false from rfl,cond_false,if_pos rfl,w64_id (by omega) (by omega)]
      have hz2:gzero rows ps.length (max (i+1) ps.length) (s.length-max (i+1) ps.length)=gzero rows ps.length ps.length (s.length-ps.length):=by
       rw[←hz,show s.length-max i ps.length=(s.length-max (i+1) ps.length)+1 by omega,gzero,show max i ps.length=i by omega,if_pos h0,show max (i+1) ps.length=i+1 by omega]
      have:=hn3 q ((ps.length:Int),bs ((List.range (min (i+1) ps.length)).map fun k=>mt rows k ps.length),rb rows,(s.length:Int),((i+1:Nat):Int)) (by omega) ⟨i+1,by omega,rfl,hz2⟩
      unfold gfin at this
      rw[hl, ←hz2]at this
      rw[show max (i+1) ps.length=i+1 by omega,show min (i+1) ps.length=min i ps.length by omega]at this
      rw[show max (i+1) ps.length=i+1 by omega]
      exact this
     ·rw[bne_iff_ne.2 (fun h=>h0 (ofG_eq_zero.1 h)),cond_true,if_neg h0]
      rfl
  | succ q=>
   simp only[]
   rw[dlt (by omega),cond_true,rb_len,hl,gd (by omega),Int.toNat_natCast,rb_drop,f156_eq hk rows c _ hd (by omega) (by omega) (by omega)]
   rw[gcols]at hg
   cases hp:piv rows c c (rows.length-c)with
   | none=>
    rw[hp]at hg
    rw[←hg]
    rfl
   | some p=>
    rw[hp]at hg
    obtain⟨h1,h2,h3⟩:=piv_some hp
    have hcl:c<rows.length:=by omega
    have hpl:p<rows.length:=by omega
    have e1:w64 ((c:Int)+((p-c:Nat):Int))=(p:Int):=by
     rw[w64_id (by omega) (by omega)]
     omega
    simp only[]
    rw[dge (by omega),cond_false,e1,Int.toNat_natCast, ←hl]
    have hpg:(((List.range rows.length).set c p).set p c).getD c 0=p:=by
     have:=perm_getD hcl hpl hcl
     rwa[if_pos rfl]at this
    rw[gd (by omega),gd (by omega),gd (by omega)]
    simp only[List.length_set,List.length_range,hpg]
    rw[gd (by omega),gd (by omega),rb_getD,bs_len,hd p hpl,gd (by omega),bs_getD,f151_eq hk,if_neg (c:=(rows.getD p []).getD c 0=0) h3,gd (by omega),f158_eq hk _ _ (by rw[hd p hpl];omega),rb_set,
     show(rows.getD p []).getD c 0=mt rows p c from rfl,perm_st hcl hpl,gd (perm_ok hcl hpl (rb_len rows))]
    have hl1:=gst1_len rows c p
    have hd1:=gst1_wd hd hcl hpl
    refine lp_run2 (fun i rows'=>(rb rows',(ps.length:Int),(c:Int),(ps.length:Int),(c:Int),(rows.length:Int),(i:Int))) rows.length (lel1 c) (fun i rows'=>rows'.length=rows.length∧Wd rows' (ps.length+1)) (by omega) (a:=gst1 rows c p) ⟨hl1,hd1⟩ ?_ ?_
    ·rintro i rows' n3 hi ⟨hl',hd'⟩
     have hi':i<rows'.length:=by omega
     have hc':c<rows'.length:=by omega
     refine⟨?_,by rw[lel1_len,hl'],lel1_wd hd' hi'⟩
     simp only[]
     rw[dlt (by omega),cond_true,rb_len,gd (by omega),Int.toNat_natCast,rb_getD,bs_len,hd' i hi',gd (by omega),Int.toNat_natCast,bs_getD,show(rows'.getD i []).getD c 0=mt rows' i c from rfl]
     have e2:w64 ((i:Int)+1)=((i+1:Nat):Int):=w64_id (by omega) (by omega)
     unfold lel1
     by_cases hic:i=c
     ·rw[show((i:Int) !=(c:Int))=false by simp[hic],cond_false,cond_false,e2,if_pos hic]
     ·rw[show((i:Int) !=(c:Int))=true from bne_iff_ne.2 (by omega),cond_true,if_neg hic]
      by_cases h0:mt rows' i c=0
      ·rw[h0,show(ofG 0 !=(0:Int))=false from rfl,cond_false,e2,paddAt_zero _ _ _ (by rw[hd' i hi',hd' c hc'];omega),set_same (d:=[]) rfl hi']
      ·rw[bne_iff_ne.2 (fun h=>h0 (ofG_eq_zero.1 h)),cond_true,gd (by omega)]
       refine Eq.trans ?_ (congrArg (fun rr=>n3 (rb (rows'.set i rr),(ps.length:Int),(c:Int),(ps.length:Int),(c:Int),(rows.length:Int),((i+1:Nat):Int))) rfl)
       rw[show(rb rows',(ps.length:Int),(c:Int),(i:Int),ofG (mt rows' i c),(ps.length:Int),(c:Int),(rows.length:Int),(i:Int),((ps.length+1:Nat):Int),(0:Int))=
        (rb (rows'.set i (rows'.getD i [])),(ps.length:Int),(c:Int),(i:Int),ofG (mt rows' i c),(ps.length:Int),(c:Int),(rows.length:Int),(i:Int),((ps.length+1:Nat):Int),((0:Nat):Int)) by rw[set_same (d:=[]) rfl hi'];rfl]
       refine lp_run2 (fun j r=>(rb (rows'.set i r),(ps.length:Int),(c:Int),(i:Int),ofG (mt rows' i c),(ps.length:Int),(c:Int),(rows.length:Int),(i:Int),((ps.length+1:Nat):Int),(j:Int))) (ps.length+1)
        (fun j r=>r.set (0+j) (r.getD (0+j) 0^^^gmul (mt rows' i c) ((rows'.getD c []).getD j 0))) (fun j r=>r.length=ps.length+1) (by omega) (a:=rows'.getD i []) (hd' i hi') ?_ ?_
       ·intro j r n4 hj hr
        refine⟨?_,by rw[List.length_set,hr]⟩
        have eg:(rows'.set i r).getD i []=r:=by rw[getD_set,if_pos ⟨rfl,hi'⟩]
        have ec:(rows'.set i r).getD c []=rows'.getD c []:=by rw[getD_set,if_neg (by omega)]
        have hcl2:=hd' c hc'
        simp (disch:=omega) only[gd,w64_id,wu64_id,room,Int.toNat_natCast,bs_len,List.length_set,List.length_append,List.length_replicate,List.length_cons,List.length_nil,bs_getD,bs_set,ofG_xor,cond_true,cond_false,dlt,dge,dle,dgt,Bool.not_true,Bool.not_false,rb_len,rb_getD,eg,ec,hr,hcl2,f146_eq hk,rb_set,List.set_set,Nat.zero_add]
        rfl
       ·intro n4 hr
        simp only[]
        rw[dge (by omega),cond_false,e2]
        unfold paddAt
        rw[hd' c hc']
    ·intro n3 hI
     simp only[]
     rw[dge (by omega),cond_false,w64_id (by omega) (by omega)]
     have hlel:run (lel1 c) 0 rows.length (gst1 rows c p)=gst rows c p:=by
      unfold gst lel
      rw[hl1]
     rw[hlel]
     exact hn2 q _ (by omega) ⟨c+1,gst rows c p,by omega,rfl,by rw[gst_len,hl],gst_wd hd hcl hpl,hg⟩
end
section
variable {α:Type} {k:Nat}
theorem f181w_eq (hk:10000≤k) (rows0:List (List F8)) (w:Nat) (hw:w≤rows0.length) (hr0:rows0.length<100) (hd0:Wd rows0 (w+1)) (K:List Int→Bool→Option α):
  f181w k (rb rows0) (w:Int) (fun _ out ok=>K out ok)=match gauss rows0 w with|some out=>K (bs out) true|none=>K [] false:=by
 simp only[f181w,s181w,SumT.leaf,SumT.pre,SumT.seq,SumT.cond,SumT.block,SumT.blockP,SumT.loop,zB]
 refine lp_rule (fun q x=> ∃(c:Nat) (rows:List (List F8)),c+q=w∧x=(rb rows,(w:Int),(c:Int),(c:Int))∧rows.length=rows0.length∧Wd rows (w+1)∧
  ((gcols q c rows).bind fun r=>gfin r w)=gauss rows0 w) ?_ (m:=w) ⟨0,rows0,by omega,rfl,rfl,hd0,rfl⟩ (by omega)
 rintro q x n2 ⟨c,rows,hcq,rfl,hl,hd,hg⟩ hn2
 cases q with
 | zero=>
  obtain rfl:c=w:=by omega
  have hg:gfin rows c=gauss rows0 c:=hg
  simp only[]
  rw[dge (by omega),cond_false, ←hg]
  refine lp_run2 (fun i out=>(rb rows,(c:Int),bs out,(i:Int))) c (fun i out=>out++[mt rows i c]) (fun i out=>out.length=i) (by omega) (a:=[]) rfl ?_ ?_
  ·intro i out n3 hi hI
   refine⟨?_,by rw[List.length_append,hI];rfl⟩
   have hrow:=hd i (by omega)
   simp only[]
   rw[dlt (by omega),cond_true,rb_len,gd (by omega),Int.toNat_natCast,rb_getD,bs_len,hrow,gd (by omega),Int.toNat_natCast,bs_getD,bs_len,hI,gd (by simp;unfold room;omega),bs_snoc2,w64_id (by omega) (by omega)]
   rfl
  ·intro n3 hI
   simp only[]
   rw[dge (by omega),cond_false,run_snoc,List.nil_append]
   unfold gfin
   refine lp_rule (fun q x=> ∃i:Nat,c≤i∧i+q=rows.length∧x=(rb rows,(c:Int),bs ((List.range c).map fun k=>mt rows k c),(i:Int))∧
    gzero rows c i (rows.length-i)=gzero rows c c (rows.length-c)) ?_ (m:=rows.length-c) ⟨c,Nat.le_refl _,by omega,rfl,rfl⟩ (by omega)
   rintro q x n4 ⟨i,hci,hi,rfl,hz⟩ hn4
   rw[←hz]
   cases q with
   | zero=>
    simp only[]
    rw[rb_len,dge (by omega),cond_false,show rows.length-i=0 by omega]
    rfl
   | succ q=>
    have hrow:=hd i (by omega)
    simp only[]
    rw[rb_len,dlt (by omega),cond_true,gd (by omega),Int.toNat_natCast,rb_getD,bs_len,hrow,gd (by omega),Int.toNat_natCast,bs_getD,show(rows.getD i []).getD c 0=mt rows i c from rfl,
     show rows.length-i=(rows.length-(i+1))+1 by omega,gzero]
    by_cases h0:mt rows i c=0
    ·rw[h0,show(ofG 0 !=(0:Int))=false from rfl,cond_false,if_pos rfl,w64_id (by omega) (by omega)]
     have hz2:gzero rows c (i+1) (rows.length-(i+1))=gzero rows c c (rows.length-c):=by
      rw[←hz,show rows.length-i=(rows.length-(i+1))+1 by omega,gzero,if_pos h0]
     have:=hn4 q (rb rows,(c:Int),bs ((List.range c).map fun k=>mt rows k c),((i+1:Nat):Int)) (by omega) ⟨i+1,by omega,by omega,rfl,hz2⟩
     rw[←hz2]at this
     exact this
    ·rw[bne_iff_ne.2 (fun h=>h0 (ofG_eq_zero.1 h)),cond_true,if_neg h0]
     rfl
 | succ q=>
  simp only[]
  rw[dlt (by omega),cond_true]
  have hcl:c<rows.length:=by omega
  refine lp_rule (fun m x=> ∃i:Nat,c≤i∧i+m=rows.length∧x=(rb rows,(w:Int),(c:Int),(c:Int),(i:Int))∧piv rows c i m=piv rows c c (rows.length-c)) ?_ (m:=rows.length-c) ⟨c,Nat.le_refl _,by omega,rfl,rfl⟩ (by omega)
  rintro m x n3 ⟨i,hci,hi,rfl,hp⟩ hn3
  rw[gcols]at hg
  cases m with
  | zero=>
   simp only[]
   rw[rb_len,dge (by omega),cond_false,show((i:Int)==(rows.length:Int))=true by simp;omega,cond_true]
   rw[←hp]at hg
   rw[←hg]
   rfl
  | succ m=>
   have hrow:=hd i (by omega)
   simp only[]
   rw[rb_len,dlt (by omega),cond_true,gd (by omega),Int.toNat_natCast,rb_getD,bs_len,hrow,gd (by omega),Int.toNat_natCast,bs_getD,show(rows.getD i []).getD c 0=mt rows i c from rfl]
   rw[piv]at hp
   by_cases h3:mt rows i c=0
   ·rw[h3,show(ofG 0==(0:Int))=true from rfl,cond_true,w64_id (by omega) (by omega)]
    rw[if_neg (fun h=>h h3)]at hp
    exact hn3 m _ (by omega) ⟨i+1,by omega,by omega,rfl,hp⟩
   ·rw[if_pos h3]at hp
    rw[←hp]at hg
    have hpl:i<rows.length:=by omega
    have hpg:(((List.range rows.length).set c i).set i c).getD c 0=i:=by
     have:=perm_getD hcl hpl hcl
     rwa[if_pos rfl]at this
    rw[show(ofG (mt rows i c)==(0:Int))=false from beq_eq_false_iff_ne.2 fun h=>h3 (ofG_eq_zero.1 h),cond_false,show((i:Int)==(rows.length:Int))=false from beq_eq_false_iff_ne.2 (by omega),cond_false]
    rw[gd (by omega),gd (by omega),gd (by omega)]
    simp only[List.length_set,List.length_range,hpg]
    rw[gd (by omega),gd (by omega),rb_getD,bs_len,hrow,gd (by omega),bs_getD,show(rows.getD i []).getD c 0=mt rows i c from rfl,f133_eq hk _ h3,gd (perm_ok hcl hpl rfl),perm_sw hcl hpl]
    have hl1:=lsw_len rows c i
    have hd1:=lsw_wd hd hcl hpl
    have hg1:(lsw rows c i).getD c []=rows.getD i []:=by rw[lsw_getD _ _ _ _ hcl hpl,if_pos rfl]
    rw[show(rb (lsw rows c i),(w:Int),(c:Int),(c:Int),ofG (ginv (mt rows i c)),(0:Int))=(rb ((lsw rows c i).set c (rows.getD i [])),(w:Int),(c:Int),(c:Int),ofG (ginv (mt rows i c)),((0:Nat):Int)) by rw[set_same hg1 (by omega)];rfl]
    refine lp_run2 (fun j r=>(rb ((lsw rows c i).set c r),(w:Int),(c:Int),(c:Int),ofG (ginv (mt rows i c)),(j:Int))) (w+1) (fun j r=>r.set j (gmul (r.getD j 0) (ginv (mt rows i c)))) (fun j r=>r.length=w+1) (by omega) (a:=rows.getD i []) hrow ?_ ?_
    ·intro j r n4 hj hr
     refine⟨?_,by rw[List.length_set,hr]⟩
     have eg:((lsw rows c i).set c r).getD c []=r:=by rw[getD_set,if_pos ⟨rfl,by omega⟩]
     simp (disch:=omega) only[gd,w64_id,wu64_id,room,Int.toNat_natCast,bs_len,List.length_set,List.length_append,List.length_replicate,List.length_cons,List.length_nil,bs_getD,bs_set,ofG_xor,cond_true,cond_false,dlt,dge,dle,dgt,Bool.not_true,Bool.not_false,rb_len,rb_getD,eg,hl1,hr,f131_eq hk,rb_set,List.set_set]
     rfl
    ·intro n4 _
     simp only[]
     rw[dgt (by omega),cond_false]
     have hscl:run (fun j r=>r.set j (gmul (r.getD j 0) (ginv (mt rows i c)))) 0 (w+1) (rows.getD i [])=scl (rows.getD i []) (ginv (mt rows i c)):=by
      unfold scl
      rw[hrow]
     rw[hscl,show(lsw rows c i).set c (scl (rows.getD i []) (ginv (mt rows i c)))=gst1 rows c i from rfl]
     have hl1:=gst1_len rows c i
     have hd1:=gst1_wd hd hcl hpl
     refine lp_run2 (fun j rows'=>(rb rows',(w:Int),(c:Int),(c:Int),(j:Int))) rows.length (lel1 c) (fun i rows'=>rows'.length=rows.length∧Wd rows' (w+1)) (by omega) (a:=gst1 rows c i) ⟨hl1,hd1⟩ ?_ ?_
     ·rintro j rows' n5 hj ⟨hl',hd'⟩
      have hj':j<rows'.length:=by omega
      have hc':c<rows'.length:=by omega
      refine⟨?_,by rw[lel1_len,hl'],lel1_wd hd' hj'⟩
      simp only[]
      have e2:w64 ((j:Int)+1)=((j+1:Nat):Int):=w64_id (by omega) (by omega)
      rw[rb_len,dlt (by omega),cond_true,rb_getD,Int.toNat_natCast,Int.toNat_natCast,bs_len,hd' j hj',bs_getD,show(rows'.getD j []).getD c 0=mt rows' j c from rfl]
      unfold lel1
      by_cases hic:j=c
      ·rw[show((j:Int)==(c:Int))=true by simp[hic],cond_true,e2,if_pos hic]
      ·rw[show((j:Int)==(c:Int))=false from beq_eq_false_iff_ne.2 (by omega),cond_false,if_neg hic,gd (by omega),gd (by omega)]
       by_cases h0:mt rows' j c=0
       ·rw[h0,show(ofG 0==(0:Int))=true from rfl,cond_true,e2,paddAt_zero _ _ _ (by rw[hd' j hj',hd' c hc'];omega),set_same (d:=[]) rfl hj']
       ·rw[show(ofG (mt rows' j c)==(0:Int))=false from beq_eq_false_iff_ne.2 fun h=>h0 (ofG_eq_zero.1 h),cond_false,gd (by omega),gd (by omega)]
        rw[show(rb rows',(w:Int),(c:Int),(c:Int),(j:Int),ofG (mt rows' j c),(0:Int))=(rb (rows'.set j (rows'.getD j [])),(w:Int),(c:Int),(c:Int),(j:Int),ofG (mt rows' j c),((0:Nat):Int)) by rw[set_same (d:=[]) rfl hj'];rfl]
        refine lp_run2 (fun t r=>(rb (rows'.set j r),(w:Int),(c:Int),(c:Int),(j:Int),ofG (mt rows' j c),(t:Int))) (w+1)
         (fun t r=>r.set (0+t) (r.getD (0+t) 0^^^gmul (mt rows' j c) ((rows'.getD c []).getD t 0))) (fun t r=>r.length=w+1) (by omega) (a:=rows'.getD j []) (hd' j hj') ?_ ?_
        ·intro t r n6 ht hr
         refine⟨?_,by rw[List.length_set,hr]⟩
         have eg:(rows'.set j r).getD j []=r:=by rw[getD_set,if_pos ⟨rfl,hj'⟩]
         have ec:(rows'.set j r).getD c []=rows'.getD c []:=by rw[getD_set,if_neg (by omega)]
         have hcl2:=hd' c hc'
         simp (disch:=omega) only[gd,w64_id,wu64_id,room,Int.toNat_natCast,bs_len,List.length_set,List.length_append,List.length_replicate,List.length_cons,List.length_nil,bs_getD,bs_set,ofG_xor,cond_true,cond_false,dlt,dge,dle,dgt,Bool.not_true,Bool.not_false,rb_len,rb_getD,eg,ec,hr,hcl2,f131_eq hk,rb_set,List.set_set,Nat.zero_add]
         rfl
        ·intro n6 hr
         simp only[]
         rw[dgt (by omega),cond_false,e2]
         unfold paddAt
         rw[hd' c hc']
     ·rintro n5 ⟨hl2,_⟩
      simp only[]
      rw[rb_len,hl2,dge (by omega),cond_false,w64_id (by omega) (by omega)]
      have hlel:run (lel1 c) 0 rows.length (gst1 rows c i)=gst rows c i:=by
       unfold gst lel
       rw[hl1]
      rw[hlel]
      exact hn2 q _ (by omega) ⟨c+1,gst rows c i,by omega,rfl,by rw[gst_len,hl],gst_wd hd hcl hpl,hg⟩
end
structure BM where
 now:List F8
 old:List F8
 L:Nat
 gap:Nat
 last:F8
def dis (s now:List F8) (kk:Nat):F8:=run (fun i d=>if i≤kk then d^^^gmul (now.getD i 0) (s.getD (kk-i) 0)else d) 0 now.length 0
def bmNext (now old:List F8) (gap:Nat) (t:F8):List F8:=paddAt (now++List.replicate (gap+old.length-now.length) 0) old t gap
def bm1 (s:List F8) (kk:Nat) (b:BM):BM:=
 if dis s b.now kk=0 then { b with gap:=b.gap+1 }
 else if 2*b.L>kk then { b with now:=bmNext b.now b.old b.gap (gmul (dis s b.now kk) (ginv b.last)),gap:=b.gap+1 }
 else { now:=bmNext b.now b.old b.gap (gmul (dis s b.now kk) (ginv b.last)),old:=b.now,L:=kk+1-b.L,gap:=1,last:=dis s b.now kk }
def bm0:BM:={ now:=[1],old:=[1],L:=0,gap:=1,last:=1 }
def bmAt (s:List F8) (n:Nat):BM:=run (bm1 s) 0 n bm0
theorem bmAt_succ (s:List F8) (n:Nat):bmAt s (n+1)=bm1 s n (bmAt s n):=by
 unfold bmAt
 rw[run_succ,Nat.zero_add]
def shortest (s:List F8):List F8:=((bmAt s s.length).now++List.replicate ((bmAt s s.length).L+1-(bmAt s s.length).now.length) 0).take ((bmAt s s.length).L+1)
abbrev at0 (l:List F8):Nat→F8:=fun i=>l.getD i 0
theorem run_gsum (f:Nat→F8) (kk:Nat): ∀n,n≤kk+1→run (fun i d=>if i≤kk then d^^^f i else d) 0 n 0=gsum n f
 | 0,_=>rfl
 | n+1,h=>by rw[run_succ,run_gsum f kk n (by omega),Nat.zero_add,if_pos (by omega)];rfl
theorem dis_gsum {s now:List F8} {L kk:Nat} (h:now.length≤L+1) (hl:L≤kk):dis s now kk=gsum (L+1) fun j=>gmul (at0 now j) (at0 s (kk-j)):=by
 unfold dis
 rw[run_gsum _ _ _ (by omega),gsum_ext (n:=now.length) (m:=L+1) h]
 intro i h1 h2
 show gmul (now.getD i 0) _=0
 rw[getD_ge _ _ _ h1,zero_gmul]
theorem bmNext_len (now old:List F8) (gap:Nat) (t:F8):(bmNext now old gap t).length=max now.length (gap+old.length):=by
 unfold bmNext
 rw[paddAt_len,List.length_append,List.length_replicate]
 omega
theorem bmNext_getD (now old:List F8) (gap:Nat) (t:F8) (j:Nat):at0 (bmNext now old gap t) j=at0 now j^^^(if gap≤j then gmul t (at0 old (j-gap))else 0):=by
 show(bmNext now old gap t).getD j 0=_
 unfold bmNext
 rw[paddAt_getD _ _ _ _ _ (by rw[List.length_append,List.length_replicate];omega),getD_append,getD_rep]
 have h1:(if j<now.length then now.getD j 0 else 0)=at0 now j:=by
  split
  ·rfl
  ·exact(getD_ge _ _ _ (by omega)).symm
 rw[h1]
 congr 1
 by_cases h2:gap≤j
 ·rw[if_pos h2]
  by_cases h3:j<gap+old.length
  ·rw[if_pos ⟨h2,h3⟩]
  ·rw[if_neg (by omega),show at0 old (j-gap)=0 from getD_ge _ _ _ (by omega),gmul_zero]
 ·rw[if_neg (by omega),if_neg h2]
structure BMI (s:List F8) (kk:Nat) (b:BM):Prop where
 now0:at0 b.now 0=1
 nowl:b.now.length≤b.L+1
 Lk:b.L≤kk
 gen:Gn (at0 s) (at0 b.now) b.L kk
 lne:b.last≠0
 alt:(b.L=0∧b.old=[1]∧b.gap=kk+1)∨ ∃kB LB,b.old.length≤LB+1∧Gn (at0 s) (at0 b.old) LB kB∧LB≤kB∧
  gsum (LB+1) (fun j=>gmul (at0 b.old j) (at0 s (kB-j)))=b.last∧kB<kk∧b.gap+kB=kk∧b.L+LB=kB+1
theorem bmi0 (s:List F8):BMI s 0 bm0:=⟨rfl,Nat.le_refl _,Nat.le_refl _,fun i _ h=>by omega,by decide, .inl ⟨rfl,rfl,rfl⟩⟩
theorem next_sum {s now old:List F8} {gap L L' i LB:Nat} (t:F8) (hn:now.length≤L+1) (hL:L≤L') (ho:old.length≤LB+1) (hg:gap+LB≤L'):
  gsum (L'+1) (fun j=>gmul (at0 (bmNext now old gap t) j) (at0 s (i-j)))=gsum (L+1) (fun j=>gmul (at0 now j) (at0 s (i-j)))^^^gmul t (gsum (LB+1) fun j=>gmul (at0 old j) (at0 s (i-gap-j))):=by
 rw[show gsum (L'+1) (fun j=>gmul (at0 (bmNext now old gap t) j) (at0 s (i-j)))=gsum (L'+1) (fun j=>gmul (at0 now j) (at0 s (i-j))^^^(if gap≤j then gmul t (gmul (at0 old (j-gap)) (at0 s (i-gap-(j-gap))))else 0))from gsum_congr fun j _=>by
  rw[bmNext_getD,add_gmul]
  congr 1
  split
  ·rw[gmul_assoc]
   congr 3
   omega
  ·rw[zero_gmul],gsum_add]
 congr 1
 ·refine gsum_ext (by omega) fun j h1 h2=>?_
  rw[show at0 now j=0 from getD_ge _ _ _ (by omega),zero_gmul]
 ·rw[show L'+1=gap+(L'+1-gap) by omega,gsum_shift (fun j=>gmul t (gmul (at0 old j) (at0 s (i-gap-j)))),gsum_mul]
  congr 1
  refine gsum_ext (by omega) fun j h1 h2=>?_
  rw[show at0 old j=0 from getD_ge _ _ _ (by omega),zero_gmul]
theorem bmi_step {s:List F8} {kk:Nat} {b:BM} (h:BMI s kk b):BMI s (kk+1) (bm1 s kk b):=by
 have hd:=dis_gsum (s:=s) h.nowl h.Lk
 unfold bm1
 by_cases h0:dis s b.now kk=0
 ·rw[if_pos h0]
  refine⟨h.now0,h.nowl,by have:=h.Lk;show b.L≤kk+1;omega,fun i h1 h2=>?_,h.lne,?_⟩
  ·by_cases e:i=kk
   ·subst e
    rw[←hd,h0]
   ·exact h.gen i h1 (by omega)
  ·rcases h.alt with ⟨h1,h2,h3⟩|⟨kB,LB,h1,h2,h3,h4,h5,h6,h7⟩
   ·exact .inl ⟨h1,h2,by show b.gap+1=_;omega⟩
   ·exact .inr ⟨kB,LB,h1,h2,h3,h4,by omega,by show b.gap+1+kB=_;omega,h7⟩
 ·rw[if_neg h0]
  have hnow: ∀t,at0 (bmNext b.now b.old b.gap t) 0=1:=fun t=>by
   rw[bmNext_getD,h.now0,if_neg,x0]
   rcases h.alt with ⟨_,_,h3⟩|⟨kB,LB,_,_,_,_,h5,h6,_⟩<;>omega
  by_cases h2L:2*b.L>kk
  ·rw[if_pos h2L]
   have hLk:=h.Lk
   rcases h.alt with ⟨h1,_,_⟩|⟨kB,LB,h1,h2,h3,h4,h5,h6,h7⟩
   ·omega
   refine⟨hnow _,?_,by show b.L≤kk+1;omega,fun i hi1 hi2=>?_,h.lne, .inr ⟨kB,LB,h1,h2,h3,h4,by omega,by show b.gap+1+kB=_;omega,h7⟩⟩
   ·show(bmNext _ _ _ _).length≤b.L+1
    rw[bmNext_len]
    have:=h.nowl
    omega
   ·have hi1:b.L≤i:=hi1
    show gsum (b.L+1) _=0
    rw[next_sum _ h.nowl (Nat.le_refl _) h1 (by omega)]
    by_cases e:i=kk
    ·subst e
     rw[←hd,show i-b.gap=kB by omega,h4,gmul_assoc,ginv_gmul h.lne,gmul_one,xx]
    ·rw[h.gen i hi1 (by omega),h2 (i-b.gap) (by omega) (by omega),gmul_zero,xx]
  ·rw[if_neg h2L]
   have hLk:=h.Lk
   refine⟨hnow _,?_,by show kk+1-b.L≤kk+1;omega,fun i hi1 hi2=>?_,h0, .inr ⟨kk,b.L,h.nowl,h.gen,h.Lk,hd.symm,by omega,by show 1+kk=_;omega,by show kk+1-b.L+b.L=_;omega⟩⟩
   ·show(bmNext _ _ _ _).length≤kk+1-b.L+1
    rw[bmNext_len]
    have:=h.nowl
    rcases h.alt with ⟨h1,h2,h3⟩|⟨kB,LB,h1,h2,h3,h4,h5,h6,h7⟩
    ·rw[h2,h3]
     simp
     omega
    ·omega
   ·have hi1:kk+1-b.L≤i:=hi1
    show gsum (kk+1-b.L+1) _=0
    rcases h.alt with ⟨h1,_,_⟩|⟨kB,LB,h1,h2,h3,h4,h5,h6,h7⟩
    ·omega
    rw[next_sum _ h.nowl (by omega) h1 (by omega)]
    by_cases e:i=kk
    ·subst e
     rw[←hd,show i-b.gap=kB by omega,h4,gmul_assoc,ginv_gmul h.lne,gmul_one,xx]
    ·rw[h.gen i (by omega) (by omega),h2 (i-b.gap) (by omega) (by omega),gmul_zero,xx]
theorem bmi_at (s:List F8): ∀n,BMI s n (bmAt s n)
 | 0=>bmi0 s
 | n+1=>by rw[bmAt_succ];exact bmi_step (bmi_at s n)
theorem bmi_least {s:List F8} {kk:Nat} {b:BM} (h:BMI s kk b):Least (at0 s) kk b.L:=fun C' L' h0 hg=>by
 rcases h.alt with ⟨h1,_,_⟩|⟨kB,LB,h1,h2,h3,h4,h5,h6,h7⟩
 ·omega
 ·have:=massey h2 (by rw[h4];exact h.lne) (hg.le (by omega:kB+1≤kk)) h0
  omega
theorem shortest_spec (s:List F8): ∃L,(shortest s).length=L+1∧L≤s.length∧at0 (shortest s) 0=1∧Gn (at0 s) (at0 (shortest s)) L s.length∧Least (at0 s) s.length L:=by
 have h:=bmi_at s s.length
 have hl:=h.nowl
 have hg: ∀j,j≤(bmAt s s.length).L→at0 (shortest s) j=at0 (bmAt s s.length).now j:=fun j hj=>by
  show(shortest s).getD j 0=_
  unfold shortest
  rw[getD_take,if_pos (by omega),getD_append,getD_rep]
  split
  ·rfl
  ·exact(getD_ge _ _ _ (by omega)).symm
 refine⟨(bmAt s s.length).L,?_,h.Lk,?_,fun i h1 h2=>?_,bmi_least h⟩
 ·unfold shortest
  rw[List.length_take,List.length_append,List.length_replicate]
  omega
 ·rw[hg 0 (by omega),h.now0]
 ·rw[←h.gen i h1 h2]
  exact gsum_congr fun j hj=>by rw[hg j (by omega)]
theorem bmi_gap {s:List F8} {kk:Nat} {b:BM} (h:BMI s kk b):b.gap≤kk+1∧b.old.length≤kk+1∧1≤b.gap:=by
 rcases h.alt with ⟨h1,h2,h3⟩|⟨kB,LB,h1,h2,h3,h4,h5,h6,h7⟩
 ·rw[h2,h3]
  simp
 ·omega
section
variable {α:Type} {k:Nat}
theorem f149_eq (hk:10000≤k) (s:List F8) (hs:s.length<100) (K:List Int→Option α):f149 k (bs s) K=K (bs (shortest s)):=by
 simp only[f149,s149,SumT.leaf,SumT.pre,SumT.seq,SumT.cond,SumT.block,SumT.blockP,SumT.loop,zB]
 rw[bs_len,show(bs s,([1]:List Int),([1]:List Int),(0:Int),(1:Int),(1:Int),(s.length:Int),(0:Int))=(bs s,bs bm0.now,bs bm0.old,(bm0.L:Int),(bm0.gap:Int),ofG bm0.last,(s.length:Int),((0:Nat):Int))from rfl]
 refine lp_run2 (j:=k) (fun i b=>(bs s,bs b.now,bs b.old,(b.L:Int),(b.gap:Int),ofG b.last,(s.length:Int),(i:Int))) s.length (bm1 s) (fun i b=>BMI s i b) (by omega) (a:=bm0) (bmi0 s) ?_ ?_
 ·intro kk b n hkk hI
  refine⟨?_,bmi_step hI⟩
  have hnl:=hI.nowl
  have hLk:=hI.Lk
  obtain⟨hg1,hg2,hg3⟩:=bmi_gap hI
  simp only[]
  rw[dlt (by omega),cond_true,bs_len]
  refine lp_run2 (fun i d=>(bs s,bs b.now,bs b.old,(b.L:Int),(b.gap:Int),ofG b.last,(kk:Int),ofG d,(s.length:Int),(kk:Int),(b.now.length:Int),(i:Int))) b.now.length
   (fun i d=>if i≤kk then d^^^gmul (b.now.getD i 0) (s.getD (kk-i) 0)else d) (fun _ _=>True) (by omega) (a:=0) trivial ?_ ?_
  ·intro i d n2 hi _
   refine⟨?_,trivial⟩
   have e1:w64 ((kk:Int)-(i:Int))=((kk-i:Nat):Int):=by
    rw[w64_id (by omega) (by omega)]
    omega
   simp (disch:=omega) only[gd,w64_id,wu64_id,room,Int.toNat_natCast,bs_len,List.length_set,List.length_append,List.length_replicate,List.length_cons,List.length_nil,bs_getD,bs_set,ofG_xor,cond_true,cond_false,dlt,dge,dle,dgt,Bool.not_true,Bool.not_false,e1,f146_eq hk]
   rw[if_pos (by omega)]
   rfl
  ·intro n2 _
   rw[show run (fun i d=>if i≤kk then d^^^gmul (b.now.getD i 0) (s.getD (kk-i) 0)else d) 0 b.now.length 0=dis s b.now kk from rfl]
   unfold bm1
   simp only[]
   rw[dge (by omega),cond_false]
   by_cases h0:dis s b.now kk=0
   ·rw[h0,show(ofG 0==(0:Int))=true from rfl,cond_true,if_pos rfl,w64_id (by omega) (by omega),w64_id (by omega) (by omega)]
    rfl
   ·rw[show(ofG (dis s b.now kk)==(0:Int))=false from beq_eq_false_iff_ne.2 fun h=>h0 (ofG_eq_zero.1 h),cond_false,if_neg h0,f176_eq hk _ _ hI.lne]
    unfold cloneF
    have e1:w64 ((b.gap:Int)+((b.old.length:Nat):Int))=((b.gap+b.old.length:Nat):Int):=w64_id (by omega) (by omega)
    have e2:maxI 0 (w64 (((b.gap+b.old.length:Nat):Int)-((b.now.length:Nat):Int)))=((b.gap+b.old.length-b.now.length:Nat):Int):=by
     rw[w64_id (by omega) (by omega)]
     unfold maxI
     split<;>omega
    simp only[bs_len,e1,e2,Int.toNat_natCast,bs_rep,List.length_replicate,bs_append]
    rw[gd (by unfold room;omega),gd (by unfold room;omega),gd (by unfold room;omega)]
    generalize ht:gmul (dis s b.now kk) (ginv b.last)=t
    have hcat:(b.now++List.replicate (b.gap+b.old.length-b.now.length) 0).length=max b.now.length (b.gap+b.old.length):=by simp;omega
    refine lp_run2 (fun i nx=>(bs s,bs b.now,bs b.old,(b.L:Int),(b.gap:Int),ofG b.last,(kk:Int),ofG (dis s b.now kk),ofG t,bs nx,(s.length:Int),(kk:Int),(b.old.length:Int),(i:Int))) b.old.length
     (fun i p=>p.set (b.gap+i) (p.getD (b.gap+i) 0^^^gmul t (b.old.getD i 0))) (fun _ nx=>nx.length=max b.now.length (b.gap+b.old.length)) (by omega) (a:=b.now++List.replicate (b.gap+b.old.length-b.now.length) 0) hcat ?_ ?_
    ·intro i nx n3 hi hI3
     refine⟨?_,by rw[List.length_set,hI3]⟩
     have e3:w64 ((i:Int)+(b.gap:Int))=((b.gap+i:Nat):Int):=by
      rw[w64_id (by omega) (by omega)]
      omega
     simp (disch:=omega) only[gd,w64_id,wu64_id,room,Int.toNat_natCast,bs_len,List.length_set,List.length_append,List.length_replicate,List.length_cons,List.length_nil,bs_getD,bs_set,ofG_xor,cond_true,cond_false,dlt,dge,dle,dgt,Bool.not_true,Bool.not_false,e3,hI3,f146_eq hk]
     rfl
    ·intro n3 _
     rw[show run (fun i p=>p.set (b.gap+i) (p.getD (b.gap+i) 0^^^gmul t (b.old.getD i 0))) 0 b.old.length (b.now++List.replicate (b.gap+b.old.length-b.now.length) 0)=bmNext b.now b.old b.gap t from rfl]
     have e4:w64 (2*(b.L:Int))=2*(b.L:Int):=w64_id (by omega) (by omega)
     have e5:w64 ((kk:Int)+1)=(kk:Int)+1:=w64_id (by omega) (by omega)
     simp only[e4,e5]
     rw[dge (by omega),cond_false]
     by_cases h2L:2*b.L>kk
     ·rw[decide_eq_true (by omega),cond_true,if_pos h2L,w64_id (by omega) (by omega)]
      rfl
     ·rw[decide_eq_false (by omega),cond_false,if_neg h2L,w64_id (by omega) (by omega),show(kk:Int)+1-(b.L:Int)=((kk+1-b.L:Nat):Int) by omega]
      rfl
 ·intro n hI
  rw[show run (bm1 s) 0 s.length bm0=bmAt s s.length from rfl]at hI ⊢
  have hnl:=hI.nowl
  have hLk:=hI.Lk
  simp only[]
  rw[dge (by omega),cond_false]
  have e1:w64 (((bmAt s s.length).L:Int)+1)=(((bmAt s s.length).L+1:Nat):Int):=w64_id (by omega) (by omega)
  have e2:maxI 0 (w64 ((((bmAt s s.length).L+1:Nat):Int)-(((bmAt s s.length).now.length:Nat):Int)))=(((bmAt s s.length).L+1-(bmAt s s.length).now.length:Nat):Int):=by
   rw[w64_id (by omega) (by omega)]
   unfold maxI
   split<;>omega
  simp only[bs_len,e1,e2,Int.toNat_natCast,bs_rep,List.length_replicate,bs_append,List.length_append]
  rw[gd (by unfold room;omega),gd (by unfold room;omega),gd (by omega),bs_take]
  rfl
end
end Go.Proofs.YtkeiedikiiccpaaGreatDoor.Am
