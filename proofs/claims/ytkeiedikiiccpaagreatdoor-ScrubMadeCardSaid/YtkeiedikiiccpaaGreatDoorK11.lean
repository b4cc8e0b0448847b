/- A part of the proof of ScrubMade: lemmas. No conditions beyond those of each lemma. -/
import Derived.Test.YtkeiedikiiccpaaGreatDoorK9
import Derived.Test.YtkeiedikiiccpaaGreatDoorK10
set_option linter.all false
namespace Go.Proofs.YtkeiedikiiccpaaGreatDoor.Am
open Go
set_option maxRecDepth 100000
noncomputable def d60:Dec DT4:=d1 (dS T4)
noncomputable def S60_1:((List Int))→St:=fun x1=>stC [(2, .ptr 0 0 0)] [.L tI (x1:List Int)]
noncomputable def e60 (k:Nat):List (Nat×List Nat×Spec):=[]
noncomputable def h60:H:=(hr (hr (.n [.kp [2]] [] .d .d)))
noncomputable def s60 (k:Nat):SumT (mkE (e60 k)) 0 k (bodyOf Tryz.f60) h60 [.kp [2]] d60.St S60_1 S60_1 q0:=
 .leaf fun x1 N R Z=>R [x1.1,x1.2.1,x1.2.2.1,x1.2.2.2.1,x1.2.2.2.2.1,x1.2.2.2.2.2]
noncomputable def f60 {α:Type} (k:Nat) (x1:DT4) (K:(List Int)→Option α):Option α:=
  (s60 k).F x1 (fun x2=>if 0+6≤x2.length then(K x2)else none) (fun x2=>if 0+6≤x2.length then(K x2)else none) fun z=>nomatch z
noncomputable def o60:((List Int))→FRes:=fun x1=>{ ret:= .agg (.cn (pI (x1.getD 0 (0:Int))) (.cn (pI (x1.getD 1 (0:Int))) (.cn (pI (x1.getD 2 (0:Int))) (.cn (pI (x1.getD 3 (0:Int))) (.cn (pI (x1.getD 4 (0:Int))) (.cn (pI (x1.getD 5 (0:Int))) .e0)))))),objs:=[] }
noncomputable def p60 (k:Nat):Spec:={ own:=[false],run:=fun a o K=>(d60.dec a o).bind fun x=>f60 k x fun x2=>K (o60 x2) }
theorem i60 (k:Nat):Impl Tryz.prog glTab 60 (p60 k):=
  .of w0 (l:=e60 k) trivial (s60 k) (d1_ok (dS_ok T4)) _ fun x2 K=>if 0+6≤x2.length then(K (o60 x2))else none
noncomputable def S37_1:Bool→St:=fun x1=>stC [(2,pB x1)] []
noncomputable def S37_2:((List Int)×Int×Int)→St:=fun(x1,x2,x3)=>stC [(3, .ptr 0 0 0),(4,pI x2),(5,pI x3)] [.L tI (x1:List Int)]
noncomputable def S37_4:Int→St:=fun x1=>stC [(4,pI x1)] []
noncomputable def S37_5:((List Int)×Int)→St:=fun(x1,x2)=>stC [(3, .ptr 0 0 0),(4,pI x2)] [.L tI (x1:List Int)]
noncomputable def e37 (k:Nat):List (Nat×List Nat×Spec):=[(60,[],p60 k)]
noncomputable def h37:H:=(hr (hr (.n [] [.kp [3,4]] .d (.n [] [.kp [4]] (.n [] [.kp [3,4,5]] .d (.n [] [.kp [4]] (.n [.kp [3,4,5]] [.kp [3,4,5]] (hb (hr (hr (.n [.kp [4]] [] .d .d))) (hl (hl (hl (hr (hl (hr (.n [.kp [2]] [] .d .d)))))))) .d) .d)) (hr (.n [.kp [2]] [] .d .d))))))
noncomputable def s37 (k:Nat):SumT (mkE (e37 k)) 0 k (bodyOf Tryz.f37) h37 [.kp [2]] d60.St S37_1 S37_1 q0:=
 .pre 3 S37_5 (fun x1 N R Z=>f60 k x1 fun x2=>N ([x2.getD 0 (0:Int),x2.getD 1 (0:Int),x2.getD 2 (0:Int),x2.getD 3 (0:Int),x2.getD 4 (0:Int),x2.getD 5 (0:Int)],0))
 (.seq S37_4
 (.pre 1 S37_2 (fun(x3,x4) N R Z=>N (x3,x4,0))
  (.blockP (.loop S37_2 (fun x=>x)
  (.leaf fun(x8,x9,x10) N R Z=>bif decide (x10<6)then(if 0≤x10∧x10<(6:Int)then(if(x10.toNat)+0<x8.length then(bif decide (x8.getD ((x10.toNat)+0) (0:Int)<0)then(R false)else(if 0≤x10∧x10<(6:Int)then(if(x10.toNat)+0<x8.length then(bif decide (x8.getD ((x10.toNat)+0) (0:Int)>12)then(R false)else(if 0≤x10∧x10<(6:Int)then(if(x10.toNat)+0<x8.length then(N (x8,w64 (x9+(x8.getD ((x10.toNat)+0) (0:Int))),w64 (x10+1)))else none)else none))else none)else none))else none)else none)else(Z (.inl x9))))))
 (.leaf fun x12 N R Z=>R (decide (x12≤12))))
noncomputable def f37 {α:Type} (k:Nat) (x1:DT4) (K:Bool→Option α):Option α:=
  (s37 k).F x1 (fun x11=>K x11) (fun x11=>K x11) fun z=>nomatch z
noncomputable def o37:Bool→FRes:=fun x1=>{ ret:=pB x1,objs:=[] }
noncomputable def p37 (k:Nat):Spec:={ own:=[false],run:=fun a o K=>(d60.dec a o).bind fun x=>f37 k x fun x11=>K (o37 x11) }
theorem i37 (k:Nat):Impl Tryz.prog glTab 37 (p37 k):=
  .of w0 (l:=e37 k) ⟨i60 k,trivial⟩ (s37 k) (d1_ok (dS_ok T4)) _ fun x11 K=>K (o37 x11)
noncomputable def d78:Dec DT5:=d1 (dS T5)
noncomputable def e78 (k:Nat):List (Nat×List Nat×Spec):=[]
noncomputable def h78:H:=(hr (hb (hr (hl (hr (hb (hr (.n [.kp [2]] [] .d .d)) (hr (hl (hr (.n [.kp [2]] [] .d .d)))))))) (hr (.n [.kp [2]] [] .d .d))))
noncomputable def s78 (k:Nat):SumT (mkE (e78 k)) 0 k (bodyOf Tryz.f78) h78 [.kp [2]] d78.St S37_1 S37_1 q0:=
 .leaf fun x1 N R Z=>bif x1.1==1 then(bif x1.2.1==8 then(bif x1.2.2.1==1 then(R (x1.2.2.2==1))else(R false))else(R false))else(bif x1.1==2 then(bif decide (x1.2.1≥1)then(bif decide (x1.2.1≤32)then(bif decide (x1.2.2.1≥1)then(bif decide (x1.2.2.1≤8)then(bif decide (x1.2.2.2≥0)then(R (decide (x1.2.2.2≤w64 (Int.tdiv x1.2.2.1 2))))else(R false))else(R false))else(R false))else(R false))else(R false))else(R false))
noncomputable def f78 {α:Type} (k:Nat) (x1:DT5) (K:Bool→Option α):Option α:=
  (s78 k).F x1 (fun x2=>K x2) (fun x2=>K x2) fun z=>nomatch z
noncomputable def p78 (k:Nat):Spec:={ own:=[false],run:=fun a o K=>(d78.dec a o).bind fun x=>f78 k x fun x2=>K (o37 x2) }
theorem i78 (k:Nat):Impl Tryz.prog glTab 78 (p78 k):=
  .of w0 (l:=e78 k) trivial (s78 k) (d1_ok (dS_ok T5)) _ fun x2 K=>K (o37 x2)
noncomputable def S16_1:Int→St:=fun x1=>stC [(2,pI x1)] []
noncomputable def e16 (k:Nat):List (Nat×List Nat×Spec):=[]
noncomputable def h16:H:=(hr (hr (.n [.kp [2]] [] .d .d)))
noncomputable def s16 (k:Nat):SumT (mkE (e16 k)) 0 k (bodyOf Tryz.f16) h16 [.kp [2]] d78.St S16_1 S16_1 q0:=
 .leaf fun x1 N R Z=>R (w64 (x1.2.1+x1.2.2.1))
noncomputable def f16 {α:Type} (k:Nat) (x1:DT5) (K:Int→Option α):Option α:=
  (s16 k).F x1 (fun x2=>K x2) (fun x2=>K x2) fun z=>nomatch z
noncomputable def o16:Int→FRes:=fun x1=>{ ret:=pI x1,objs:=[] }
noncomputable def p16 (k:Nat):Spec:={ own:=[false],run:=fun a o K=>(d78.dec a o).bind fun x=>f16 k x fun x2=>K (o16 x2) }
theorem i16 (k:Nat):Impl Tryz.prog glTab 16 (p16 k):=
  .of w0 (l:=e16 k) trivial (s16 k) (d1_ok (dS_ok T5)) _ fun x2 K=>K (o16 x2)
noncomputable def e38 (k:Nat):List (Nat×List Nat×Spec):=[(60,[],p60 k)]
noncomputable def h38:H:=(hr (hr (.n [] [.kp [3,4]] .d (.n [] [.kp [4]] (.n [] [.kp [3,4,5]] .d (.n [] [.kp [4]] (.n [.kp [3,4,5]] [.kp [3,4,5]] (hl (hr (hr (.n [.kp [4]] [] .d .d)))) .d) .d)) (hr (.n [.kp [2]] [] .d .d))))))
noncomputable def s38 (k:Nat):SumT (mkE (e38 k)) 0 k (bodyOf Tryz.f38) h38 [.kp [2]] d60.St S16_1 S16_1 q0:=
 .pre 3 S37_5 (fun x1 N R Z=>f60 k x1 fun x2=>N ([x2.getD 0 (0:Int),x2.getD 1 (0:Int),x2.getD 2 (0:Int),x2.getD 3 (0:Int),x2.getD 4 (0:Int),x2.getD 5 (0:Int)],0))
 (.seq S37_4
 (.pre 1 S37_2 (fun(x3,x4) N R Z=>N (x3,x4,0))
  (.blockP (.loop S37_2 (fun x=>x)
  (.leaf fun(x8,x9,x10) N R Z=>bif decide (x10<6)then(if 0≤x10∧x10<(6:Int)then(if(x10.toNat)+0<x8.length then(N (x8,w64 (x9+(x8.getD ((x10.toNat)+0) (0:Int))),w64 (x10+1)))else none)else none)else(Z (.inl x9))))))
 (.leaf fun x11 N R Z=>R x11))
noncomputable def f38 {α:Type} (k:Nat) (x1:DT4) (K:Int→Option α):Option α:=
  (s38 k).F x1 (fun x12=>K x12) (fun x12=>K x12) fun z=>nomatch z
noncomputable def p38 (k:Nat):Spec:={ own:=[false],run:=fun a o K=>(d60.dec a o).bind fun x=>f38 k x fun x12=>K (o16 x12) }
theorem i38 (k:Nat):Impl Tryz.prog glTab 38 (p38 k):=
  .of w0 (l:=e38 k) ⟨i60 k,trivial⟩ (s38 k) (d1_ok (dS_ok T4)) _ fun x12 K=>K (o16 x12)
noncomputable def e13 (k:Nat):List (Nat×List Nat×Spec):=[(37,[],p37 k),(38,[],p38 k)]
noncomputable def h13:H:=(hr (hb (hr (hl (hr (.n [.kp [2]] [] .d .d)))) (hr (.n [.kp [2]] [] .d .d))))
noncomputable def s13 (k:Nat):SumT (mkE (e13 k)) 0 k (bodyOf Tryz.f13) h13 [.kp [2]] d60.St S16_1 S16_1 q0:=
 .leaf fun x1 N R Z=>f37 k x1 fun x2=>bif !x2 then(R 0)else(f38 k x1 fun x4=>if 0≤wu64 x4 then(R (w64 (1*2^(min (wu64 x4).toNat 64))))else none)
noncomputable def f13 {α:Type} (k:Nat) (x1:DT4) (K:Int→Option α):Option α:=
  (s13 k).F x1 (fun x3=>K x3) (fun x3=>K x3) fun z=>nomatch z
noncomputable def p13 (k:Nat):Spec:={ own:=[false],run:=fun a o K=>(d60.dec a o).bind fun x=>f13 k x fun x3=>K (o16 x3) }
theorem i13 (k:Nat):Impl Tryz.prog glTab 13 (p13 k):=
  .of w0 (l:=e13 k) ⟨i37 k,i38 k,trivial⟩ (s13 k) (d1_ok (dS_ok T4)) _ fun x3 K=>K (o16 x3)
noncomputable def d79:Dec ((List Int)):=d1 (dP (.sl tY))
noncomputable def S79_2:((List Int)×Int)→St:=fun(x1,x2)=>stC [(0, .p (.sl tY) (x1:List Int)),(3,pI x2)] []
noncomputable def S79_4:Unit→St:=fun()=>stC [] []
noncomputable def S79_5:((List Int))→St:=fun x1=>stC [(0, .p (.sl tY) (x1:List Int))] []
noncomputable def e79 (k:Nat):List (Nat×List Nat×Spec):=[]
noncomputable def h79:H:=(.n [] [.kp [0]] .d (.n [] [.kp []] (.n [] [.kp [0,3]] .d (.n [] [.kp []] (.n [.kp [0,3]] [.kp [0,3]] (hb (hr (hr (.n [.kp []] [] .d .d))) (hl (hl (hr (hl (hr (.n [.kp [2]] [] .d .d))))))) .d) .d)) (hr (.n [.kp [2]] [] .d .d))))
noncomputable def s79 (k:Nat):SumT (mkE (e79 k)) 0 k (bodyOf Tryz.f79) h79 [.kp [2]] d79.St S37_1 S37_1 q0:=
 .pre 1 S79_5 (fun x1 N R Z=>N x1)
 (.seq S79_4
 (.pre 1 S79_2 (fun x2 N R Z=>N (x2,0))
  (.blockP (.loop S79_2 (fun x=>x)
  (.leaf fun(x5,x6) N R Z=>bif decide (x6<(x5.length:Int))then(if 0≤x6∧x6<(x5.length:Int)then(bif (x5.getD (x6.toNat) (0:Int)) !=0 then(R false)else(N (x5,w64 (x6+1))))else none)else(Z (.inl ()))))))
 (.leaf fun() N R Z=>R true))
noncomputable def f79 {α:Type} (k:Nat) (x1:(List Int)) (K:Bool→Option α):Option α:=
  (s79 k).F x1 (fun x7=>K x7) (fun x7=>K x7) fun z=>nomatch z
noncomputable def p79 (k:Nat):Spec:={ own:=[false],run:=fun a o K=>(d79.dec a o).bind fun x=>f79 k x fun x7=>K (o37 x7) }
theorem i79 (k:Nat):Impl Tryz.prog glTab 79 (p79 k):=
  .of w0 (l:=e79 k) trivial (s79 k) (d1_ok (dP_ok (.sl tY))) _ fun x7 K=>K (o37 x7)
noncomputable def d80:Dec Int:=d1 (dP tI)
noncomputable def S80_1:((List Bool)×Bool)→St:=fun(x1,x2)=>stC [(2, .ptr 0 0 0),(3,pB x2)] [.L .bool (x1:List Bool)]
noncomputable def e80 (k:Nat):List (Nat×List Nat×Spec):=[]
noncomputable def h80:H:=(hr (hb (hr (hl (hr (hb (hr (.n [.kp [2,3]] [] .d .d)) (hr (hb (hr (.n [.kp [2,3]] [] .d .d)) (hr (hb (hr (.n [.kp [2,3]] [] .d .d)) (hr (hb (hr (.n [.kp [2,3]] [] .d .d)) (hr (hb (hr (.n [.kp [2,3]] [] .d .d)) (hr (hl (hr (.n [.kp [2,3]] [] .d .d)))))))))))))))) (hr (.n [.kp [2,3]] [] .d .d))))
noncomputable def s80 (k:Nat):SumT (mkE (e80 k)) 0 k (bodyOf Tryz.f80) h80 [.kp [2,3]] d80.St S80_1 S80_1 q0:=
 .leaf fun x1 N R Z=>bif x1==1 then(R ([true,true,true,true,true,true],true))else(bif x1==2 then(R ([true,true,true,true,true,false],true))else(bif x1==3 then(R ([true,true,true,true,false,true],true))else(bif x1==4 then(R ([true,true,true,true,false,false],true))else(bif x1==5 then(R ([true,true,true,false,false,false],true))else(bif x1==6 then(R ([true,true,false,false,false,false],true))else(R ([false,false,false,false,false,false],false)))))))
noncomputable def f80 {α:Type} (k:Nat) (x1:Int) (K:(List Bool)→Bool→Option α):Option α:=
  (s80 k).F x1 (fun(x2,x3)=>if 0+6≤x2.length then(K x2 x3)else none) (fun(x2,x3)=>if 0+6≤x2.length then(K x2 x3)else none) fun z=>nomatch z
noncomputable def o80:((List Bool)×Bool)→FRes:=fun(x1,x2)=>{ ret:= .tup (.cn (.agg (.cn (pB (x1.getD 0 false)) (.cn (pB (x1.getD 1 false)) (.cn (pB (x1.getD 2 false)) (.cn (pB (x1.getD 3 false)) (.cn (pB (x1.getD 4 false)) (.cn (pB (x1.getD 5 false)) .e0))))))) (.cn (pB x2) .e0)),objs:=[] }
noncomputable def p80 (k:Nat):Spec:={ own:=[false],run:=fun a o K=>(d80.dec a o).bind fun x=>f80 k x fun x2 x3=>K (o80 (x2,x3)) }
theorem i80 (k:Nat):Impl Tryz.prog glTab 80 (p80 k):=
  .of w0 (l:=e80 k) trivial (s80 k) (d1_ok (dP_ok tI)) _ fun(x2,x3) K=>if 0+6≤x2.length then(K (o80 (x2,x3)))else none
noncomputable def e82 (k:Nat):List (Nat×List Nat×Spec):=[]
noncomputable def h82:H:=(hr (hr (.n [.kp [2]] [] .d .d)))
noncomputable def s82 (k:Nat):SumT (mkE (e82 k)) 0 k (bodyOf Tryz.f82) h82 [.kp [2]] d60.St S60_1 S60_1 q0:=
 .leaf fun x1 N R Z=>R [x1.1,x1.2.1,x1.2.2.1,x1.2.2.2.1,x1.2.2.2.2.1,x1.2.2.2.2.2]
noncomputable def f82 {α:Type} (k:Nat) (x1:DT4) (K:(List Int)→Option α):Option α:=
  (s82 k).F x1 (fun x2=>if 0+6≤x2.length then(K x2)else none) (fun x2=>if 0+6≤x2.length then(K x2)else none) fun z=>nomatch z
noncomputable def p82 (k:Nat):Spec:={ own:=[false],run:=fun a o K=>(d60.dec a o).bind fun x=>f82 k x fun x2=>K (o60 x2) }
theorem i82 (k:Nat):Impl Tryz.prog glTab 82 (p82 k):=
  .of w0 (l:=e82 k) trivial (s82 k) (d1_ok (dS_ok T4)) _ fun x2 K=>if 0+6≤x2.length then(K (o60 x2))else none
noncomputable def d81:Dec (DT4×DT4):=dA (dS T4) (d1 (dS T4))
noncomputable def S81_1:Bool→St:=fun x1=>stC [(4,pB x1)] []
noncomputable def S81_2:((List Int)×(List Int)×Int)→St:=fun(x1,x2,x3)=>stC [(5, .ptr 0 0 0),(6, .ptr 1 0 0),(7,pI x3)] [.L tI (x1:List Int), .L tI (x2:List Int)]
noncomputable def S81_5:((List Int)×(List Int))→St:=fun(x1,x2)=>stC [(5, .ptr 0 0 0),(6, .ptr 1 0 0)] [.L tI (x1:List Int), .L tI (x2:List Int)]
noncomputable def e81 (k:Nat):List (Nat×List Nat×Spec):=[(37,[],p37 k),(60,[],p60 k),(82,[],p82 k)]
noncomputable def h81:H:=(hr (hb (hr (hl (hr (.n [.kp [4]] [] .d .d)))) (.n [] [.kp [5,6]] .d (.n [] [.kp []] (.n [] [.kp [5,6,7]] .d (.n [] [.kp []] (.n [.kp [5,6,7]] [.kp [5,6,7]] (hb (hr (hr (.n [.kp []] [] .d .d))) (hl (hl (hr (hl (hr (.n [.kp [4]] [] .d .d))))))) .d) .d)) (hr (.n [.kp [4]] [] .d .d))))))
noncomputable def s81 (k:Nat):SumT (mkE (e81 k)) 0 k (bodyOf Tryz.f81) h81 [.kp [4]] d81.St S81_1 S81_1 q0:=
 .pre 3 S81_5 (fun(x1,x2) N R Z=>f37 k x1 fun x3=>bif !x3 then(R false)else(f60 k x1 fun x5=>f82 k x2 fun x6=>N ([x5.getD 0 (0:Int),x5.getD 1 (0:Int),x5.getD 2 (0:Int),x5.getD 3 (0:Int),x5.getD 4 (0:Int),x5.getD 5 (0:Int)],[x6.getD 0 (0:Int),x6.getD 1 (0:Int),x6.getD 2 (0:Int),x6.getD 3 (0:Int),x6.getD 4 (0:Int),x6.getD 5 (0:Int)])))
 (.seq S79_4
 (.pre 1 S81_2 (fun(x7,x8) N R Z=>N (x7,x8,0))
  (.blockP (.loop S81_2 (fun x=>x)
  (.leaf fun(x12,x13,x14) N R Z=>bif decide (x14<6)then(if 0≤x14∧x14<(6:Int)then(if(x14.toNat)+0<x13.length then(bif decide (x13.getD ((x14.toNat)+0) (0:Int)<0)then(R false)else(if 0≤x14∧x14<(6:Int)then(if(x14.toNat)+0<x13.length then(if 0≤x14∧x14<(6:Int)then(if(x14.toNat)+0<x12.length then(if 0≤wu64 (x12.getD ((x14.toNat)+0) (0:Int))then(bif decide (x13.getD ((x14.toNat)+0) (0:Int)≥w64 (1*2^(min (wu64 (x12.getD ((x14.toNat)+0) (0:Int))).toNat 64)))then(R false)else(N (x12,x13,w64 (x14+1))))else none)else none)else none)else none)else none))else none)else none)else(Z (.inl ()))))))
 (.leaf fun() N R Z=>R true))
noncomputable def f81 {α:Type} (k:Nat) (x1:DT4) (x2:DT4) (K:Bool→Option α):Option α:=
  (s81 k).F (x1,x2) (fun x4=>K x4) (fun x4=>K x4) fun z=>nomatch z
noncomputable def p81 (k:Nat):Spec:={ own:=[false,false],run:=fun a o K=>(d81.dec a o).bind fun x=>f81 k x.1 x.2 fun x4=>K (o37 x4) }
theorem i81 (k:Nat):Impl Tryz.prog glTab 81 (p81 k):=
  .of w0 (l:=e81 k) ⟨i37 k,i60 k,i82 k,trivial⟩ (s81 k) (dA_ok (dS_ok T4) (d1_ok (dS_ok T4))) _ fun x4 K=>K (o37 x4)
noncomputable def d49:Dec (DT4×Int×DT1):=dA (dS T4) (dA (dP tI) (d1 (dS T1)))
noncomputable def S49_1:Bool→St:=fun x1=>stC [(6,pB x1)] []
noncomputable def S49_2:(DT1×(List Bool)×Bool)→St:=fun(x1,x2,x3)=>stC [(5, .ptr 0 0 0),(7, .ptr 1 0 0),(59,pB x3)] [.B (toC T1 x1), .L .bool (x2:List Bool)]
noncomputable def S49_3:((List Bool)×(List Int)×Int)→St:=fun(x1,x2,x3)=>stC [(7, .ptr 0 0 0),(9, .ptr 1 0 0),(10,pI x3)] [.L .bool (x1:List Bool), .L tI (x2:List Int)]
noncomputable def S49_6:((List Bool)×(List Int))→St:=fun(x1,x2)=>stC [(7, .ptr 0 0 0),(9, .ptr 1 0 0)] [.L .bool (x1:List Bool), .L tI (x2:List Int)]
noncomputable def S49_7:(DT1×(List Bool))→St:=fun(x1,x2)=>stC [(5, .ptr 0 0 0),(7, .ptr 1 0 0)] [.B (toC T1 x1), .L .bool (x2:List Bool)]
noncomputable def S49_8:(Int×DT4×DT1×(List Bool)×Bool)→St:=fun(x1,x2,x3,x4,x5)=>stC [(1,pI x1),(3, .ptr 0 0 0),(5, .ptr 1 0 0),(7, .ptr 2 0 0),(8,pB x5)] [.B (toC T4 x2), .B (toC T1 x3), .L .bool (x4:List Bool)]
noncomputable def e49 (k:Nat):List (Nat×List Nat×Spec):=[(80,[],p80 k),(81,[],p81 k),(82,[],p82 k)]
noncomputable def h49:H:=(hr (.n [] [.kp [1,3,5,7,8]] .d (.n [] [.kp [5,7]] (.n [] [.kp [5,7,59]] .d (hl (hr (.n [.kp [6]] [] .d .d)))) (.n [] [.kp [7,9]] .d (.n [] [.kp []] (.n [] [.kp [7,9,10]] .d (.n [] [.kp []] (.n [.kp [7,9,10]] [.kp [7,9,10]] (hb (hr (hr (.n [.kp []] [] .d .d))) (hl (hl (hr (hl (hr (.n [.kp [6]] [] .d .d))))))) .d) .d)) (hr (.n [.kp [6]] [] .d .d)))))))
noncomputable def s49 (k:Nat):SumT (mkE (e49 k)) 0 k (bodyOf Tryz.f49) h49 [.kp [6]] d49.St S49_1 S49_1 q0:=
 .pre 2 S49_8 (fun(x1,x2,x3) N R Z=>f80 k x3.1 fun x4 x5=>N (x2,x1,x3,[x4.getD 0 false,x4.getD 1 false,x4.getD 2 false,x4.getD 3 false,x4.getD 4 false,x4.getD 5 false],x5))
 (.seq S49_7
 (.pre 1 S49_2 (fun(x6,x7,x8,x9,x10) N R Z=>bif !x10 then(N (x8,x9,true))else(f81 k x7 (x8.2.1,x8.2.2.1,x8.2.2.2.1,x8.2.2.2.2.1,x8.2.2.2.2.2.1,x8.2.2.2.2.2.2.1) fun x14=>bif !x14 then(N (x8,x9,true))else(bif decide (x8.2.2.2.2.2.2.2.1<0)then(N (x8,x9,true))else(bif decide (x8.2.2.2.2.2.2.2.1≥x6)then(N (x8,x9,true))else(bif x8.2.2.2.2.2.2.2.2.1==0 then(N (x8,x9,true))else(bif (bitI .andNot .u8 x8.2.2.2.2.2.2.2.2.2.1 x8.2.2.2.2.2.2.2.2.1) !=0 then(N (x8,x9,true))else(bif !x8.2.2.2.2.2.2.2.2.2.2 then(N (x8,x9,x8.2.2.2.2.2.2.2.2.2.1 !=0))else(N (x8,x9,false)))))))))
  (.leaf fun(x11,x12,x13) N R Z=>bif x13 then(R false)else(N (x11,x12))))
 (.pre 1 S49_6 (fun(x16,x17) N R Z=>f82 k (x16.2.1,x16.2.2.1,x16.2.2.2.1,x16.2.2.2.2.1,x16.2.2.2.2.2.1,x16.2.2.2.2.2.2.1) fun x18=>N (x17,[x18.getD 0 (0:Int),x18.getD 1 (0:Int),x18.getD 2 (0:Int),x18.getD 3 (0:Int),x18.getD 4 (0:Int),x18.getD 5 (0:Int)]))
 (.seq S79_4
 (.pre 1 S49_3 (fun(x19,x20) N R Z=>N (x19,x20,0))
  (.blockP (.loop S49_3 (fun x=>x)
  (.leaf fun(x24,x25,x26) N R Z=>bif decide (x26<6)then(if 0≤x26∧x26<(6:Int)then(if(x26.toNat)+0<x24.length then(bif !(x24.getD ((x26.toNat)+0) false)then(if 0≤x26∧x26<(6:Int)then(if(x26.toNat)+0<x25.length then(bif (x25.getD ((x26.toNat)+0) (0:Int)) !=0 then(R false)else(N (x24,x25,w64 (x26+1))))else none)else none)else(N (x24,x25,w64 (x26+1))))else none)else none)else(Z (.inl ()))))))
 (.leaf fun() N R Z=>R true))))
noncomputable def f49 {α:Type} (k:Nat) (x1:DT4) (x2:Int) (x3:DT1) (K:Bool→Option α):Option α:=
  (s49 k).F (x1,x2,x3) (fun x15=>K x15) (fun x15=>K x15) fun z=>nomatch z
noncomputable def p49 (k:Nat):Spec:={ own:=[false,false,false],run:=fun a o K=>(d49.dec a o).bind fun x=>f49 k x.1 x.2.1 x.2.2 fun x15=>K (o37 x15) }
theorem i49 (k:Nat):Impl Tryz.prog glTab 49 (p49 k):=
  .of w0 (l:=e49 k) ⟨i80 k,i81 k,i82 k,trivial⟩ (s49 k) (dA_ok (dS_ok T4) (dA_ok (dP_ok tI) (d1_ok (dS_ok T1)))) _ fun x15 K=>K (o37 x15)
noncomputable def d47:Dec DT2:=d1 (dS T2)
noncomputable def S47_2:(DT2×Int×Int×Int×Bool)→St:=fun(x1,x2,x3,x4,x5)=>stC [(1, .ptr 0 0 0),(3,pI x2),(4,pI x3),(5,pI x4),(84,pB x5)] [.B (toC T2 x1)]
noncomputable def S47_3:(DT2×Int×Int×Int)→St:=fun(x1,x2,x3,x4)=>stC [(1, .ptr 0 0 0),(3,pI x2),(4,pI x3),(5,pI x4)] [.B (toC T2 x1)]
noncomputable def S47_7:(DT2×Int×Int×Int)→St:=fun(x1,x2,x3,x4)=>stC [(1, .ptr 0 0 0),(3,pI x2),(7,pI x3),(8,pI x4)] [.B (toC T2 x1)]
noncomputable def S47_9:(DT2×Int×Int)→St:=fun(x1,x2,x3)=>stC [(1, .ptr 0 0 0),(3,pI x2),(7,pI x3)] [.B (toC T2 x1)]
noncomputable def S47_14:(DT2×Int)→St:=fun(x1,x2)=>stC [(1, .ptr 0 0 0),(3,pI x2)] [.B (toC T2 x1)]
noncomputable def S47_15:(DT2×Int×Int)→St:=fun(x1,x2,x3)=>stC [(1, .ptr 0 0 0),(3,pI x2),(4,pI x3)] [.B (toC T2 x1)]
noncomputable def S47_16:DT2→St:=fun x1=>stC [(1, .ptr 0 0 0)] [.B (toC T2 x1)]
noncomputable def e47 (k:Nat):List (Nat×List Nat×Spec):=[(13,[],p13 k),(16,[],p16 k),(37,[],p37 k),(49,[],p49 k),(78,[],p78 k),(79,[],p79 k)]
noncomputable def h47:H:=(hr (.n [] [.kp [1]] (hr (hl (hr (.n [.kp [2]] [] .d .d)))) (.n [] [.kp [1,3,4]] .d (.n [] [.kp [1,3]] (.n [] [.kp [1,3,4,5]] .d (.n [] [.kp [1,3]] (.n [.kp [1,3,4,5]] [.kp [1,3,4,5]] (.n [] [.kp [1,3,4,5]] (hr (hr (.n [.kp [1,3]] [] .d .d))) (hl (.n [] [.kp [1,3,4,5]] (hr (.n [] [.kp [1,3,4,5,84]] .d (hl (hr (.n [.kp [2]] [] .d .d))))) .d))) .d) .d)) (.n [] [.kp []] (.n [] [.kp [1,3,7]] .d (.n [] [.kp []] (.n [.kp [1,3,7]] [.kp [1,3,7]] (.n [] [.kp [1,3,7]] (hr (hr (.n [.kp []] [] .d .d))) (hl (.n [] [.kp [1,3,7]] (hb (hr (hl (hr (.n [.kp [2]] [] .d .d)))) (.n [] [.kp [1,3,7,8]] .d (.n [] [.kp [1,3,7]] (.n [.kp [1,3,7,8]] [.kp [1,3,7,8]] (hb (hr (hr (.n [.kp [1,3,7]] [] .d .d))) (hl (hl (hr (hl (hr (.n [.kp [2]] [] .d .d))))))) .d) .d))) .d))) .d) .d)) (hr (.n [.kp [2]] [] .d .d)))))))
noncomputable def s47 (k:Nat):SumT (mkE (e47 k)) 0 k (bodyOf Tryz.f47) h47 [.kp [2]] d47.St S37_1 S37_1 q0:=
 .pre 2 S47_16 (fun x1 N R Z=>f37 k (x1.1,x1.2.1,x1.2.2.1,x1.2.2.2.1,x1.2.2.2.2.1,x1.2.2.2.2.2.1) fun x2=>bif !x2 then(R false)else(f78 k (x1.2.2.2.2.2.2.1,x1.2.2.2.2.2.2.2.1,x1.2.2.2.2.2.2.2.2.1,x1.2.2.2.2.2.2.2.2.2.1) fun x4=>bif !x4 then(R false)else(bif decide ((x1.2.2.2.2.2.2.2.2.2.2.2.length:Int)>64)then(R false)else(N x1))))
 (.pre 1 S47_15 (fun x5 N R Z=>f16 k (x5.2.2.2.2.2.2.1,x5.2.2.2.2.2.2.2.1,x5.2.2.2.2.2.2.2.2.1,x5.2.2.2.2.2.2.2.2.2.1) fun x6=>f13 k (x5.1,x5.2.1,x5.2.2.1,x5.2.2.2.1,x5.2.2.2.2.1,x5.2.2.2.2.2.1) fun x7=>N (x5,x6,x7))
 (.seq S47_14
 (.pre 1 S47_3 (fun(x8,x9,x10) N R Z=>N (x8,x9,x10,0))
  (.blockP (.loop S47_3 (fun x=>x)
  (.pre 1 S47_3 (fun(x15,x16,x17,x18) N R Z=>bif decide (x18<(x15.2.2.2.2.2.2.2.2.2.2.1.length:Int))then(N (x15,x16,x17,x18))else(Z (.inl (x15,x16))))
  (.seq S47_3
  (.block (.pre 2 S47_2 (fun(x19,x20,x21,x22) N R Z=>if 0≤x22∧x22<(x19.2.2.2.2.2.2.2.2.2.2.1.length:Int)then(bif decide ((x19.2.2.2.2.2.2.2.2.2.2.1.getD (x22.toNat) zT0).1<0)then(N (x19,x20,x21,x22,true))else(bif decide ((x19.2.2.2.2.2.2.2.2.2.2.1.getD (x22.toNat) zT0).1≥x21)then(N (x19,x20,x21,x22,true))else(bif (((x19.2.2.2.2.2.2.2.2.2.2.1.getD (x22.toNat) zT0).2.1).length:Int) !=x20 then(N (x19,x20,x21,x22,true))else(f79 k ((x19.2.2.2.2.2.2.2.2.2.2.1.getD (x22.toNat) zT0).2.1) fun x30=>bif x30 then(bif !((x19.2.2.2.2.2.2.2.2.2.2.1.getD (x22.toNat) zT0).2.2)then(N (x19,x20,x21,x22,true))else(bif decide (x22>0)then(if 0≤w64 (x22-1)∧w64 (x22-1)<(x19.2.2.2.2.2.2.2.2.2.2.1.length:Int)then(N (x19,x20,x21,x22,decide ((x19.2.2.2.2.2.2.2.2.2.2.1.getD (x22.toNat) zT0).1≤(x19.2.2.2.2.2.2.2.2.2.2.1.getD ((w64 (x22-1)).toNat) zT0).1)))else none)else(N (x19,x20,x21,x22,false))))else(bif decide (x22>0)then(if 0≤w64 (x22-1)∧w64 (x22-1)<(x19.2.2.2.2.2.2.2.2.2.2.1.length:Int)then(N (x19,x20,x21,x22,decide ((x19.2.2.2.2.2.2.2.2.2.2.1.getD (x22.toNat) zT0).1≤(x19.2.2.2.2.2.2.2.2.2.2.1.getD ((w64 (x22-1)).toNat) zT0).1)))else none)else(N (x19,x20,x21,x22,false)))))))else none)
   (.leaf fun(x25,x26,x27,x28,x29) N R Z=>bif x29 then(R false)else(N (x25,x26,x27,x28)))))
  (.leaf fun(x31,x32,x33,x34) N R Z=>N (x31,x32,x33,w64 (x34+1))))))))
 (.seq S79_4
 (.pre 1 S47_9 (fun(x23,x24) N R Z=>N (x23,x24,0))
  (.blockP (.loop S47_9 (fun x=>x)
  (.pre 1 S47_9 (fun(x38,x39,x40) N R Z=>bif decide (x40<(x38.2.2.2.2.2.2.2.2.2.2.2.length:Int))then(N (x38,x39,x40))else(Z (.inl ())))
  (.seq S47_9
  (.block (.pre 2 S47_7 (fun(x41,x42,x43) N R Z=>if 0≤x43∧x43<(x41.2.2.2.2.2.2.2.2.2.2.2.length:Int)then(bif !((x41.2.2.2.2.2.2.2.2.2.2.2.getD (x43.toNat) zT1).2.2.2.2.2.2.2.2.2.2)then(R false)else(if 0≤x43∧x43<(x41.2.2.2.2.2.2.2.2.2.2.2.length:Int)then(f49 k (x41.1,x41.2.1,x41.2.2.1,x41.2.2.2.1,x41.2.2.2.2.1,x41.2.2.2.2.2.1) x42 (x41.2.2.2.2.2.2.2.2.2.2.2.getD (x43.toNat) zT1) fun x44=>bif !x44 then(R false)else(N (x41,x42,x43,0)))else none))else none)
   (.blockP (.loop S47_7 (fun x=>x)
   (.leaf fun(x49,x50,x51,x52) N R Z=>bif decide (x52<x51)then(if 0≤x51∧x51<(x49.2.2.2.2.2.2.2.2.2.2.2.length:Int)then(if 0≤x52∧x52<(x49.2.2.2.2.2.2.2.2.2.2.2.length:Int)then(bif eqI ((x49.2.2.2.2.2.2.2.2.2.2.2.getD (x51.toNat) zT1).1) ((x49.2.2.2.2.2.2.2.2.2.2.2.getD (x52.toNat) zT1).1) (eqI ((x49.2.2.2.2.2.2.2.2.2.2.2.getD (x51.toNat) zT1).2.1) ((x49.2.2.2.2.2.2.2.2.2.2.2.getD (x52.toNat) zT1).2.1) (eqI ((x49.2.2.2.2.2.2.2.2.2.2.2.getD (x51.toNat) zT1).2.2.1) ((x49.2.2.2.2.2.2.2.2.2.2.2.getD (x52.toNat) zT1).2.2.1) (eqI ((x49.2.2.2.2.2.2.2.2.2.2.2.getD (x51.toNat) zT1).2.2.2.1) ((x49.2.2.2.2.2.2.2.2.2.2.2.getD (x52.toNat) zT1).2.2.2.1) (eqI ((x49.2.2.2.2.2.2.2.2.2.2.2.getD (x51.toNat) zT1).2.2.2.2.1) ((x49.2.2.2.2.2.2.2.2.2.2.2.getD (x52.toNat) zT1).2.2.2.2.1) (eqI ((x49.2.2.2.2.2.2.2.2.2.2.2.getD (x51.toNat) zT1).2.2.2.2.2.1) ((x49.2.2.2.2.2.2.2.2.2.2.2.getD (x52.toNat) zT1).2.2.2.2.2.1) (eqI ((x49.2.2.2.2.2.2.2.2.2.2.2.getD (x51.toNat) zT1).2.2.2.2.2.2.1) ((x49.2.2.2.2.2.2.2.2.2.2.2.getD (x52.toNat) zT1).2.2.2.2.2.2.1) (eqI ((x49.2.2.2.2.2.2.2.2.2.2.2.getD (x51.toNat) zT1).2.2.2.2.2.2.2.1) ((x49.2.2.2.2.2.2.2.2.2.2.2.getD (x52.toNat) zT1).2.2.2.2.2.2.2.1) (eqI ((x49.2.2.2.2.2.2.2.2.2.2.2.getD (x51.toNat) zT1).2.2.2.2.2.2.2.2.1) ((x49.2.2.2.2.2.2.2.2.2.2.2.getD (x52.toNat) zT1).2.2.2.2.2.2.2.2.1) (eqI ((x49.2.2.2.2.2.2.2.2.2.2.2.getD (x51.toNat) zT1).2.2.2.2.2.2.2.2.2.1) ((x49.2.2.2.2.2.2.2.2.2.2.2.getD (x52.toNat) zT1).2.2.2.2.2.2.2.2.2.1) (eqB ((x49.2.2.2.2.2.2.2.2.2.2.2.getD (x51.toNat) zT1).2.2.2.2.2.2.2.2.2.2) ((x49.2.2.2.2.2.2.2.2.2.2.2.getD (x52.toNat) zT1).2.2.2.2.2.2.2.2.2.2) true))))))))))then(R false)else(N (x49,x50,x51,w64 (x52+1))))else none)else none)else(Z (.inl (x49,x50,x51))))))))
  (.leaf fun(x53,x54,x55) N R Z=>N (x53,x54,w64 (x55+1))))))))
 (.leaf fun() N R Z=>R true))))
noncomputable def f47 {α:Type} (k:Nat) (x1:DT2) (K:Bool→Option α):Option α:=
  (s47 k).F x1 (fun x3=>K x3) (fun x3=>K x3) fun z=>nomatch z
noncomputable def p47 (k:Nat):Spec:={ own:=[false],run:=fun a o K=>(d47.dec a o).bind fun x=>f47 k x fun x3=>K (o37 x3) }
theorem i47 (k:Nat):Impl Tryz.prog glTab 47 (p47 k):=
  .of w0 (l:=e47 k) ⟨i13 k,i16 k,i37 k,i49 k,i78 k,i79 k,trivial⟩ (s47 k) (d1_ok (dS_ok T2)) _ fun x3 K=>K (o37 x3)
noncomputable def d23:Dec (DT4×DT5):=dA (dS T4) (d1 (dS T5))
noncomputable def S23_1:(DT2×Int)→St:=fun(x1,x2)=>stC [(4, .ptr 0 0 0),(5,pI x2)] [.B (.cn (pI x1.1) (.cn (pI x1.2.1) (.cn (pI x1.2.2.1) (.cn (pI x1.2.2.2.1) (.cn (pI x1.2.2.2.2.1) (.cn (pI x1.2.2.2.2.2.1) (.cn (pI x1.2.2.2.2.2.2.1) (.cn (pI x1.2.2.2.2.2.2.2.1) (.cn (pI x1.2.2.2.2.2.2.2.2.1) (.cn (pI x1.2.2.2.2.2.2.2.2.2.1) (.cn (.sl 1 none none) (.cn (.sl 2 none none) .e0)))))))))))), .L T0 (x1.2.2.2.2.2.2.2.2.2.2.1:List DT0), .L T1 (x1.2.2.2.2.2.2.2.2.2.2.2:List DT1)]
noncomputable def e23 (k:Nat):List (Nat×List Nat×Spec):=[(47,[],p47 k)]
noncomputable def h23:H:=(hr (hr (hb (hr (hl (hr (.n [.own 4 (some 10) T0, .own 4 (some 11) T1, .kp [4,5]] [] .d .d)))) (hr (.n [.own 4 (some 10) T0, .own 4 (some 11) T1, .kp [4,5]] [] .d .d)))))
noncomputable def s23 (k:Nat):SumT (mkE (e23 k)) 0 k (bodyOf Tryz.f23) h23 [.own 4 (some 10) T0, .own 4 (some 11) T1, .kp [4,5]] d23.St S23_1 S23_1 q0:=
 .leaf fun(x1,x2) N R Z=>f47 k (x1.1,x1.2.1,x1.2.2.1,x1.2.2.2.1,x1.2.2.2.2.1,x1.2.2.2.2.2,x2.1,x2.2.1,x2.2.2.1,x2.2.2.2,[],[]) fun x3=>bif !x3 then(R ((0,0,0,0,0,0,0,0,0,0,[],[]),1))else(R ((x1.1,x1.2.1,x1.2.2.1,x1.2.2.2.1,x1.2.2.2.2.1,x1.2.2.2.2.2,x2.1,x2.2.1,x2.2.2.1,x2.2.2.2,[],[]),0))
noncomputable def f23 {α:Type} (k:Nat) (x1:DT4) (x2:DT5) (K:DT2→Int→Option α):Option α:=
  (s23 k).F (x1,x2) (fun(x4,x5)=>K x4 x5) (fun(x4,x5)=>K x4 x5) fun z=>nomatch z
noncomputable def o23:(DT2×Int)→FRes:=fun(x1,x2)=>{ ret:= .tup (.cn (.agg (.cn (pI x1.1) (.cn (pI x1.2.1) (.cn (pI x1.2.2.1) (.cn (pI x1.2.2.2.1) (.cn (pI x1.2.2.2.2.1) (.cn (pI x1.2.2.2.2.2.1) (.cn (pI x1.2.2.2.2.2.2.1) (.cn (pI x1.2.2.2.2.2.2.2.1) (.cn (pI x1.2.2.2.2.2.2.2.2.1) (.cn (pI x1.2.2.2.2.2.2.2.2.2.1) (.cn (.sl 0 none none) (.cn (.sl 1 none none) .e0))))))))))))) (.cn (pI x2) .e0)),objs:=[.L T0 (x1.2.2.2.2.2.2.2.2.2.2.1:List DT0), .L T1 (x1.2.2.2.2.2.2.2.2.2.2.2:List DT1)] }
noncomputable def p23 (k:Nat):Spec:={ own:=[false,false],run:=fun a o K=>(d23.dec a o).bind fun x=>f23 k x.1 x.2 fun x4 x5=>K (o23 (x4,x5)) }
theorem i23 (k:Nat):Impl Tryz.prog glTab 23 (p23 k):=
  .of w0 (l:=e23 k) ⟨i47 k,trivial⟩ (s23 k) (dA_ok (dS_ok T4) (d1_ok (dS_ok T5))) _ fun(x4,x5) K=>K (o23 (x4,x5))
noncomputable def S48_1:DT2→St:=fun x1=>stC [(2, .ptr 0 0 0)] [.B (.cn (pI x1.1) (.cn (pI x1.2.1) (.cn (pI x1.2.2.1) (.cn (pI x1.2.2.2.1) (.cn (pI x1.2.2.2.2.1) (.cn (pI x1.2.2.2.2.2.1) (.cn (pI x1.2.2.2.2.2.2.1) (.cn (pI x1.2.2.2.2.2.2.2.1) (.cn (pI x1.2.2.2.2.2.2.2.2.1) (.cn (pI x1.2.2.2.2.2.2.2.2.2.1) (.cn (.sl 1 none none) (.cn (.sl 2 none none) .e0)))))))))))), .L T0 (x1.2.2.2.2.2.2.2.2.2.2.1:List DT0), .L T1 (x1.2.2.2.2.2.2.2.2.2.2.2:List DT1)]
noncomputable def S48_2:(DT2×DT2×DT2×Int)→St:=fun(x1,x2,x3,x4)=>stC [(1, .ptr 0 0 0),(2, .ptr 1 0 0),(3, .ptr 2 0 0),(4,pI x4)] [.B (toC T2 x1), .B (.cn (pI x2.1) (.cn (pI x2.2.1) (.cn (pI x2.2.2.1) (.cn (pI x2.2.2.2.1) (.cn (pI x2.2.2.2.2.1) (.cn (pI x2.2.2.2.2.2.1) (.cn (pI x2.2.2.2.2.2.2.1) (.cn (pI x2.2.2.2.2.2.2.2.1) (.cn (pI x2.2.2.2.2.2.2.2.2.1) (.cn (pI x2.2.2.2.2.2.2.2.2.2.1) (.cn (.sl 3 none none) (.cn (.sl 4 none none) .e0)))))))))))), .B (.cn (pI x3.1) (.cn (pI x3.2.1) (.cn (pI x3.2.2.1) (.cn (pI x3.2.2.2.1) (.cn (pI x3.2.2.2.2.1) (.cn (pI x3.2.2.2.2.2.1) (.cn (pI x3.2.2.2.2.2.2.1) (.cn (pI x3.2.2.2.2.2.2.2.1) (.cn (pI x3.2.2.2.2.2.2.2.2.1) (.cn (pI x3.2.2.2.2.2.2.2.2.2.1) (.cn (.sl 5 none none) (.cn (.p (.sl T1) (x3.2.2.2.2.2.2.2.2.2.2.2:List DT1)) .e0)))))))))))), .L T0 (x2.2.2.2.2.2.2.2.2.2.2.1:List DT0), .L T1 (x2.2.2.2.2.2.2.2.2.2.2.2:List DT1), .L T0 (x3.2.2.2.2.2.2.2.2.2.2.1:List DT0)]
noncomputable def S48_4:(DT2×DT2×DT2)→St:=fun(x1,x2,x3)=>stC [(1, .ptr 0 0 0),(2, .ptr 1 0 0),(3, .ptr 2 0 0)] [.B (toC T2 x1), .B (.cn (pI x2.1) (.cn (pI x2.2.1) (.cn (pI x2.2.2.1) (.cn (pI x2.2.2.2.1) (.cn (pI x2.2.2.2.2.1) (.cn (pI x2.2.2.2.2.2.1) (.cn (pI x2.2.2.2.2.2.2.1) (.cn (pI x2.2.2.2.2.2.2.2.1) (.cn (pI x2.2.2.2.2.2.2.2.2.1) (.cn (pI x2.2.2.2.2.2.2.2.2.2.1) (.cn (.sl 3 none none) (.cn (.sl 4 none none) .e0)))))))))))), .B (.cn (pI x3.1) (.cn (pI x3.2.1) (.cn (pI x3.2.2.1) (.cn (pI x3.2.2.2.1) (.cn (pI x3.2.2.2.2.1) (.cn (pI x3.2.2.2.2.2.1) (.cn (pI x3.2.2.2.2.2.2.1) (.cn (pI x3.2.2.2.2.2.2.2.1) (.cn (pI x3.2.2.2.2.2.2.2.2.1) (.cn (pI x3.2.2.2.2.2.2.2.2.2.1) (.cn (.sl 5 none none) (.cn (.p (.sl T1) (x3.2.2.2.2.2.2.2.2.2.2.2:List DT1)) .e0)))))))))))), .L T0 (x2.2.2.2.2.2.2.2.2.2.2.1:List DT0), .L T1 (x2.2.2.2.2.2.2.2.2.2.2.2:List DT1), .L T0 (x3.2.2.2.2.2.2.2.2.2.2.1:List DT0)]
noncomputable def e48 (k:Nat):List (Nat×List Nat×Spec):=[]
noncomputable def h48:H:=(hr (hr (.n [] [.own 2 (some 10) T0, .own 2 (some 11) T1, .own 3 (some 10) T0, .kp [1,2,3]] .d (.n [] [.kp [1,2,3]] (.n [] [.kp [1,2,3,4]] .d (.n [] [.kp [1,2,3]] (.n [.kp [1,2,3,4]] [.kp [1,2,3,4]] (hl (hr (hr (.n [.kp [1,2,3]] [] .d .d)))) .d) .d)) (hr (hr (.n [.kp [2]] [] .d .d)))))))
noncomputable def s48 (k:Nat):SumT (mkE (e48 k)) 0 k (bodyOf Tryz.f48) h48 [.kp [2]] d47.St S48_1 S48_1 q0:=
 .pre 3 S48_4 (fun x1 N R Z=>N (x1,(0,0,0,0,0,0,0,0,0,0,[],[]),(x1.1,x1.2.1,x1.2.2.1,x1.2.2.2.1,x1.2.2.2.2.1,x1.2.2.2.2.2.1,x1.2.2.2.2.2.2.1,x1.2.2.2.2.2.2.2.1,x1.2.2.2.2.2.2.2.2.1,x1.2.2.2.2.2.2.2.2.2.1,[],x1.2.2.2.2.2.2.2.2.2.2.2)))
 (.seq S48_4
 (.pre 1 S48_2 (fun(x2,x3,x4) N R Z=>N (x2,x3,x4,0))
  (.blockP (.loop S48_2 (fun x=>x)
  (.leaf fun(x9,x10,x11,x12) N R Z=>bif decide (x12<(x9.2.2.2.2.2.2.2.2.2.2.1.length:Int))then(if 0≤x12∧x12<(x9.2.2.2.2.2.2.2.2.2.2.1.length:Int)then(if((x9.2.2.2.2.2.2.2.2.2.2.1.getD (x12.toNat) zT0).2.1).length*1≤room then(if(x11.2.2.2.2.2.2.2.2.2.2.1.length+[(x9.2.2.2.2.2.2.2.2.2.2.1.getD (x12.toNat) zT0)].length)*40≤room then(N (x9,x10,(x11.1,x11.2.1,x11.2.2.1,x11.2.2.2.1,x11.2.2.2.2.1,x11.2.2.2.2.2.1,x11.2.2.2.2.2.2.1,x11.2.2.2.2.2.2.2.1,x11.2.2.2.2.2.2.2.2.1,x11.2.2.2.2.2.2.2.2.2.1,x11.2.2.2.2.2.2.2.2.2.2.1++[(x9.2.2.2.2.2.2.2.2.2.2.1.getD (x12.toNat) zT0)],x11.2.2.2.2.2.2.2.2.2.2.2),w64 (x12+1)))else none)else none)else none)else(Z (.inl (x9,x10,x11)))))))
 (.leaf fun(x13,x14,x15) N R Z=>if x13.2.2.2.2.2.2.2.2.2.2.2.length*72≤room then(R (x15.1,x15.2.1,x15.2.2.1,x15.2.2.2.1,x15.2.2.2.2.1,x15.2.2.2.2.2.1,x15.2.2.2.2.2.2.1,x15.2.2.2.2.2.2.2.1,x15.2.2.2.2.2.2.2.2.1,x15.2.2.2.2.2.2.2.2.2.1,x15.2.2.2.2.2.2.2.2.2.2.1,x13.2.2.2.2.2.2.2.2.2.2.2))else none))
noncomputable def f48 {α:Type} (k:Nat) (x1:DT2) (K:DT2→Option α):Option α:=
  (s48 k).F x1 (fun x16=>K x16) (fun x16=>K x16) fun z=>nomatch z
noncomputable def o48:DT2→FRes:=fun x1=>{ ret:= .agg (.cn (pI x1.1) (.cn (pI x1.2.1) (.cn (pI x1.2.2.1) (.cn (pI x1.2.2.2.1) (.cn (pI x1.2.2.2.2.1) (.cn (pI x1.2.2.2.2.2.1) (.cn (pI x1.2.2.2.2.2.2.1) (.cn (pI x1.2.2.2.2.2.2.2.1) (.cn (pI x1.2.2.2.2.2.2.2.2.1) (.cn (pI x1.2.2.2.2.2.2.2.2.2.1) (.cn (.sl 0 none none) (.cn (.sl 1 none none) .e0)))))))))))),objs:=[.L T0 (x1.2.2.2.2.2.2.2.2.2.2.1:List DT0), .L T1 (x1.2.2.2.2.2.2.2.2.2.2.2:List DT1)] }
noncomputable def p48 (k:Nat):Spec:={ own:=[false],run:=fun a o K=>(d47.dec a o).bind fun x=>f48 k x fun x16=>K (o48 x16) }
theorem i48 (k:Nat):Impl Tryz.prog glTab 48 (p48 k):=
  .of w0 (l:=e48 k) trivial (s48 k) (d1_ok (dS_ok T2)) _ fun x16 K=>K (o48 x16)
noncomputable def d83:Dec (DT4×Int):=dA (dS T4) (d1 (dP tI))
noncomputable def S83_1:(DT4×Int)→St:=fun(x1,x2)=>stC [(4, .ptr 0 0 0),(5,pI x2)] [.B (toC T4 x1)]
noncomputable def S83_2:(Int×DT4×(List Int)×(List Int)×Int)→St:=fun(x1,x2,x3,x4,x5)=>stC [(1,pI x1),(4, .ptr 0 0 0),(6, .ptr 1 0 0),(7, .ptr 2 0 0),(8,pI x5)] [.B (toC T4 x2), .L tI (x3:List Int), .L tI (x4:List Int)]
noncomputable def S83_4:(DT4×(List Int))→St:=fun(x1,x2)=>stC [(4, .ptr 0 0 0),(7, .ptr 1 0 0)] [.B (toC T4 x1), .L tI (x2:List Int)]
noncomputable def S83_5:(Int×DT4×(List Int)×(List Int))→St:=fun(x1,x2,x3,x4)=>stC [(1,pI x1),(4, .ptr 0 0 0),(6, .ptr 1 0 0),(7, .ptr 2 0 0)] [.B (toC T4 x2), .L tI (x3:List Int), .L tI (x4:List Int)]
noncomputable def e83 (k:Nat):List (Nat×List Nat×Spec):=[(13,[],p13 k),(37,[],p37 k),(60,[],p60 k)]
noncomputable def h83:H:=(hr (hb (hr (hl (hr (.n [.kp [4,5]] [] .d .d)))) (hb (hr (hl (hr (.n [.kp [4,5]] [] .d .d)))) (hr (.n [] [.kp [1,4,6,7]] .d (.n [] [.kp [4,7]] (.n [] [.kp [1,4,6,7,8]] .d (.n [] [.kp [4,7]] (.n [.kp [1,4,6,7,8]] [.kp [1,4,6,7,8]] (hl (hr (hr (.n [.kp [4,7]] [] .d .d)))) .d) .d)) (hr (.n [.kp [4,5]] [] .d .d))))))))
noncomputable def s83 (k:Nat):SumT (mkE (e83 k)) 0 k (bodyOf Tryz.f83) h83 [.kp [4,5]] d83.St S83_1 S83_1 q0:=
 .pre 5 S83_5 (fun(x1,x2) N R Z=>f37 k x1 fun x3=>bif !x3 then(R ((0,0,0,0,0,0),1))else(bif decide (x2<0)then(R ((0,0,0,0,0,0),2))else(f13 k x1 fun x6=>bif decide (x2≥x6)then(R ((0,0,0,0,0,0),2))else(f60 k x1 fun x7=>N (x2,(0,0,0,0,0,0),[x7.getD 0 (0:Int),x7.getD 1 (0:Int),x7.getD 2 (0:Int),x7.getD 3 (0:Int),x7.getD 4 (0:Int),x7.getD 5 (0:Int)],[0,0,0,0,0,0])))))
 (.seq S83_4
 (.pre 1 S83_2 (fun(x8,x9,x10,x11) N R Z=>N (x8,x9,x10,x11,5))
  (.blockP (.loop S83_2 (fun x=>x)
  (.leaf fun(x17,x18,x19,x20,x21) N R Z=>bif decide (x21≥0)then(if 0≤x21∧x21<(6:Int)then(if(x21.toNat)+0<x19.length then(if 0≤wu64 (x19.getD ((x21.toNat)+0) (0:Int))then(if w64 (1*2^(min (wu64 (x19.getD ((x21.toNat)+0) (0:Int))).toNat 64))=0 then none else(if 0≤x21∧x21<(6:Int)then(if(x21.toNat)+0<x20.length then(if 0≤x21∧x21<(6:Int)then(if(x21.toNat)+0<x19.length then(if 0≤wu64 (x19.getD ((x21.toNat)+0) (0:Int))then(if w64 (1*2^(min (wu64 (x19.getD ((x21.toNat)+0) (0:Int))).toNat 64))=0 then none else(N (w64 (Int.tdiv x17 (w64 (1*2^(min (wu64 (x19.getD ((x21.toNat)+0) (0:Int))).toNat 64)))),x18,x19,x20.set ((x21.toNat)+0) (Int.tmod x17 (w64 (1*2^(min (wu64 (x19.getD ((x21.toNat)+0) (0:Int))).toNat 64)))),w64 (x21-1))))else none)else none)else none)else none)else none))else none)else none)else none)else(Z (.inl (x18,x20)))))))
 (.leaf fun(x22,x23) N R Z=>if 0<x23.length then(if 1<x23.length then(if 2<x23.length then(if 3<x23.length then(if 4<x23.length then(if 5<x23.length then(R ((x23.getD 0 (0:Int),x23.getD 1 (0:Int),x23.getD 2 (0:Int),x23.getD 3 (0:Int),x23.getD 4 (0:Int),x23.getD 5 (0:Int)),0))else none)else none)else none)else none)else none)else none))
noncomputable def f83 {α:Type} (k:Nat) (x1:DT4) (x2:Int) (K:DT4→Int→Option α):Option α:=
  (s83 k).F (x1,x2) (fun(x4,x5)=>K x4 x5) (fun(x4,x5)=>K x4 x5) fun z=>nomatch z
noncomputable def o83:(DT4×Int)→FRes:=fun(x1,x2)=>{ ret:= .tup (.cn (.agg (toC T4 x1)) (.cn (pI x2) .e0)),objs:=[] }
noncomputable def p83 (k:Nat):Spec:={ own:=[false,false],run:=fun a o K=>(d83.dec a o).bind fun x=>f83 k x.1 x.2 fun x4 x5=>K (o83 (x4,x5)) }
theorem i83 (k:Nat):Impl Tryz.prog glTab 83 (p83 k):=
  .of w0 (l:=e83 k) ⟨i13 k,i37 k,i60 k,trivial⟩ (s83 k) (dA_ok (dS_ok T4) (d1_ok (dP_ok tI))) _ fun(x4,x5) K=>K (o83 (x4,x5))
noncomputable def d84:Dec (DT1×DT4):=dA (dS T1) (d1 (dS T4))
noncomputable def S84_2:((List Bool)×(List Int)×(List Int)×Int)→St:=fun(x1,x2,x3,x4)=>stC [(5, .ptr 0 0 0),(7, .ptr 1 0 0),(8, .ptr 2 0 0),(9,pI x4)] [.L .bool (x1:List Bool), .L tI (x2:List Int), .L tI (x3:List Int)]
noncomputable def S84_5:((List Bool)×(List Int)×(List Int))→St:=fun(x1,x2,x3)=>stC [(5, .ptr 0 0 0),(7, .ptr 1 0 0),(8, .ptr 2 0 0)] [.L .bool (x1:List Bool), .L tI (x2:List Int), .L tI (x3:List Int)]
noncomputable def e84 (k:Nat):List (Nat×List Nat×Spec):=[(80,[],p80 k),(82,[],p82 k)]
noncomputable def h84:H:=(hr (hr (hb (hr (hl (hr (.n [.kp [4]] [] .d .d)))) (.n [] [.kp [5,7,8]] .d (.n [] [.kp []] (.n [] [.kp [5,7,8,9]] .d (.n [] [.kp []] (.n [.kp [5,7,8,9]] [.kp [5,7,8,9]] (hb (hr (hr (.n [.kp []] [] .d .d))) (hl (hl (hr (hl (hr (.n [.kp [4]] [] .d .d))))))) .d) .d)) (hr (.n [.kp [4]] [] .d .d)))))))
noncomputable def s84 (k:Nat):SumT (mkE (e84 k)) 0 k (bodyOf Tryz.f84) h84 [.kp [4]] d84.St S81_1 S81_1 q0:=
 .pre 4 S84_5 (fun(x1,x2) N R Z=>f80 k x1.1 fun x3 x4=>bif !x4 then(R false)else(f82 k (x1.2.1,x1.2.2.1,x1.2.2.2.1,x1.2.2.2.2.1,x1.2.2.2.2.2.1,x1.2.2.2.2.2.2.1) fun x6=>f82 k x2 fun x7=>N ([x3.getD 0 false,x3.getD 1 false,x3.getD 2 false,x3.getD 3 false,x3.getD 4 false,x3.getD 5 false],[x6.getD 0 (0:Int),x6.getD 1 (0:Int),x6.getD 2 (0:Int),x6.getD 3 (0:Int),x6.getD 4 (0:Int),x6.getD 5 (0:Int)],[x7.getD 0 (0:Int),x7.getD 1 (0:Int),x7.getD 2 (0:Int),x7.getD 3 (0:Int),x7.getD 4 (0:Int),x7.getD 5 (0:Int)])))
 (.seq S79_4
 (.pre 1 S84_2 (fun(x8,x9,x10) N R Z=>N (x8,x9,x10,0))
  (.blockP (.loop S84_2 (fun x=>x)
  (.leaf fun(x15,x16,x17,x18) N R Z=>bif decide (x18<6)then(if 0≤x18∧x18<(6:Int)then(if(x18.toNat)+0<x15.length then(bif x15.getD ((x18.toNat)+0) false then(if 0≤x18∧x18<(6:Int)then(if(x18.toNat)+0<x16.length then(if 0≤x18∧x18<(6:Int)then(if(x18.toNat)+0<x17.length then(bif (x16.getD ((x18.toNat)+0) (0:Int)) !=(x17.getD ((x18.toNat)+0) (0:Int))then(R false)else(N (x15,x16,x17,w64 (x18+1))))else none)else none)else none)else none)else(N (x15,x16,x17,w64 (x18+1))))else none)else none)else(Z (.inl ()))))))
 (.leaf fun() N R Z=>R true))
noncomputable def f84 {α:Type} (k:Nat) (x1:DT1) (x2:DT4) (K:Bool→Option α):Option α:=
  (s84 k).F (x1,x2) (fun x5=>K x5) (fun x5=>K x5) fun z=>nomatch z
noncomputable def p84 (k:Nat):Spec:={ own:=[false,false],run:=fun a o K=>(d84.dec a o).bind fun x=>f84 k x.1 x.2 fun x5=>K (o37 x5) }
theorem i84 (k:Nat):Impl Tryz.prog glTab 84 (p84 k):=
  .of w0 (l:=e84 k) ⟨i80 k,i82 k,trivial⟩ (s84 k) (dA_ok (dS_ok T1) (d1_ok (dS_ok T4))) _ fun x5 K=>K (o37 x5)
noncomputable def d50:Dec (DT4×DT1):=dA (dS T4) (d1 (dS T1))
noncomputable def S50_1:((List Int))→St:=fun x1=>stC [(4, .sl 0 none none)] [.L tI (x1:List Int)]
noncomputable def S50_2:(DT4×DT1×(List Int)×Int)→St:=fun(x1,x2,x3,x4)=>stC [(2, .ptr 0 0 0),(3, .ptr 1 0 0),(5, .sl 2 none none),(6,pI x4)] [.B (toC T4 x1), .B (toC T1 x2), .L tI (x3:List Int)]
noncomputable def S50_4:((List Int))→St:=fun x1=>stC [(5, .sl 0 none none)] [.L tI (x1:List Int)]
noncomputable def S50_5:(DT4×DT1×(List Int))→St:=fun(x1,x2,x3)=>stC [(2, .ptr 0 0 0),(3, .ptr 1 0 0),(5, .sl 2 none none)] [.B (toC T4 x1), .B (toC T1 x2), .L tI (x3:List Int)]
noncomputable def e50 (k:Nat):List (Nat×List Nat×Spec):=[(13,[],p13 k),(83,[],p83 k),(84,[],p84 k)]
noncomputable def h50:H:=(hr (.n [] [.own 5 none tI, .kp [2,3,5]] .d (.n [] [.kp [5]] (.n [] [.kp [2,3,5,6]] .d (.n [] [.kp [5]] (.n [.kp [2,3,5,6]] [.kp [2,3,5,6]] (hl (hr (hr (.n [.kp [5]] [] .d .d)))) .d) .d)) (hr (.n [.kp [4]] [] .d .d)))))
noncomputable def s50 (k:Nat):SumT (mkE (e50 k)) 0 k (bodyOf Tryz.f50) h50 [.kp [4]] d50.St S50_1 S50_1 q0:=
 .pre 2 S50_5 (fun(x1,x2) N R Z=>N (x1,x2,[]))
 (.seq S50_4
 (.pre 1 S50_2 (fun(x3,x4,x5) N R Z=>N (x3,x4,x5,0))
  (.blockP (.loop S50_2 (fun x=>x)
  (.leaf fun(x10,x11,x12,x13) N R Z=>f13 k x10 fun x14=>bif decide (x13<x14)then(f83 k x10 x13 fun x15 x16=>f84 k x11 x15 fun x17=>bif x17 then(if(x12.length+[x13].length)*8≤room then(N (x10,x11,x12++[x13],w64 (x13+1)))else none)else(N (x10,x11,x12,w64 (x13+1))))else(Z (.inl x12))))))
 (.leaf fun x18 N R Z=>R x18))
noncomputable def f50 {α:Type} (k:Nat) (x1:DT4) (x2:DT1) (K:(List Int)→Option α):Option α:=
  (s50 k).F (x1,x2) (fun x19=>K x19) (fun x19=>K x19) fun z=>nomatch z
noncomputable def o50:((List Int))→FRes:=fun x1=>{ ret:= .sl 0 none none,objs:=[.L tI (x1:List Int)] }
noncomputable def p50 (k:Nat):Spec:={ own:=[false,false],run:=fun a o K=>(d50.dec a o).bind fun x=>f50 k x.1 x.2 fun x19=>K (o50 x19) }
theorem i50 (k:Nat):Impl Tryz.prog glTab 50 (p50 k):=
  .of w0 (l:=e50 k) ⟨i13 k,i83 k,i84 k,trivial⟩ (s50 k) (dA_ok (dS_ok T4) (d1_ok (dS_ok T1))) _ fun x19 K=>K (o50 x19)
noncomputable def d51:Dec (DT2×Int):=dA (dS T2) (d1 (dP tI))
noncomputable def S51_1:DT0→St:=fun x1=>stC [(4, .ptr 0 0 0)] [.B (.cn (pI x1.1) (.cn (.sl 1 none none) (.cn (pB x1.2.2) .e0))), .L tY (x1.2.1:List Int)]
noncomputable def S51_2:(Int×DT2×DT0×Int)→St:=fun(x1,x2,x3,x4)=>stC [(1,pI x1),(2, .ptr 0 0 0),(4, .ptr 1 0 0),(5,pI x4)] [.B (toC T2 x2), .B (.cn (pI x3.1) (.cn (.sl 2 none none) (.cn (pB x3.2.2) .e0))), .L tY (x3.2.1:List Int)]
noncomputable def S51_4:(Int×DT2×DT0)→St:=fun(x1,x2,x3)=>stC [(1,pI x1),(2, .ptr 0 0 0),(4, .ptr 1 0 0)] [.B (toC T2 x2), .B (.cn (pI x3.1) (.cn (.sl 2 none none) (.cn (pB x3.2.2) .e0))), .L tY (x3.2.1:List Int)]
noncomputable def e51 (k:Nat):List (Nat×List Nat×Spec):=[(16,[],p16 k)]
noncomputable def h51:H:=(.n [] [.own 4 (some 1) tY, .kp [1,2,4]] .d (.n [] [.kp [1,2,4]] (.n [] [.kp [1,2,4,5]] .d (.n [] [.kp [1,2,4]] (.n [.kp [1,2,4,5]] [.kp [1,2,4,5]] (hb (hr (hr (.n [.kp [1,2,4]] [] .d .d))) (hl (hl (hr (hl (hr (hr (hr (.n [.kp [4]] [] .d .d))))))))) .d) .d)) (hr (.n [.kp [4]] [] .d .d))))
noncomputable def s51 (k:Nat):SumT (mkE (e51 k)) 0 k (bodyOf Tryz.f51) h51 [.kp [4]] d51.St S51_1 S51_1 q0:=
 .pre 1 S51_4 (fun(x1,x2) N R Z=>N (x2,x1,(0,[],false)))
 (.seq S51_4
 (.pre 1 S51_2 (fun(x3,x4,x5) N R Z=>N (x3,x4,x5,0))
  (.blockP (.loop S51_2 (fun x=>x)
  (.leaf fun(x10,x11,x12,x13) N R Z=>bif decide (x13<(x11.2.2.2.2.2.2.2.2.2.2.1.length:Int))then(if 0≤x13∧x13<(x11.2.2.2.2.2.2.2.2.2.2.1.length:Int)then(bif ((x11.2.2.2.2.2.2.2.2.2.2.1.getD (x13.toNat) zT0).1)==x10 then(if 0≤x13∧x13<(x11.2.2.2.2.2.2.2.2.2.2.1.length:Int)then(if((x11.2.2.2.2.2.2.2.2.2.2.1.getD (x13.toNat) zT0).2.1).length*1≤room then(R (x11.2.2.2.2.2.2.2.2.2.2.1.getD (x13.toNat) zT0))else none)else none)else(N (x10,x11,x12,w64 (x13+1))))else none)else(Z (.inl (x10,x11,x12)))))))
 (.leaf fun(x15,x16,x17) N R Z=>f16 k (x16.2.2.2.2.2.2.1,x16.2.2.2.2.2.2.2.1,x16.2.2.2.2.2.2.2.2.1,x16.2.2.2.2.2.2.2.2.2.1) fun x18=>if 0≤x18∧x18≤x18∧x18*1≤room∧x18<9223372036854775808 then(R (x15,List.replicate (x18.toNat) (0:Int),false))else none))
noncomputable def f51 {α:Type} (k:Nat) (x1:DT2) (x2:Int) (K:DT0→Option α):Option α:=
  (s51 k).F (x1,x2) (fun x14=>K x14) (fun x14=>K x14) fun z=>nomatch z
noncomputable def o51:DT0→FRes:=fun x1=>{ ret:= .agg (.cn (pI x1.1) (.cn (.sl 0 none none) (.cn (pB x1.2.2) .e0))),objs:=[.L tY (x1.2.1:List Int)] }
noncomputable def p51 (k:Nat):Spec:={ own:=[false,false],run:=fun a o K=>(d51.dec a o).bind fun x=>f51 k x.1 x.2 fun x14=>K (o51 x14) }
theorem i51 (k:Nat):Impl Tryz.prog glTab 51 (p51 k):=
  .of w0 (l:=e51 k) ⟨i16 k,trivial⟩ (s51 k) (dA_ok (dS_ok T2) (d1_ok (dP_ok tI))) _ fun x14 K=>K (o51 x14)
noncomputable def d52:Dec (DT2×DT0):=dA (dS T2) (d1 (dS T0))
noncomputable def S52_1:DT2→St:=fun x1=>stC [(4, .ptr 0 0 0)] [.B (.cn (pI x1.1) (.cn (pI x1.2.1) (.cn (pI x1.2.2.1) (.cn (pI x1.2.2.2.1) (.cn (pI x1.2.2.2.2.1) (.cn (pI x1.2.2.2.2.2.1) (.cn (pI x1.2.2.2.2.2.2.1) (.cn (pI x1.2.2.2.2.2.2.2.1) (.cn (pI x1.2.2.2.2.2.2.2.2.1) (.cn (pI x1.2.2.2.2.2.2.2.2.2.1) (.cn (.sl 1 none none) (.cn (.sl 2 none none) .e0)))))))))))), .L T0 (x1.2.2.2.2.2.2.2.2.2.2.1:List DT0), .L T1 (x1.2.2.2.2.2.2.2.2.2.2.2:List DT1)]
noncomputable def S52_2:(DT2×DT0×DT2×(List DT0)×Bool×Int×Bool)→St:=fun(x1,x2,x3,x4,x5,x6,x7)=>stC [(2, .ptr 0 0 0),(3, .ptr 1 0 0),(4, .ptr 2 0 0),(5, .sl 3 none none),(6,pB x5),(7,pI x6),(40,pB x7)] [.B (.cn (pI x1.1) (.cn (pI x1.2.1) (.cn (pI x1.2.2.1) (.cn (pI x1.2.2.2.1) (.cn (pI x1.2.2.2.2.1) (.cn (pI x1.2.2.2.2.2.1) (.cn (pI x1.2.2.2.2.2.2.1) (.cn (pI x1.2.2.2.2.2.2.2.1) (.cn (pI x1.2.2.2.2.2.2.2.2.1) (.cn (pI x1.2.2.2.2.2.2.2.2.2.1) (.cn (.sl 4 none none) (.cn (.sl 5 none none) .e0)))))))))))), .B (toC T0 x2), .B (.cn (pI x3.1) (.cn (pI x3.2.1) (.cn (pI x3.2.2.1) (.cn (pI x3.2.2.2.1) (.cn (pI x3.2.2.2.2.1) (.cn (pI x3.2.2.2.2.2.1) (.cn (pI x3.2.2.2.2.2.2.1) (.cn (pI x3.2.2.2.2.2.2.2.1) (.cn (pI x3.2.2.2.2.2.2.2.2.1) (.cn (pI x3.2.2.2.2.2.2.2.2.2.1) (.cn (.sl 6 none none) (.cn (.sl 7 none none) .e0)))))))))))), .L T0 (x4:List DT0), .L T0 (x1.2.2.2.2.2.2.2.2.2.2.1:List DT0), .L T1 (x1.2.2.2.2.2.2.2.2.2.2.2:List DT1), .L T0 (x3.2.2.2.2.2.2.2.2.2.2.1:List DT0), .L T1 (x3.2.2.2.2.2.2.2.2.2.2.2:List DT1)]
noncomputable def S52_3:(DT2×DT0×DT2×(List DT0)×Bool×Int)→St:=fun(x1,x2,x3,x4,x5,x6)=>stC [(2, .ptr 0 0 0),(3, .ptr 1 0 0),(4, .ptr 2 0 0),(5, .sl 3 none none),(6,pB x5),(7,pI x6)] [.B (.cn (pI x1.1) (.cn (pI x1.2.1) (.cn (pI x1.2.2.1) (.cn (pI x1.2.2.2.1) (.cn (pI x1.2.2.2.2.1) (.cn (pI x1.2.2.2.2.2.1) (.cn (pI x1.2.2.2.2.2.2.1) (.cn (pI x1.2.2.2.2.2.2.2.1) (.cn (pI x1.2.2.2.2.2.2.2.2.1) (.cn (pI x1.2.2.2.2.2.2.2.2.2.1) (.cn (.sl 4 none none) (.cn (.sl 5 none none) .e0)))))))))))), .B (toC T0 x2), .B (.cn (pI x3.1) (.cn (pI x3.2.1) (.cn (pI x3.2.2.1) (.cn (pI x3.2.2.2.1) (.cn (pI x3.2.2.2.2.1) (.cn (pI x3.2.2.2.2.2.1) (.cn (pI x3.2.2.2.2.2.2.1) (.cn (pI x3.2.2.2.2.2.2.2.1) (.cn (pI x3.2.2.2.2.2.2.2.2.1) (.cn (pI x3.2.2.2.2.2.2.2.2.2.1) (.cn (.sl 6 none none) (.cn (.sl 7 none none) .e0)))))))))))), .L T0 (x4:List DT0), .L T0 (x1.2.2.2.2.2.2.2.2.2.2.1:List DT0), .L T1 (x1.2.2.2.2.2.2.2.2.2.2.2:List DT1), .L T0 (x3.2.2.2.2.2.2.2.2.2.2.1:List DT0), .L T1 (x3.2.2.2.2.2.2.2.2.2.2.2:List DT1)]
noncomputable def S52_7:(DT2×DT0×DT2×(List DT0)×Bool×Int)→St:=fun(x1,x2,x3,x4,x5,x6)=>stC [(2, .ptr 0 0 0),(3, .ptr 1 0 0),(4, .ptr 2 0 0),(5, .sl 3 none none),(6,pB x5),(7,pI x6)] [.B (.cn (pI x1.1) (.cn (pI x1.2.1) (.cn (pI x1.2.2.1) (.cn (pI x1.2.2.2.1) (.cn (pI x1.2.2.2.2.1) (.cn (pI x1.2.2.2.2.2.1) (.cn (pI x1.2.2.2.2.2.2.1) (.cn (pI x1.2.2.2.2.2.2.2.1) (.cn (pI x1.2.2.2.2.2.2.2.2.1) (.cn (pI x1.2.2.2.2.2.2.2.2.2.1) (.cn (.sl 4 none none) (.cn (.sl 5 none none) .e0)))))))))))), .B (.cn (pI x2.1) (.cn (.sl 6 none none) (.cn (pB x2.2.2) .e0))), .B (.cn (pI x3.1) (.cn (pI x3.2.1) (.cn (pI x3.2.2.1) (.cn (pI x3.2.2.2.1) (.cn (pI x3.2.2.2.2.1) (.cn (pI x3.2.2.2.2.2.1) (.cn (pI x3.2.2.2.2.2.2.1) (.cn (pI x3.2.2.2.2.2.2.2.1) (.cn (pI x3.2.2.2.2.2.2.2.2.1) (.cn (pI x3.2.2.2.2.2.2.2.2.2.1) (.cn (.sl 7 none none) (.cn (.sl 8 none none) .e0)))))))))))), .L T0 (x4:List DT0), .L T0 (x1.2.2.2.2.2.2.2.2.2.2.1:List DT0), .L T1 (x1.2.2.2.2.2.2.2.2.2.2.2:List DT1), .L tY (x2.2.1:List Int), .L T0 (x3.2.2.2.2.2.2.2.2.2.2.1:List DT0), .L T1 (x3.2.2.2.2.2.2.2.2.2.2.2:List DT1)]
noncomputable def S52_8:(DT2×DT2×(List DT0))→St:=fun(x1,x2,x3)=>stC [(2, .ptr 0 0 0),(4, .ptr 1 0 0),(5, .sl 2 none none)] [.B (.cn (pI x1.1) (.cn (pI x1.2.1) (.cn (pI x1.2.2.1) (.cn (pI x1.2.2.2.1) (.cn (pI x1.2.2.2.2.1) (.cn (pI x1.2.2.2.2.2.1) (.cn (pI x1.2.2.2.2.2.2.1) (.cn (pI x1.2.2.2.2.2.2.2.1) (.cn (pI x1.2.2.2.2.2.2.2.2.1) (.cn (pI x1.2.2.2.2.2.2.2.2.2.1) (.cn (.sl 3 none none) (.cn (.sl 4 none none) .e0)))))))))))), .B (.cn (pI x2.1) (.cn (pI x2.2.1) (.cn (pI x2.2.2.1) (.cn (pI x2.2.2.2.1) (.cn (pI x2.2.2.2.2.1) (.cn (pI x2.2.2.2.2.2.1) (.cn (pI x2.2.2.2.2.2.2.1) (.cn (pI x2.2.2.2.2.2.2.2.1) (.cn (pI x2.2.2.2.2.2.2.2.2.1) (.cn (pI x2.2.2.2.2.2.2.2.2.2.1) (.cn (.sl 5 none none) (.cn (.sl 6 none none) .e0)))))))))))), .L T0 (x3:List DT0), .L T0 (x1.2.2.2.2.2.2.2.2.2.2.1:List DT0), .L T1 (x1.2.2.2.2.2.2.2.2.2.2.2:List DT1), .L T0 (x2.2.2.2.2.2.2.2.2.2.2.1:List DT0), .L T1 (x2.2.2.2.2.2.2.2.2.2.2.2:List DT1)]
noncomputable def S52_9:(DT2×DT0×DT2×(List DT0)×Bool)→St:=fun(x1,x2,x3,x4,x5)=>stC [(2, .ptr 0 0 0),(3, .ptr 1 0 0),(4, .ptr 2 0 0),(5, .sl 3 none none),(6,pB x5)] [.B (.cn (pI x1.1) (.cn (pI x1.2.1) (.cn (pI x1.2.2.1) (.cn (pI x1.2.2.2.1) (.cn (pI x1.2.2.2.2.1) (.cn (pI x1.2.2.2.2.2.1) (.cn (pI x1.2.2.2.2.2.2.1) (.cn (pI x1.2.2.2.2.2.2.2.1) (.cn (pI x1.2.2.2.2.2.2.2.2.1) (.cn (pI x1.2.2.2.2.2.2.2.2.2.1) (.cn (.sl 4 none none) (.cn (.sl 5 none none) .e0)))))))))))), .B (.cn (pI x2.1) (.cn (.sl 6 none none) (.cn (pB x2.2.2) .e0))), .B (.cn (pI x3.1) (.cn (pI x3.2.1) (.cn (pI x3.2.2.1) (.cn (pI x3.2.2.2.1) (.cn (pI x3.2.2.2.2.1) (.cn (pI x3.2.2.2.2.2.1) (.cn (pI x3.2.2.2.2.2.2.1) (.cn (pI x3.2.2.2.2.2.2.2.1) (.cn (pI x3.2.2.2.2.2.2.2.2.1) (.cn (pI x3.2.2.2.2.2.2.2.2.2.1) (.cn (.sl 7 none none) (.cn (.sl 8 none none) .e0)))))))))))), .L T0 (x4:List DT0), .L T0 (x1.2.2.2.2.2.2.2.2.2.2.1:List DT0), .L T1 (x1.2.2.2.2.2.2.2.2.2.2.2:List DT1), .L tY (x2.2.1:List Int), .L T0 (x3.2.2.2.2.2.2.2.2.2.2.1:List DT0), .L T1 (x3.2.2.2.2.2.2.2.2.2.2.2:List DT1)]
noncomputable def e52 (k:Nat):List (Nat×List Nat×Spec):=[(48,[],p48 k),(79,[],p79 k)]
noncomputable def h52:H:=(hr (hr (hr (hr (.n [] [.own 4 (some 10) T0, .own 4 (some 11) T1, .own 5 none T0, .kp [2,3,4,5,6]] .d (.n [] [.kp [2,4,5]] (.n [] [.kp [2,3,4,5,6,7]] .d (.n [] [.kp [2,4,5]] (.n [.frz 3 (some 1), .kp [2,3,4,5,6,7]] [.frz 3 (some 1), .kp [2,3,4,5,6,7]] (.n [] [.kp [2,3,4,5,6,7]] (hr (hr (.n [.kp [2,4,5]] [] .d .d))) (hl (.n [] [.kp [2,3,4,5,6,7]] (.n [] [.kp [2,3,4,5,6,7]] (.n [] [.kp [2,3,4,5,6,7,40]] .d .d) .d) .d))) .d) .d)) (hr (hr (.n [.kp [4]] [] .d .d)))))))))
noncomputable def s52 (k:Nat):SumT (mkE (e52 k)) 0 k (bodyOf Tryz.f52) h52 [.kp [4]] d52.St S52_1 S52_1 q0:=
 .pre 5 S52_9 (fun(x1,x2) N R Z=>f48 k x1 fun x3=>if x2.2.1.length*1≤room then(N (x3,x2,(0,0,0,0,0,0,0,0,0,0,[],[]),[],false))else none)
 (.seq S52_8
 (.pre 1 S52_7 (fun(x4,x5,x6,x7,x8) N R Z=>N (x4,x5,x6,x7,x8,0))
  (.blockP (.loop S52_3 (fun x=>x)
  (.pre 1 S52_3 (fun(x15,x16,x17,x18,x19,x20) N R Z=>bif decide (x20≤((x15.2.2.2.2.2.2.2.2.2.2.1.length:Nat):Int))then(N (x15,x16,x17,x18,x19,x20))else(Z (.inl (x15,x17,x18))))
  (.seq S52_3
  (.block (.seq S52_3
   (.pre 1 S52_2 (fun(x21,x22,x23,x24,x25,x26) N R Z=>bif !x25 then(bif x26==((x21.2.2.2.2.2.2.2.2.2.2.1.length:Nat):Int)then(N (x21,x22,x23,x24,x25,x26,true))else(if 0≤x26∧x26<(x21.2.2.2.2.2.2.2.2.2.2.1.length:Int)then(N (x21,x22,x23,x24,x25,x26,decide ((x21.2.2.2.2.2.2.2.2.2.2.1.getD (x26.toNat) zT0).1≥x22.1)))else none))else(N (x21,x22,x23,x24,x25,x26,false)))
    (.leaf fun(x30,x31,x32,x33,x34,x35,x36) N R Z=>bif x36 then(bif x31.2.2 then(if(x33.length+[x31].length)*40≤room then(N (x30,x31,x32,x33++[x31],true,x35))else none)else(f79 k x31.2.1 fun x43=>bif !x43 then(if(x33.length+[x31].length)*40≤room then(N (x30,x31,x32,x33++[x31],true,x35))else none)else(N (x30,x31,x32,x33,true,x35))))else(N (x30,x31,x32,x33,x34,x35))))
   (.leaf fun(x37,x38,x39,x40,x41,x42) N R Z=>bif decide (x42<((x37.2.2.2.2.2.2.2.2.2.2.1.length:Nat):Int))then(if 0≤x42∧x42<(x37.2.2.2.2.2.2.2.2.2.2.1.length:Int)then(bif ((x37.2.2.2.2.2.2.2.2.2.2.1.getD (x42.toNat) zT0).1) !=x38.1 then(if 0≤x42∧x42<(x37.2.2.2.2.2.2.2.2.2.2.1.length:Int)then(if(x40.length+[(x37.2.2.2.2.2.2.2.2.2.2.1.getD (x42.toNat) zT0)].length)*40≤room then(N (x37,x38,x39,x40++[(x37.2.2.2.2.2.2.2.2.2.2.1.getD (x42.toNat) zT0)],x41,x42))else none)else none)else(N (x37,x38,x39,x40,x41,x42)))else none)else(N (x37,x38,x39,x40,x41,x42)))))
  (.leaf fun(x44,x45,x46,x47,x48,x49) N R Z=>N (x44,x45,x46,x47,x48,w64 (x49+1))))))))
 (.leaf fun(x27,x28,x29) N R Z=>R (x27.1,x27.2.1,x27.2.2.1,x27.2.2.2.1,x27.2.2.2.2.1,x27.2.2.2.2.2.1,x27.2.2.2.2.2.2.1,x27.2.2.2.2.2.2.2.1,x27.2.2.2.2.2.2.2.2.1,x27.2.2.2.2.2.2.2.2.2.1,x29,x27.2.2.2.2.2.2.2.2.2.2.2)))
noncomputable def f52 {α:Type} (k:Nat) (x1:DT2) (x2:DT0) (K:DT2→Option α):Option α:=
  (s52 k).F (x1,x2) (fun x50=>K x50) (fun x50=>K x50) fun z=>nomatch z
noncomputable def p52 (k:Nat):Spec:={ own:=[false,false],run:=fun a o K=>(d52.dec a o).bind fun x=>f52 k x.1 x.2 fun x50=>K (o48 x50) }
theorem i52 (k:Nat):Impl Tryz.prog glTab 52 (p52 k):=
  .of w0 (l:=e52 k) ⟨i48 k,i79 k,trivial⟩ (s52 k) (dA_ok (dS_ok T2) (d1_ok (dS_ok T0))) _ fun x50 K=>K (o48 x50)
noncomputable def d24:Dec (DT2×DT1):=dA (dS T2) (d1 (dS T1))
noncomputable def S24_2:(DT2×DT1×DT2×(List Int)×Int)→St:=fun(x1,x2,x3,x4,x5)=>stC [(2, .ptr 0 0 0),(3, .ptr 1 0 0),(4, .ptr 2 0 0),(6, .sl 3 none none),(7,pI x5)] [.B (toC T2 x1), .B (toC T1 x2), .B (.cn (pI x3.1) (.cn (pI x3.2.1) (.cn (pI x3.2.2.1) (.cn (pI x3.2.2.2.1) (.cn (pI x3.2.2.2.2.1) (.cn (pI x3.2.2.2.2.2.1) (.cn (pI x3.2.2.2.2.2.2.1) (.cn (pI x3.2.2.2.2.2.2.2.1) (.cn (pI x3.2.2.2.2.2.2.2.2.1) (.cn (pI x3.2.2.2.2.2.2.2.2.2.1) (.cn (.sl 4 none none) (.cn (.sl 5 none none) .e0)))))))))))), .L tI (x4:List Int), .L T0 (x3.2.2.2.2.2.2.2.2.2.2.1:List DT0), .L T1 (x3.2.2.2.2.2.2.2.2.2.2.2:List DT1)]
noncomputable def S24_4:(DT2×DT2)→St:=fun(x1,x2)=>stC [(2, .ptr 0 0 0),(4, .ptr 1 0 0)] [.B (toC T2 x1), .B (.cn (pI x2.1) (.cn (pI x2.2.1) (.cn (pI x2.2.2.1) (.cn (pI x2.2.2.2.1) (.cn (pI x2.2.2.2.2.1) (.cn (pI x2.2.2.2.2.2.1) (.cn (pI x2.2.2.2.2.2.2.1) (.cn (pI x2.2.2.2.2.2.2.2.1) (.cn (pI x2.2.2.2.2.2.2.2.2.1) (.cn (pI x2.2.2.2.2.2.2.2.2.2.1) (.cn (.sl 2 none none) (.cn (.sl 3 none none) .e0)))))))))))), .L T0 (x2.2.2.2.2.2.2.2.2.2.2.1:List DT0), .L T1 (x2.2.2.2.2.2.2.2.2.2.2.2:List DT1)]
noncomputable def S24_5:(DT2×DT1×DT2×(List Int))→St:=fun(x1,x2,x3,x4)=>stC [(2, .ptr 0 0 0),(3, .ptr 1 0 0),(4, .ptr 2 0 0),(6, .sl 3 none none)] [.B (toC T2 x1), .B (toC T1 x2), .B (.cn (pI x3.1) (.cn (pI x3.2.1) (.cn (pI x3.2.2.1) (.cn (pI x3.2.2.2.1) (.cn (pI x3.2.2.2.2.1) (.cn (pI x3.2.2.2.2.2.1) (.cn (pI x3.2.2.2.2.2.2.1) (.cn (pI x3.2.2.2.2.2.2.2.1) (.cn (pI x3.2.2.2.2.2.2.2.2.1) (.cn (pI x3.2.2.2.2.2.2.2.2.2.1) (.cn (.sl 4 none none) (.cn (.sl 5 none none) .e0)))))))))))), .L tI (x4:List Int), .L T0 (x3.2.2.2.2.2.2.2.2.2.2.1:List DT0), .L T1 (x3.2.2.2.2.2.2.2.2.2.2.2:List DT1)]
noncomputable def S24_6:(DT2×DT1×DT2×Bool)→St:=fun(x1,x2,x3,x4)=>stC [(2, .ptr 0 0 0),(3, .ptr 1 0 0),(4, .ptr 2 0 0),(27,pB x4)] [.B (toC T2 x1), .B (toC T1 x2), .B (.cn (pI x3.1) (.cn (pI x3.2.1) (.cn (pI x3.2.2.1) (.cn (pI x3.2.2.2.1) (.cn (pI x3.2.2.2.2.1) (.cn (pI x3.2.2.2.2.2.1) (.cn (pI x3.2.2.2.2.2.2.1) (.cn (pI x3.2.2.2.2.2.2.2.1) (.cn (pI x3.2.2.2.2.2.2.2.2.1) (.cn (pI x3.2.2.2.2.2.2.2.2.2.1) (.cn (.sl 3 none none) (.cn (.sl 4 none none) .e0)))))))))))), .L T0 (x3.2.2.2.2.2.2.2.2.2.2.1:List DT0), .L T1 (x3.2.2.2.2.2.2.2.2.2.2.2:List DT1)]
noncomputable def S24_7:(DT2×DT1×DT2×Int)→St:=fun(x1,x2,x3,x4)=>stC [(2, .ptr 0 0 0),(3, .ptr 1 0 0),(4, .ptr 2 0 0),(9,pI x4)] [.B (toC T2 x1), .B (toC T1 x2), .B (.cn (pI x3.1) (.cn (pI x3.2.1) (.cn (pI x3.2.2.1) (.cn (pI x3.2.2.2.1) (.cn (pI x3.2.2.2.2.1) (.cn (pI x3.2.2.2.2.2.1) (.cn (pI x3.2.2.2.2.2.2.1) (.cn (pI x3.2.2.2.2.2.2.2.1) (.cn (pI x3.2.2.2.2.2.2.2.2.1) (.cn (pI x3.2.2.2.2.2.2.2.2.2.1) (.cn (.sl 3 none none) (.cn (.sl 4 none none) .e0)))))))))))), .L T0 (x3.2.2.2.2.2.2.2.2.2.2.1:List DT0), .L T1 (x3.2.2.2.2.2.2.2.2.2.2.2:List DT1)]
noncomputable def S24_9:(DT2×DT1×DT2)→St:=fun(x1,x2,x3)=>stC [(2, .ptr 0 0 0),(3, .ptr 1 0 0),(4, .ptr 2 0 0)] [.B (toC T2 x1), .B (toC T1 x2), .B (.cn (pI x3.1) (.cn (pI x3.2.1) (.cn (pI x3.2.2.1) (.cn (pI x3.2.2.2.1) (.cn (pI x3.2.2.2.2.1) (.cn (pI x3.2.2.2.2.2.1) (.cn (pI x3.2.2.2.2.2.2.1) (.cn (pI x3.2.2.2.2.2.2.2.1) (.cn (pI x3.2.2.2.2.2.2.2.2.1) (.cn (pI x3.2.2.2.2.2.2.2.2.2.1) (.cn (.sl 3 none none) (.cn (.sl 4 none none) .e0)))))))))))), .L T0 (x3.2.2.2.2.2.2.2.2.2.2.1:List DT0), .L T1 (x3.2.2.2.2.2.2.2.2.2.2.2:List DT1)]
noncomputable def e24 (k:Nat):List (Nat×List Nat×Spec):=[(16,[],p16 k),(47,[],p47 k),(48,[],p48 k),(49,[],p49 k),(50,[],p50 k),(51,[],p51 k),(52,[],p52 k)]
noncomputable def h24:H:=(hr (.n [] [.own 4 (some 10) T0, .own 4 (some 11) T1, .kp [2,3,4]] (hr (hl (hr (.n [.kp [4,5]] [] .d .d)))) (.n [] [.kp [2,3,4]] (hr (hl (hr (.n [.kp [4,5]] [] .d .d)))) (.n [] [.kp [2,3,4]] (.n [] [.kp [2,3,4,27]] .d (hl (.n [] [.kp [2,3,4,6]] .d (.n [] [.kp [2,4]] (.n [] [.kp [2,3,4,6,7]] .d (.n [] [.kp [2,4]] (.n [.frz 2 (some 10), .frz 2 (some 11), .kp [2,3,4,6,7]] [.frz 2 (some 10), .frz 2 (some 11), .kp [2,3,4,6,7]] (hl (hr (hr (.n [.kp [2,4]] [] .d .d)))) .d) .d)) (hr (.n [.kp [4,5]] [] .d .d)))))) (.n [] [.kp [2,3,4]] (.n [] [.kp [2,3,4,9]] .d (.n [] [.kp [2,3,4]] (.n [.kp [2,3,4,9]] [.kp [2,3,4,9]] (hb (hr (hr (.n [.kp [2,3,4]] [] .d .d))) (hl (hl (hr (hl (hr (.n [.kp [4,5]] [] .d .d))))))) .d) .d)) (hb (hr (hl (hr (.n [.kp [4,5]] [] .d .d)))) (hr (hr (hr (.n [.kp [4,5]] [] .d .d))))))))))
noncomputable def s24 (k:Nat):SumT (mkE (e24 k)) 0 k (bodyOf Tryz.f24) h24 [.kp [4,5]] d24.St S23_1 S23_1 q0:=
 .pre 2 S24_9 (fun(x1,x2) N R Z=>f47 k x1 fun x3=>bif !x3 then(f48 k x1 fun x4=>R (x4,1))else(N (x1,x2,(0,0,0,0,0,0,0,0,0,0,[],[]))))
 (.pre 1 S24_9 (fun(x7,x8,x9) N R Z=>f16 k (x7.2.2.2.2.2.2.1,x7.2.2.2.2.2.2.2.1,x7.2.2.2.2.2.2.2.2.1,x7.2.2.2.2.2.2.2.2.2.1) fun x10=>f49 k (x7.1,x7.2.1,x7.2.2.1,x7.2.2.2.1,x7.2.2.2.2.1,x7.2.2.2.2.2.1) x10 x8 fun x11=>bif !x11 then(f48 k x7 fun x12=>R (x12,2))else(N (x7,x8,x9)))
 (.seq S24_9
 (.pre 1 S24_6 (fun(x13,x14,x15) N R Z=>N (x13,x14,x15,!x14.2.2.2.2.2.2.2.2.2.2))
  (.cond (fun(x16,x17,x18,x19)=>x19)
  (.pre 1 S24_5 (fun(x16,x17,x18,x19) N R Z=>f50 k (x16.1,x16.2.1,x16.2.2.1,x16.2.2.2.1,x16.2.2.2.2.1,x16.2.2.2.2.2.1) x17 fun x20=>N (x16,x17,x18,x20))
   (.seq S24_4
   (.pre 1 S24_2 (fun(x21,x22,x23,x24) N R Z=>N (x21,x22,x23,x24,0))
    (.blockP (.loop S24_2 (fun x=>x)
    (.leaf fun(x30,x31,x32,x33,x34) N R Z=>bif decide (x34<((x33.length:Nat):Int))then(if 0≤x34∧x34<(x33.length:Int)then(f51 k x30 (x33.getD (x34.toNat) (0:Int)) fun x35=>if 0≤x31.2.2.2.2.2.2.2.1∧x31.2.2.2.2.2.2.2.1<(x35.2.1.length:Int)then(if 0≤x31.2.2.2.2.2.2.2.1∧x31.2.2.2.2.2.2.2.1<(x35.2.1.length:Int)then(f52 k x30 (x35.1,x35.2.1.set (x31.2.2.2.2.2.2.2.1.toNat) (bitI .xor .u8 (x35.2.1.getD (x31.2.2.2.2.2.2.2.1.toNat) (0:Int)) x31.2.2.2.2.2.2.2.2.1),x35.2.2) fun x36=>N (x36,x31,x32,x33,w64 (x34+1)))else none)else none)else none)else(Z (.inl (x30,x32)))))))
   (.leaf fun(x37,x38) N R Z=>f48 k x37 fun x39=>R (x39,0))))
  (.leaf fun(x16,x17,x18,x19) N R Z=>N (x16,x17,x18))))
 (.seq S24_9
 (.pre 1 S24_7 (fun(x40,x41,x42) N R Z=>N (x40,x41,x42,0))
  (.blockP (.loop S24_7 (fun x=>x)
  (.leaf fun(x47,x48,x49,x50) N R Z=>bif decide (x50<(x47.2.2.2.2.2.2.2.2.2.2.2.length:Int))then(if 0≤x50∧x50<(x47.2.2.2.2.2.2.2.2.2.2.2.length:Int)then(bif eqI ((x47.2.2.2.2.2.2.2.2.2.2.2.getD (x50.toNat) zT1).1) x48.1 (eqI ((x47.2.2.2.2.2.2.2.2.2.2.2.getD (x50.toNat) zT1).2.1) x48.2.1 (eqI ((x47.2.2.2.2.2.2.2.2.2.2.2.getD (x50.toNat) zT1).2.2.1) x48.2.2.1 (eqI ((x47.2.2.2.2.2.2.2.2.2.2.2.getD (x50.toNat) zT1).2.2.2.1) x48.2.2.2.1 (eqI ((x47.2.2.2.2.2.2.2.2.2.2.2.getD (x50.toNat) zT1).2.2.2.2.1) x48.2.2.2.2.1 (eqI ((x47.2.2.2.2.2.2.2.2.2.2.2.getD (x50.toNat) zT1).2.2.2.2.2.1) x48.2.2.2.2.2.1 (eqI ((x47.2.2.2.2.2.2.2.2.2.2.2.getD (x50.toNat) zT1).2.2.2.2.2.2.1) x48.2.2.2.2.2.2.1 (eqI ((x47.2.2.2.2.2.2.2.2.2.2.2.getD (x50.toNat) zT1).2.2.2.2.2.2.2.1) x48.2.2.2.2.2.2.2.1 (eqI ((x47.2.2.2.2.2.2.2.2.2.2.2.getD (x50.toNat) zT1).2.2.2.2.2.2.2.2.1) x48.2.2.2.2.2.2.2.2.1 (eqI ((x47.2.2.2.2.2.2.2.2.2.2.2.getD (x50.toNat) zT1).2.2.2.2.2.2.2.2.2.1) x48.2.2.2.2.2.2.2.2.2.1 (eqB ((x47.2.2.2.2.2.2.2.2.2.2.2.getD (x50.toNat) zT1).2.2.2.2.2.2.2.2.2.2) x48.2.2.2.2.2.2.2.2.2.2 true))))))))))then(f48 k x47 fun x51=>R (x51,8))else(N (x47,x48,x49,w64 (x50+1))))else none)else(Z (.inl (x47,x48,x49)))))))
 (.leaf fun(x52,x53,x54) N R Z=>bif (x52.2.2.2.2.2.2.2.2.2.2.2.length:Int)==64 then(f48 k x52 fun x55=>R (x55,16))else(f48 k x52 fun x56=>if(x56.2.2.2.2.2.2.2.2.2.2.2.length+[x53].length)*72≤room then(R ((x56.1,x56.2.1,x56.2.2.1,x56.2.2.2.1,x56.2.2.2.2.1,x56.2.2.2.2.2.1,x56.2.2.2.2.2.2.1,x56.2.2.2.2.2.2.2.1,x56.2.2.2.2.2.2.2.2.1,x56.2.2.2.2.2.2.2.2.2.1,x56.2.2.2.2.2.2.2.2.2.2.1,x56.2.2.2.2.2.2.2.2.2.2.2++[x53]),0))else none)))))
noncomputable def f24 {α:Type} (k:Nat) (x1:DT2) (x2:DT1) (K:DT2→Int→Option α):Option α:=
  (s24 k).F (x1,x2) (fun(x5,x6)=>K x5 x6) (fun(x5,x6)=>K x5 x6) fun z=>nomatch z
noncomputable def p24 (k:Nat):Spec:={ own:=[false,false],run:=fun a o K=>(d24.dec a o).bind fun x=>f24 k x.1 x.2 fun x5 x6=>K (o23 (x5,x6)) }
theorem i24 (k:Nat):Impl Tryz.prog glTab 24 (p24 k):=
  .of w0 (l:=e24 k) ⟨i16 k,i47 k,i48 k,i49 k,i50 k,i51 k,i52 k,trivial⟩ (s24 k) (dA_ok (dS_ok T2) (d1_ok (dS_ok T1))) _ fun(x5,x6) K=>K (o23 (x5,x6))
noncomputable def e70 (k:Nat):List (Nat×List Nat×Spec):=[]
noncomputable def h70:H:=(hr (hr (.n [.kp [2]] [] .d .d)))
noncomputable def s70 (k:Nat):SumT (mkE (e70 k)) 0 k (bodyOf Tryz.f70) h70 [.kp [2]] d60.St S60_1 S60_1 q0:=
 .leaf fun x1 N R Z=>R [x1.1,x1.2.1,x1.2.2.1,x1.2.2.2.1,x1.2.2.2.2.1,x1.2.2.2.2.2]
noncomputable def f70 {α:Type} (k:Nat) (x1:DT4) (K:(List Int)→Option α):Option α:=
  (s70 k).F x1 (fun x2=>if 0+6≤x2.length then(K x2)else none) (fun x2=>if 0+6≤x2.length then(K x2)else none) fun z=>nomatch z
noncomputable def p70 (k:Nat):Spec:={ own:=[false],run:=fun a o K=>(d60.dec a o).bind fun x=>f70 k x fun x2=>K (o60 x2) }
theorem i70 (k:Nat):Impl Tryz.prog glTab 70 (p70 k):=
  .of w0 (l:=e70 k) trivial (s70 k) (d1_ok (dS_ok T4)) _ fun x2 K=>if 0+6≤x2.length then(K (o60 x2))else none
noncomputable def S64_2:(Int×DT4×Int)→St:=fun(x1,x2,x3)=>stC [(3,pI x1),(7, .agg (toC T4 x2)),(8,pI x3)] []
noncomputable def S64_4:Int→St:=fun x1=>stC [(3,pI x1)] []
noncomputable def S64_5:(DT4×Int)→St:=fun(x1,x2)=>stC [(1, .ptr 0 0 0),(3,pI x2)] [.B (toC T4 x1)]
noncomputable def e64 (k:Nat):List (Nat×List Nat×Spec):=[(70,[],p70 k)]
noncomputable def h64:H:=(hr (.n [] [.kp [1,3]] .d (.n [] [.kp [3]] (.n [] [.kp [3,7,8]] .d (.n [] [.kp [3]] (.n [.kp [3,7,8]] [.kp [3,7,8]] (hr (hb (hr (.n [.kp [3]] [] .d .d)) (hl (hl (hr (hl (hr (hl (hr (.n [.kp [2]] [] .d .d)))))))))) .d) .d)) (hr (.n [.kp [2]] [] .d .d)))))
noncomputable def s64 (k:Nat):SumT (mkE (e64 k)) 0 k (bodyOf Tryz.f64) h64 [.kp [2]] d60.St S37_1 S37_1 q0:=
 .pre 2 S64_5 (fun x1 N R Z=>N (x1,0))
 (.seq S64_4
 (.pre 1 S64_2 (fun(x2,x3) N R Z=>f70 k x2 fun x4=>N (x3,(x4.getD 0 (0:Int),x4.getD 1 (0:Int),x4.getD 2 (0:Int),x4.getD 3 (0:Int),x4.getD 4 (0:Int),x4.getD 5 (0:Int)),0))
  (.blockP (.loop S64_2 (fun x=>x)
  (.leaf fun(x8,x9,x10) N R Z=>bif decide (x10<6)then(if 0≤x10∧x10<(6:Int)then(bif decide ([x9.1,x9.2.1,x9.2.2.1,x9.2.2.2.1,x9.2.2.2.2.1,x9.2.2.2.2.2].getD (x10.toNat) (0:Int)<0)then(R false)else(bif decide ([x9.1,x9.2.1,x9.2.2.1,x9.2.2.2.1,x9.2.2.2.2.1,x9.2.2.2.2.2].getD (x10.toNat) (0:Int)>12)then(R false)else(N (w64 (x8+([x9.1,x9.2.1,x9.2.2.1,x9.2.2.2.1,x9.2.2.2.2.1,x9.2.2.2.2.2].getD (x10.toNat) (0:Int))),x9,w64 (x10+1)))))else none)else(Z (.inl x8))))))
 (.leaf fun x12 N R Z=>R (decide (x12≤12))))
noncomputable def f64 {α:Type} (k:Nat) (x1:DT4) (K:Bool→Option α):Option α:=
  (s64 k).F x1 (fun x11=>K x11) (fun x11=>K x11) fun z=>nomatch z
noncomputable def p64 (k:Nat):Spec:={ own:=[false],run:=fun a o K=>(d60.dec a o).bind fun x=>f64 k x fun x11=>K (o37 x11) }
theorem i64 (k:Nat):Impl Tryz.prog glTab 64 (p64 k):=
  .of w0 (l:=e64 k) ⟨i70 k,trivial⟩ (s64 k) (d1_ok (dS_ok T4)) _ fun x11 K=>K (o37 x11)
noncomputable def S41_2:(Int×DT4×Int)→St:=fun(x1,x2,x3)=>stC [(3,pI x1),(10, .agg (toC T4 x2)),(11,pI x3)] []
noncomputable def e41 (k:Nat):List (Nat×List Nat×Spec):=[(64,[],p64 k),(70,[],p70 k)]
noncomputable def h41:H:=(hr (hb (hr (hl (hr (.n [.kp [2]] [] .d .d)))) (.n [] [.kp [1,3]] .d (.n [] [.kp [3]] (.n [] [.kp [3,10,11]] .d (.n [] [.kp [3]] (.n [.kp [3,10,11]] [.kp [3,10,11]] (hr (hl (hr (.n [.kp [3]] [] .d .d)))) .d) .d)) (hr (.n [.kp [2]] [] .d .d))))))
noncomputable def s41 (k:Nat):SumT (mkE (e41 k)) 0 k (bodyOf Tryz.f41) h41 [.kp [2]] d60.St S16_1 S16_1 q0:=
 .pre 3 S64_5 (fun x1 N R Z=>f64 k x1 fun x2=>bif !x2 then(R 0)else(N (x1,1)))
 (.seq S64_4
 (.pre 1 S41_2 (fun(x4,x5) N R Z=>f70 k x4 fun x6=>N (x5,(x6.getD 0 (0:Int),x6.getD 1 (0:Int),x6.getD 2 (0:Int),x6.getD 3 (0:Int),x6.getD 4 (0:Int),x6.getD 5 (0:Int)),0))
  (.blockP (.loop S41_2 (fun x=>x)
  (.leaf fun(x10,x11,x12) N R Z=>bif decide (x12<6)then(if 0≤x12∧x12<(6:Int)then(if 0≤[x11.1,x11.2.1,x11.2.2.1,x11.2.2.2.1,x11.2.2.2.2.1,x11.2.2.2.2.2].getD (x12.toNat) (0:Int)then(N (w64 (x10*2^(min ([x11.1,x11.2.1,x11.2.2.1,x11.2.2.2.1,x11.2.2.2.2.1,x11.2.2.2.2.2].getD (x12.toNat) (0:Int)).toNat 64)),x11,w64 (x12+1)))else none)else none)else(Z (.inl x10))))))
 (.leaf fun x13 N R Z=>R x13))
noncomputable def f41 {α:Type} (k:Nat) (x1:DT4) (K:Int→Option α):Option α:=
  (s41 k).F x1 (fun x3=>K x3) (fun x3=>K x3) fun z=>nomatch z
noncomputable def p41 (k:Nat):Spec:={ own:=[false],run:=fun a o K=>(d60.dec a o).bind fun x=>f41 k x fun x3=>K (o16 x3) }
theorem i41 (k:Nat):Impl Tryz.prog glTab 41 (p41 k):=
  .of w0 (l:=e41 k) ⟨i64 k,i70 k,trivial⟩ (s41 k) (d1_ok (dS_ok T4)) _ fun x3 K=>K (o16 x3)
theorem i61 (k:Nat):Impl Tryz.prog glTab 61 (cloneS T0 40 k):=
  clone_impl w0 (fn:=Tryz.f61) (by kernel_rfl) ⟨by kernel_rfl,by kernel_rfl,by kernel_rfl⟩ (fun x xs=>by kernel_rfl) (fun c=>by kernel_rfl) (fun a c=>by kernel_rfl)
theorem i62 (k:Nat):Impl Tryz.prog glTab 62 (cloneS T1 72 k):=
  clone_impl w0 (fn:=Tryz.f62) (by kernel_rfl) ⟨by kernel_rfl,by kernel_rfl,by kernel_rfl⟩ (fun x xs=>by kernel_rfl) (fun c=>by kernel_rfl) (fun a c=>by kernel_rfl)
theorem i63 (k:Nat):Impl Tryz.prog glTab 63 (cloneS tY 1 k):=
  clone_impl w0 (fn:=Tryz.f63) (by kernel_rfl) ⟨by kernel_rfl,by kernel_rfl,by kernel_rfl⟩ (fun x xs=>by kernel_rfl) (fun c=>by kernel_rfl) (fun a c=>by kernel_rfl)
noncomputable def S39_2:(DT2×DT2×Int×Int)→St:=fun(x1,x2,x3,x4)=>stC [(1, .ptr 0 0 0),(2, .ptr 1 0 0),(14,pI x3),(15,pI x4)] [.B (.cn (pI x1.1) (.cn (pI x1.2.1) (.cn (pI x1.2.2.1) (.cn (pI x1.2.2.2.1) (.cn (pI x1.2.2.2.2.1) (.cn (pI x1.2.2.2.2.2.1) (.cn (pI x1.2.2.2.2.2.2.1) (.cn (pI x1.2.2.2.2.2.2.2.1) (.cn (pI x1.2.2.2.2.2.2.2.2.1) (.cn (pI x1.2.2.2.2.2.2.2.2.2.1) (.cn (.sl 2 none none) (.cn (.sl 3 none none) .e0)))))))))))), .B (.cn (pI x2.1) (.cn (pI x2.2.1) (.cn (pI x2.2.2.1) (.cn (pI x2.2.2.2.1) (.cn (pI x2.2.2.2.2.1) (.cn (pI x2.2.2.2.2.2.1) (.cn (pI x2.2.2.2.2.2.2.1) (.cn (pI x2.2.2.2.2.2.2.2.1) (.cn (pI x2.2.2.2.2.2.2.2.2.1) (.cn (pI x2.2.2.2.2.2.2.2.2.2.1) (.cn (.sl 4 none none) (.cn (.sl 5 none none) .e0)))))))))))), .L T0 (x1.2.2.2.2.2.2.2.2.2.2.1:List DT0), .L T1 (x1.2.2.2.2.2.2.2.2.2.2.2:List DT1), .L T0 (x2.2.2.2.2.2.2.2.2.2.2.1:List DT0), .L T1 (x2.2.2.2.2.2.2.2.2.2.2.2:List DT1)]
noncomputable def S39_4:(DT2×DT2)→St:=fun(x1,x2)=>stC [(1, .ptr 0 0 0),(2, .ptr 1 0 0)] [.B (.cn (pI x1.1) (.cn (pI x1.2.1) (.cn (pI x1.2.2.1) (.cn (pI x1.2.2.2.1) (.cn (pI x1.2.2.2.2.1) (.cn (pI x1.2.2.2.2.2.1) (.cn (pI x1.2.2.2.2.2.2.1) (.cn (pI x1.2.2.2.2.2.2.2.1) (.cn (pI x1.2.2.2.2.2.2.2.2.1) (.cn (pI x1.2.2.2.2.2.2.2.2.2.1) (.cn (.sl 2 none none) (.cn (.sl 3 none none) .e0)))))))))))), .B (.cn (pI x2.1) (.cn (pI x2.2.1) (.cn (pI x2.2.2.1) (.cn (pI x2.2.2.2.1) (.cn (pI x2.2.2.2.2.1) (.cn (pI x2.2.2.2.2.2.1) (.cn (pI x2.2.2.2.2.2.2.1) (.cn (pI x2.2.2.2.2.2.2.2.1) (.cn (pI x2.2.2.2.2.2.2.2.2.1) (.cn (pI x2.2.2.2.2.2.2.2.2.2.1) (.cn (.sl 4 none none) (.cn (.sl 5 none none) .e0)))))))))))), .L T0 (x1.2.2.2.2.2.2.2.2.2.2.1:List DT0), .L T1 (x1.2.2.2.2.2.2.2.2.2.2.2:List DT1), .L T0 (x2.2.2.2.2.2.2.2.2.2.2.1:List DT0), .L T1 (x2.2.2.2.2.2.2.2.2.2.2.2:List DT1)]
noncomputable def e39 (k:Nat):List (Nat×List Nat×Spec):=[(61,[],cloneS T0 40 k),(62,[],cloneS T1 72 k),(63,[],cloneS tY 1 k)]
noncomputable def h39:H:=(hr (.n [] [.own 2 (some 10) T0, .own 2 (some 11) T1, .kp [1,2]] .d (.n [] [.kp [1,2]] (.n [] [.kp [1,2,14,15]] .d (.n [] [.kp [1,2]] (.n [.kp [1,2,14,15]] [.kp [1,2,14,15]] (hr (hl (hr (.n [.kp [1,2]] [] .d .d)))) .d) .d)) (hr (.n [.kp [2]] [] .d .d)))))
noncomputable def s39 (k:Nat):SumT (mkE (e39 k)) 0 k (bodyOf Tryz.f39) h39 [.kp [2]] d47.St S48_1 S48_1 q0:=
 .pre 2 S39_4 (fun x1 N R Z=>cloneF 40 k x1.2.2.2.2.2.2.2.2.2.2.1 fun x2=>cloneF 72 k x1.2.2.2.2.2.2.2.2.2.2.2 fun x3=>N ((x1.1,x1.2.1,x1.2.2.1,x1.2.2.2.1,x1.2.2.2.2.1,x1.2.2.2.2.2.1,x1.2.2.2.2.2.2.1,x1.2.2.2.2.2.2.2.1,x1.2.2.2.2.2.2.2.2.1,x1.2.2.2.2.2.2.2.2.2.1,x2,x3),(0,0,0,0,0,0,0,0,0,0,[],[])))
 (.seq S39_4
 (.pre 1 S39_2 (fun(x4,x5) N R Z=>N (x4,x5,((x4.2.2.2.2.2.2.2.2.2.2.1.length:Nat):Int),0))
  (.blockP (.loop S39_2 (fun x=>x)
  (.leaf fun(x10,x11,x12,x13) N R Z=>bif decide (x13<x12)then(if 0≤x13∧x13<(x10.2.2.2.2.2.2.2.2.2.2.1.length:Int)then(cloneF 1 k ((x10.2.2.2.2.2.2.2.2.2.2.1.getD (x13.toNat) zT0).2.1) fun x14=>if 0≤x13∧x13<(x10.2.2.2.2.2.2.2.2.2.2.1.length:Int)then(N ((x10.1,x10.2.1,x10.2.2.1,x10.2.2.2.1,x10.2.2.2.2.1,x10.2.2.2.2.2.1,x10.2.2.2.2.2.2.1,x10.2.2.2.2.2.2.2.1,x10.2.2.2.2.2.2.2.2.1,x10.2.2.2.2.2.2.2.2.2.1,x10.2.2.2.2.2.2.2.2.2.2.1.set (x13.toNat) ((x10.2.2.2.2.2.2.2.2.2.2.1.getD (x13.toNat) zT0).1,x14,(x10.2.2.2.2.2.2.2.2.2.2.1.getD (x13.toNat) zT0).2.2),x10.2.2.2.2.2.2.2.2.2.2.2),x11,x12,w64 (x13+1)))else none)else none)else(Z (.inl (x10,x11)))))))
 (.leaf fun(x15,x16) N R Z=>R x15))
noncomputable def f39 {α:Type} (k:Nat) (x1:DT2) (K:DT2→Option α):Option α:=
  (s39 k).F x1 (fun x17=>K x17) (fun x17=>K x17) fun z=>nomatch z
noncomputable def p39 (k:Nat):Spec:={ own:=[false],run:=fun a o K=>(d47.dec a o).bind fun x=>f39 k x fun x17=>K (o48 x17) }
theorem i39 (k:Nat):Impl Tryz.prog glTab 39 (p39 k):=
  .of w0 (l:=e39 k) ⟨i61 k,i62 k,i63 k,trivial⟩ (s39 k) (d1_ok (dS_ok T2)) _ fun x17 K=>K (o48 x17)
noncomputable def e65 (k:Nat):List (Nat×List Nat×Spec):=[]
noncomputable def h65:H:=(hr (hb (hr (hl (hr (hb (hr (.n [.kp [2]] [] .d .d)) (hr (hl (hr (.n [.kp [2]] [] .d .d)))))))) (hr (.n [.kp [2]] [] .d .d))))
noncomputable def s65 (k:Nat):SumT (mkE (e65 k)) 0 k (bodyOf Tryz.f65) h65 [.kp [2]] d78.St S37_1 S37_1 q0:=
 .leaf fun x1 N R Z=>bif x1.1==1 then(bif x1.2.1==8 then(bif x1.2.2.1==1 then(R (x1.2.2.2==1))else(R false))else(R false))else(bif x1.1==2 then(bif decide (x1.2.1≥1)then(bif decide (x1.2.1≤32)then(bif decide (x1.2.2.1≥1)then(bif decide (x1.2.2.1≤8)then(bif decide (x1.2.2.2≥0)then(R (decide (x1.2.2.2≤w64 (Int.tdiv x1.2.2.1 2))))else(R false))else(R false))else(R false))else(R false))else(R false))else(R false))
noncomputable def f65 {α:Type} (k:Nat) (x1:DT5) (K:Bool→Option α):Option α:=
  (s65 k).F x1 (fun x2=>K x2) (fun x2=>K x2) fun z=>nomatch z
noncomputable def p65 (k:Nat):Spec:={ own:=[false],run:=fun a o K=>(d78.dec a o).bind fun x=>f65 k x fun x2=>K (o37 x2) }
theorem i65 (k:Nat):Impl Tryz.prog glTab 65 (p65 k):=
  .of w0 (l:=e65 k) trivial (s65 k) (d1_ok (dS_ok T5)) _ fun x2 K=>K (o37 x2)
noncomputable def e66 (k:Nat):List (Nat×List Nat×Spec):=[]
noncomputable def h66:H:=(hr (hr (.n [.kp [2]] [] .d .d)))
noncomputable def s66 (k:Nat):SumT (mkE (e66 k)) 0 k (bodyOf Tryz.f66) h66 [.kp [2]] d78.St S16_1 S16_1 q0:=
 .leaf fun x1 N R Z=>R (w64 (x1.2.1+x1.2.2.1))
noncomputable def f66 {α:Type} (k:Nat) (x1:DT5) (K:Int→Option α):Option α:=
  (s66 k).F x1 (fun x2=>K x2) (fun x2=>K x2) fun z=>nomatch z
noncomputable def p66 (k:Nat):Spec:={ own:=[false],run:=fun a o K=>(d78.dec a o).bind fun x=>f66 k x fun x2=>K (o16 x2) }
theorem i66 (k:Nat):Impl Tryz.prog glTab 66 (p66 k):=
  .of w0 (l:=e66 k) trivial (s66 k) (d1_ok (dS_ok T5)) _ fun x2 K=>K (o16 x2)
noncomputable def e92 (k:Nat):List (Nat×List Nat×Spec):=[]
noncomputable def h92:H:=(hr (hr (.n [.kp [2]] [] .d .d)))
noncomputable def s92 (k:Nat):SumT (mkE (e92 k)) 0 k (bodyOf Tryz.f92) h92 [.kp [2]] d175.St S37_1 S37_1 q0:=
 .leaf fun x1 N R Z=>R (x1 !=0)
noncomputable def f92 {α:Type} (k:Nat) (x1:Int) (K:Bool→Option α):Option α:=
  (s92 k).F x1 (fun x2=>K x2) (fun x2=>K x2) fun z=>nomatch z
noncomputable def p92 (k:Nat):Spec:={ own:=[false],run:=fun a o K=>(d175.dec a o).bind fun x=>f92 k x fun x2=>K (o37 x2) }
theorem i92 (k:Nat):Impl Tryz.prog glTab 92 (p92 k):=
  .of w0 (l:=e92 k) trivial (s92 k) (d1_ok (dP_ok tY)) _ fun x2 K=>K (o37 x2)
noncomputable def d112_92:Dec ((List Int)×Unit):=dA (dP (.sl tY)) (d1 (dC 92 dN))
noncomputable def S112_92_2:((List Int)×Int×Int)→St:=fun(x1,x2,x3)=>stC [(0, .p (.sl tY) (x1:List Int)),(1, .clo 92 (.e0)),(7,pI x2),(8,pI x3)] []
noncomputable def S112_92_5:((List Int))→St:=fun x1=>stC [(0, .p (.sl tY) (x1:List Int)),(1, .clo 92 (.e0))] []
noncomputable def e112_92 (k:Nat):List (Nat×List Nat×Spec):=[(92,[],p92 k)]
noncomputable def h112_92:H:=(.n [] [.kp [0,1]] .d (.n [] [.kp []] (.n [] [.kp [0,1,7,8]] .d (.n [] [.kp []] (.n [.kp [0,1,7,8]] [.kp [0,1,7,8]] (hr (hb (hr (.n [.kp []] [] .d .d)) (hl (hl (hr (hr (hl (hr (.n [.kp [4]] [] .d .d))))))))) .d) .d)) (hr (.n [.kp [4]] [] .d .d))))
noncomputable def s112_92 (k:Nat):SumT (mkE (e112_92 k)) 0 k (bodyOf Tryz.f112) h112_92 [.kp [4]] d112_92.St S37_4 S37_4 q0:=
 .pre 1 S112_92_5 (fun(x1,_) N R Z=>N x1)
 (.seq S79_4
 (.pre 1 S112_92_2 (fun x2 N R Z=>N (x2,(x2.length:Int),0))
  (.blockP (.loop S112_92_2 (fun x=>x)
  (.leaf fun(x6,x7,x8) N R Z=>bif decide (x8<x7)then(if 0≤x8∧x8<(x6.length:Int)then(f92 k (x6.getD (x8.toNat) (0:Int)) fun x9=>bif x9 then(R x8)else(N (x6,x7,w64 (x8+1))))else none)else(Z (.inl ()))))))
 (.leaf fun() N R Z=>R (-1)))
noncomputable def f112_92 {α:Type} (k:Nat) (x1:(List Int)) (K:Int→Option α):Option α:=
  (s112_92 k).F (x1,()) (fun x10=>K x10) (fun x10=>K x10) fun z=>nomatch z
noncomputable def p112_92 (k:Nat):Spec:={ own:=[false,false],run:=fun a o K=>(d112_92.dec a o).bind fun x=>f112_92 k x.1 fun x10=>K (o16 x10) }
theorem i112_92 (k:Nat):Impl Tryz.prog glTab 112 (p112_92 k):=
  .of w0 (l:=e112_92 k) ⟨i92 k,trivial⟩ (s112_92 k) (dA_ok (dP_ok (.sl tY)) (d1_ok (dC_ok 92 dN_ok))) _ fun x10 K=>K (o16 x10)
noncomputable def e91_92 (k:Nat):List (Nat×List Nat×Spec):=[(112,[92],p112_92 k)]
noncomputable def h91_92:H:=(hr (hr (.n [.kp [4]] [] .d .d)))
noncomputable def s91_92 (k:Nat):SumT (mkE (e91_92 k)) 0 k (bodyOf Tryz.f91) h91_92 [.kp [4]] d112_92.St S81_1 S81_1 q0:=
 .leaf fun(x1,_) N R Z=>f112_92 k x1 fun x2=>R (decide (x2≥0))
noncomputable def f91_92 {α:Type} (k:Nat) (x1:(List Int)) (K:Bool→Option α):Option α:=
  (s91_92 k).F (x1,()) (fun x3=>K x3) (fun x3=>K x3) fun z=>nomatch z
noncomputable def p91_92 (k:Nat):Spec:={ own:=[false,false],run:=fun a o K=>(d112_92.dec a o).bind fun x=>f91_92 k x.1 fun x3=>K (o37 x3) }
theorem i91_92 (k:Nat):Impl Tryz.prog glTab 91 (p91_92 k):=
  .of w0 (l:=e91_92 k) ⟨i112_92 k,trivial⟩ (s91_92 k) (dA_ok (dP_ok (.sl tY)) (d1_ok (dC_ok 92 dN_ok))) _ fun x3 K=>K (o37 x3)
noncomputable def d67:Dec DT0:=d1 (dS T0)
noncomputable def e67 (k:Nat):List (Nat×List Nat×Spec):=[(91,[92],p91_92 k)]
noncomputable def h67:H:=(hr (hr (.n [.kp [2]] [] .d .d)))
noncomputable def s67 (k:Nat):SumT (mkE (e67 k)) 0 k (bodyOf Tryz.f67) h67 [.kp [2]] d67.St S37_1 S37_1 q0:=
 .leaf fun x1 N R Z=>bif !x1.2.2 then(f91_92 k x1.2.1 fun x2=>R (!x2))else(R false)
noncomputable def f67 {α:Type} (k:Nat) (x1:DT0) (K:Bool→Option α):Option α:=
  (s67 k).F x1 (fun x3=>K x3) (fun x3=>K x3) fun z=>nomatch z
noncomputable def p67 (k:Nat):Spec:={ own:=[false],run:=fun a o K=>(d67.dec a o).bind fun x=>f67 k x fun x3=>K (o37 x3) }
theorem i67 (k:Nat):Impl Tryz.prog glTab 67 (p67 k):=
  .of w0 (l:=e67 k) ⟨i91_92 k,trivial⟩ (s67 k) (d1_ok (dS_ok T0)) _ fun x3 K=>K (o37 x3)
noncomputable def e93 (k:Nat):List (Nat×List Nat×Spec):=[]
noncomputable def h93:H:=(hr (hr (.n [.kp [2]] [] .d .d)))
noncomputable def s93 (k:Nat):SumT (mkE (e93 k)) 0 k (bodyOf Tryz.f93) h93 [.kp [2]] d80.St S37_1 S37_1 q0:=
 .leaf fun x1 N R Z=>bif decide (x1≥1)then(R (decide (x1≤6)))else(R false)
noncomputable def f93 {α:Type} (k:Nat) (x1:Int) (K:Bool→Option α):Option α:=
  (s93 k).F x1 (fun x2=>K x2) (fun x2=>K x2) fun z=>nomatch z
noncomputable def p93 (k:Nat):Spec:={ own:=[false],run:=fun a o K=>(d80.dec a o).bind fun x=>f93 k x fun x2=>K (o37 x2) }
theorem i93 (k:Nat):Impl Tryz.prog glTab 93 (p93 k):=
  .of w0 (l:=e93 k) trivial (s93 k) (d1_ok (dP_ok tI)) _ fun x2 K=>K (o37 x2)
noncomputable def e95 (k:Nat):List (Nat×List Nat×Spec):=[]
noncomputable def h95:H:=(hr (hr (.n [.kp [2]] [] .d .d)))
noncomputable def s95 (k:Nat):SumT (mkE (e95 k)) 0 k (bodyOf Tryz.f95) h95 [.kp [2]] d60.St S60_1 S60_1 q0:=
 .leaf fun x1 N R Z=>R [x1.1,x1.2.1,x1.2.2.1,x1.2.2.2.1,x1.2.2.2.2.1,x1.2.2.2.2.2]
noncomputable def f95 {α:Type} (k:Nat) (x1:DT4) (K:(List Int)→Option α):Option α:=
  (s95 k).F x1 (fun x2=>if 0+6≤x2.length then(K x2)else none) (fun x2=>if 0+6≤x2.length then(K x2)else none) fun z=>nomatch z
noncomputable def p95 (k:Nat):Spec:={ own:=[false],run:=fun a o K=>(d60.dec a o).bind fun x=>f95 k x fun x2=>K (o60 x2) }
theorem i95 (k:Nat):Impl Tryz.prog glTab 95 (p95 k):=
  .of w0 (l:=e95 k) trivial (s95 k) (d1_ok (dS_ok T4)) _ fun x2 K=>if 0+6≤x2.length then(K (o60 x2))else none
noncomputable def S94_2:((List Int)×DT4×Int)→St:=fun(x1,x2,x3)=>stC [(5, .ptr 0 0 0),(14, .agg (toC T4 x2)),(15,pI x3)] [.L tI (x1:List Int)]
noncomputable def S94_5:(DT4×(List Int))→St:=fun(x1,x2)=>stC [(3, .ptr 0 0 0),(5, .ptr 1 0 0)] [.B (toC T4 x1), .L tI (x2:List Int)]
noncomputable def e94 (k:Nat):List (Nat×List Nat×Spec):=[(64,[],p64 k),(70,[],p70 k),(95,[],p95 k)]
noncomputable def h94:H:=(hr (hb (hr (hl (hr (.n [.kp [4]] [] .d .d)))) (.n [] [.kp [3,5]] .d (.n [] [.kp []] (.n [] [.kp [5,14,15]] .d (.n [] [.kp []] (.n [.kp [5,14,15]] [.kp [5,14,15]] (hr (hb (hr (.n [.kp []] [] .d .d)) (hl (hl (hr (hr (hl (hr (.n [.kp [4]] [] .d .d))))))))) .d) .d)) (hr (.n [.kp [4]] [] .d .d))))))
noncomputable def s94 (k:Nat):SumT (mkE (e94 k)) 0 k (bodyOf Tryz.f94) h94 [.kp [4]] d81.St S81_1 S81_1 q0:=
 .pre 3 S94_5 (fun(x1,x2) N R Z=>f64 k x1 fun x3=>bif !x3 then(R false)else(f70 k x1 fun x5=>N (x2,[x5.getD 0 (0:Int),x5.getD 1 (0:Int),x5.getD 2 (0:Int),x5.getD 3 (0:Int),x5.getD 4 (0:Int),x5.getD 5 (0:Int)])))
 (.seq S79_4
 (.pre 1 S94_2 (fun(x6,x7) N R Z=>f95 k x6 fun x8=>N (x7,(x8.getD 0 (0:Int),x8.getD 1 (0:Int),x8.getD 2 (0:Int),x8.getD 3 (0:Int),x8.getD 4 (0:Int),x8.getD 5 (0:Int)),0))
  (.blockP (.loop S94_2 (fun x=>x)
  (.leaf fun(x12,x13,x14) N R Z=>bif decide (x14<6)then(if 0≤x14∧x14<(6:Int)then(bif decide ([x13.1,x13.2.1,x13.2.2.1,x13.2.2.2.1,x13.2.2.2.2.1,x13.2.2.2.2.2].getD (x14.toNat) (0:Int)<0)then(R false)else(if 0≤x14∧x14<(6:Int)then(if(x14.toNat)+0<x12.length then(if 0≤x12.getD ((x14.toNat)+0) (0:Int)then(bif (Int.fdiv ([x13.1,x13.2.1,x13.2.2.1,x13.2.2.2.1,x13.2.2.2.2.1,x13.2.2.2.2.2].getD (x14.toNat) (0:Int)) (2^(min (x12.getD ((x14.toNat)+0) (0:Int)).toNat 64))) !=0 then(R false)else(N (x12,x13,w64 (x14+1))))else none)else none)else none))else none)else(Z (.inl ()))))))
 (.leaf fun() N R Z=>R true))
noncomputable def f94 {α:Type} (k:Nat) (x1:DT4) (x2:DT4) (K:Bool→Option α):Option α:=
  (s94 k).F (x1,x2) (fun x4=>K x4) (fun x4=>K x4) fun z=>nomatch z
noncomputable def p94 (k:Nat):Spec:={ own:=[false,false],run:=fun a o K=>(d81.dec a o).bind fun x=>f94 k x.1 x.2 fun x4=>K (o37 x4) }
theorem i94 (k:Nat):Impl Tryz.prog glTab 94 (p94 k):=
  .of w0 (l:=e94 k) ⟨i64 k,i70 k,i95 k,trivial⟩ (s94 k) (dA_ok (dS_ok T4) (d1_ok (dS_ok T4))) _ fun x4 K=>K (o37 x4)
noncomputable def S68_2:(Int×DT1×DT4×Int)→St:=fun(x1,x2,x3,x4)=>stC [(1,pI x1),(5, .ptr 0 0 0),(22, .agg (toC T4 x3)),(23,pI x4)] [.B (toC T1 x2)]
noncomputable def S68_4:(Int×DT1)→St:=fun(x1,x2)=>stC [(1,pI x1),(5, .ptr 0 0 0)] [.B (toC T1 x2)]
noncomputable def e68 (k:Nat):List (Nat×List Nat×Spec):=[(93,[],p93 k),(94,[],p94 k),(95,[],p95 k)]
noncomputable def h68:H:=(hr (.n [] [.kp [1,5]] (hr (hl (hr (.n [.kp [6]] [] .d .d)))) (.n [] [.kp [1,5]] (.n [] [.kp [1,5,22,23]] .d (.n [] [.kp [1,5]] (.n [.kp [1,5,22,23]] [.kp [1,5,22,23]] (hr (hb (hr (.n [.kp [1,5]] [] .d .d)) (hl (hl (hr (hr (hl (hr (.n [.kp [6]] [] .d .d))))))))) .d) .d)) (hr (.n [.kp [6]] [] .d .d)))))
noncomputable def s68 (k:Nat):SumT (mkE (e68 k)) 0 k (bodyOf Tryz.f68) h68 [.kp [6]] d49.St S49_1 S49_1 q0:=
 .pre 2 S68_4 (fun(x1,x2,x3) N R Z=>f93 k x3.1 fun x4=>bif !x4 then(R false)else(f94 k x1 (x3.2.1,x3.2.2.1,x3.2.2.2.1,x3.2.2.2.2.1,x3.2.2.2.2.2.1,x3.2.2.2.2.2.2.1) fun x6=>bif !x6 then(R false)else(N (x2,x3))))
 (.seq S68_4
 (.pre 1 S68_2 (fun(x7,x8) N R Z=>f95 k (x8.2.1,x8.2.2.1,x8.2.2.2.1,x8.2.2.2.2.1,x8.2.2.2.2.2.1,x8.2.2.2.2.2.2.1) fun x9=>N (x7,x8,(x9.getD 0 (0:Int),x9.getD 1 (0:Int),x9.getD 2 (0:Int),x9.getD 3 (0:Int),x9.getD 4 (0:Int),x9.getD 5 (0:Int)),0))
  (.blockP (.loop S68_2 (fun x=>x)
  (.leaf fun(x14,x15,x16,x17) N R Z=>bif decide (x17<6)then(if 0≤x17∧x17<(6:Int)then(bif ([x16.1,x16.2.1,x16.2.2.1,x16.2.2.2.1,x16.2.2.2.2.1,x16.2.2.2.2.2].getD (x17.toNat) (0:Int)) !=0 then(if 0≤x15.1∧x15.1<(7:Int)then(if(x15.1.toNat)*6+0<namesT.length then(if 0≤x17∧x17<(6:Int)then(if(x17.toNat)+((x15.1.toNat)*6+0)<namesT.length then(bif !(namesT.getD ((x17.toNat)+((x15.1.toNat)*6+0)) false)then(R false)else(N (x14,x15,x16,w64 (x17+1))))else none)else none)else none)else none)else(N (x14,x15,x16,w64 (x17+1))))else none)else(Z (.inl (x14,x15)))))))
 (.leaf fun(x18,x19) N R Z=>bif decide (x19.2.2.2.2.2.2.2.1≥0)then(bif decide (x19.2.2.2.2.2.2.2.1<x18)then(bif x19.2.2.2.2.2.2.2.2.1 !=0 then(bif (bitI .andNot .u8 x19.2.2.2.2.2.2.2.2.2.1 x19.2.2.2.2.2.2.2.2.1)==0 then(bif x19.2.2.2.2.2.2.2.2.2.2 then(R true)else(R (x19.2.2.2.2.2.2.2.2.2.1==0)))else(R false))else(R false))else(R false))else(R false)))
noncomputable def f68 {α:Type} (k:Nat) (x1:DT4) (x2:Int) (x3:DT1) (K:Bool→Option α):Option α:=
  (s68 k).F (x1,x2,x3) (fun x5=>K x5) (fun x5=>K x5) fun z=>nomatch z
noncomputable def p68 (k:Nat):Spec:={ own:=[false,false,false],run:=fun a o K=>(d49.dec a o).bind fun x=>f68 k x.1 x.2.1 x.2.2 fun x5=>K (o37 x5) }
theorem i68 (k:Nat):Impl Tryz.prog glTab 68 (p68 k):=
  .of w0 (l:=e68 k) ⟨i93 k,i94 k,i95 k,trivial⟩ (s68 k) (dA_ok (dS_ok T4) (dA_ok (dP_ok tI) (d1_ok (dS_ok T1)))) _ fun x5 K=>K (o37 x5)
noncomputable def d96:Dec ((List DT1)×DT1):=dA (dP (.sl T1)) (d1 (dS T1))
noncomputable def S96_2:((List DT1)×DT1×Int×Int)→St:=fun(x1,x2,x3,x4)=>stC [(0, .p (.sl T1) (x1:List DT1)),(3, .ptr 0 0 0),(7,pI x3),(8,pI x4)] [.B (toC T1 x2)]
noncomputable def S96_5:((List DT1)×DT1)→St:=fun(x1,x2)=>stC [(0, .p (.sl T1) (x1:List DT1)),(3, .ptr 0 0 0)] [.B (toC T1 x2)]
noncomputable def e96 (k:Nat):List (Nat×List Nat×Spec):=[]
noncomputable def h96:H:=(.n [] [.kp [0,3]] .d (.n [] [.kp []] (.n [] [.kp [0,3,7,8]] .d (.n [] [.kp []] (.n [.kp [0,3,7,8]] [.kp [0,3,7,8]] (hr (hb (hr (.n [.kp []] [] .d .d)) (hl (hl (hr (hr (hl (hr (.n [.kp [4]] [] .d .d))))))))) .d) .d)) (hr (.n [.kp [4]] [] .d .d))))
noncomputable def s96 (k:Nat):SumT (mkE (e96 k)) 0 k (bodyOf Tryz.f96) h96 [.kp [4]] d96.St S37_4 S37_4 q0:=
 .pre 1 S96_5 (fun(x1,x2) N R Z=>N (x1,x2))
 (.seq S79_4
 (.pre 1 S96_2 (fun(x3,x4) N R Z=>N (x3,x4,(x3.length:Int),0))
  (.blockP (.loop S96_2 (fun x=>x)
  (.leaf fun(x9,x10,x11,x12) N R Z=>bif decide (x12<x11)then(if 0≤x12∧x12<(x9.length:Int)then(bif eqI x10.1 ((x9.getD (x12.toNat) zT1).1) (eqI x10.2.1 ((x9.getD (x12.toNat) zT1).2.1) (eqI x10.2.2.1 ((x9.getD (x12.toNat) zT1).2.2.1) (eqI x10.2.2.2.1 ((x9.getD (x12.toNat) zT1).2.2.2.1) (eqI x10.2.2.2.2.1 ((x9.getD (x12.toNat) zT1).2.2.2.2.1) (eqI x10.2.2.2.2.2.1 ((x9.getD (x12.toNat) zT1).2.2.2.2.2.1) (eqI x10.2.2.2.2.2.2.1 ((x9.getD (x12.toNat) zT1).2.2.2.2.2.2.1) (eqI x10.2.2.2.2.2.2.2.1 ((x9.getD (x12.toNat) zT1).2.2.2.2.2.2.2.1) (eqI x10.2.2.2.2.2.2.2.2.1 ((x9.getD (x12.toNat) zT1).2.2.2.2.2.2.2.2.1) (eqI x10.2.2.2.2.2.2.2.2.2.1 ((x9.getD (x12.toNat) zT1).2.2.2.2.2.2.2.2.2.1) (eqB x10.2.2.2.2.2.2.2.2.2.2 ((x9.getD (x12.toNat) zT1).2.2.2.2.2.2.2.2.2.2) true))))))))))then(R x12)else(N (x9,x10,x11,w64 (x12+1))))else none)else(Z (.inl ()))))))
 (.leaf fun() N R Z=>R (-1)))
noncomputable def f96 {α:Type} (k:Nat) (x1:(List DT1)) (x2:DT1) (K:Int→Option α):Option α:=
  (s96 k).F (x1,x2) (fun x13=>K x13) (fun x13=>K x13) fun z=>nomatch z
noncomputable def p96 (k:Nat):Spec:={ own:=[false,false],run:=fun a o K=>(d96.dec a o).bind fun x=>f96 k x.1 x.2 fun x13=>K (o16 x13) }
theorem i96 (k:Nat):Impl Tryz.prog glTab 96 (p96 k):=
  .of w0 (l:=e96 k) trivial (s96 k) (dA_ok (dP_ok (.sl T1)) (d1_ok (dS_ok T1))) _ fun x13 K=>K (o16 x13)
noncomputable def e69 (k:Nat):List (Nat×List Nat×Spec):=[(96,[],p96 k)]
noncomputable def h69:H:=(hr (hr (.n [.kp [4]] [] .d .d)))
noncomputable def s69 (k:Nat):SumT (mkE (e69 k)) 0 k (bodyOf Tryz.f69) h69 [.kp [4]] d96.St S81_1 S81_1 q0:=
 .leaf fun(x1,x2) N R Z=>f96 k x1 x2 fun x3=>R (decide (x3≥0))
noncomputable def f69 {α:Type} (k:Nat) (x1:(List DT1)) (x2:DT1) (K:Bool→Option α):Option α:=
  (s69 k).F (x1,x2) (fun x4=>K x4) (fun x4=>K x4) fun z=>nomatch z
noncomputable def p69 (k:Nat):Spec:={ own:=[false,false],run:=fun a o K=>(d96.dec a o).bind fun x=>f69 k x.1 x.2 fun x4=>K (o37 x4) }
theorem i69 (k:Nat):Impl Tryz.prog glTab 69 (p69 k):=
  .of w0 (l:=e69 k) ⟨i96 k,trivial⟩ (s69 k) (dA_ok (dP_ok (.sl T1)) (d1_ok (dS_ok T1))) _ fun x4 K=>K (o37 x4)
noncomputable def S40_2:(DT2×Int×Int×Int×(List DT0)×Int×Int)→St:=fun(x1,x2,x3,x4,x5,x6,x7)=>stC [(1, .ptr 0 0 0),(3,pI x2),(4,pI x3),(5,pI x4),(33, .p (.sl T0) (x5:List DT0)),(34,pI x6),(35,pI x7)] [.B (toC T2 x1)]
noncomputable def S40_4:(DT2×Int×(List DT1)×Int×Int)→St:=fun(x1,x2,x3,x4,x5)=>stC [(1, .ptr 0 0 0),(4,pI x2),(64, .p (.sl T1) (x3:List DT1)),(65,pI x4),(66,pI x5)] [.B (toC T2 x1)]
noncomputable def S40_7:(DT2×Int)→St:=fun(x1,x2)=>stC [(1, .ptr 0 0 0),(4,pI x2)] [.B (toC T2 x1)]
noncomputable def e40 (k:Nat):List (Nat×List Nat×Spec):=[(41,[],p41 k),(64,[],p64 k),(65,[],p65 k),(66,[],p66 k),(67,[],p67 k),(68,[],p68 k),(69,[],p69 k)]
noncomputable def h40:H:=(hr (.n [] [.kp [1]] (hr (hl (hr (.n [.kp [2]] [] .d .d)))) (hr (.n [] [.kp [1,3,4,5]] .d (.n [] [.kp [1,4]] (.n [] [.kp [1,3,4,5,33,34,35]] .d (.n [] [.kp [1,4]] (.n [.kp [1,3,4,5,33,34,35]] [.kp [1,3,4,5,33,34,35]] (hr (hb (hr (.n [.kp [1,4]] [] .d .d)) (hl (hl (hr (hl (hr (hl (hr (.n [.kp [2]] [] .d .d)))))))))) .d) .d)) (.n [] [.kp []] (.n [] [.kp [1,4,64,65,66]] .d (.n [] [.kp []] (.n [.kp [1,4,64,65,66]] [.kp [1,4,64,65,66]] (hr (hb (hr (.n [.kp []] [] .d .d)) (hl (hl (hr (hr (hl (hr (.n [.kp [2]] [] .d .d))))))))) .d) .d)) (hr (.n [.kp [2]] [] .d .d))))))))
noncomputable def s40 (k:Nat):SumT (mkE (e40 k)) 0 k (bodyOf Tryz.f40) h40 [.kp [2]] d47.St S37_1 S37_1 q0:=
 .pre 2 S47_16 (fun x1 N R Z=>f64 k (x1.1,x1.2.1,x1.2.2.1,x1.2.2.2.1,x1.2.2.2.2.1,x1.2.2.2.2.2.1) fun x2=>bif !x2 then(R false)else(f65 k (x1.2.2.2.2.2.2.1,x1.2.2.2.2.2.2.2.1,x1.2.2.2.2.2.2.2.2.1,x1.2.2.2.2.2.2.2.2.2.1) fun x4=>bif !x4 then(R false)else(bif decide ((x1.2.2.2.2.2.2.2.2.2.2.2.length:Int)>64)then(R false)else(N x1))))
 (.pre 2 S47_3 (fun x5 N R Z=>f41 k (x5.1,x5.2.1,x5.2.2.1,x5.2.2.2.1,x5.2.2.2.2.1,x5.2.2.2.2.2.1) fun x6=>f66 k (x5.2.2.2.2.2.2.1,x5.2.2.2.2.2.2.2.1,x5.2.2.2.2.2.2.2.2.1,x5.2.2.2.2.2.2.2.2.2.1) fun x7=>N (x5,x6,x7,(-1)))
 (.seq S40_7
 (.pre 1 S40_2 (fun(x8,x9,x10,x11) N R Z=>N (x8,x9,x10,x11,x8.2.2.2.2.2.2.2.2.2.2.1,(x8.2.2.2.2.2.2.2.2.2.2.1.length:Int),0))
  (.blockP (.loop S40_2 (fun x=>x)
  (.leaf fun(x19,x20,x21,x22,x23,x24,x25) N R Z=>bif decide (x25<x24)then(if 0≤x25∧x25<(x23.length:Int)then(bif decide ((x23.getD (x25.toNat) zT0).1≤x22)then(R false)else(bif decide ((x23.getD (x25.toNat) zT0).1≥x20)then(R false)else(bif (((x23.getD (x25.toNat) zT0).2.1).length:Int) !=x21 then(R false)else(f67 k (x23.getD (x25.toNat) zT0) fun x26=>bif x26 then(R false)else(N (x19,x20,x21,(x23.getD (x25.toNat) zT0).1,x23,x24,w64 (x25+1)))))))else none)else(Z (.inl (x19,x21)))))))
 (.seq S79_4
 (.pre 1 S40_4 (fun(x27,x28) N R Z=>N (x27,x28,x27.2.2.2.2.2.2.2.2.2.2.2,(x27.2.2.2.2.2.2.2.2.2.2.2.length:Int),0))
  (.blockP (.loop S40_4 (fun x=>x)
  (.leaf fun(x34,x35,x36,x37,x38) N R Z=>bif decide (x38<x37)then(if 0≤x38∧x38<(x36.length:Int)then(bif !((x36.getD (x38.toNat) zT1).2.2.2.2.2.2.2.2.2.2)then(R false)else(f68 k (x34.1,x34.2.1,x34.2.2.1,x34.2.2.2.1,x34.2.2.2.2.1,x34.2.2.2.2.2.1) x35 (x36.getD (x38.toNat) zT1) fun x39=>bif !x39 then(R false)else(if 0≤(0:Int)∧(0:Int)≤x38∧x38≤(x34.2.2.2.2.2.2.2.2.2.2.2.length:Int)then(f69 k (x34.2.2.2.2.2.2.2.2.2.2.2.take (x38.toNat)) (x36.getD (x38.toNat) zT1) fun x40=>bif x40 then(R false)else(N (x34,x35,x36,x37,w64 (x38+1))))else none)))else none)else(Z (.inl ()))))))
 (.leaf fun() N R Z=>R true))))
noncomputable def f40 {α:Type} (k:Nat) (x1:DT2) (K:Bool→Option α):Option α:=
  (s40 k).F x1 (fun x3=>K x3) (fun x3=>K x3) fun z=>nomatch z
noncomputable def p40 (k:Nat):Spec:={ own:=[false],run:=fun a o K=>(d47.dec a o).bind fun x=>f40 k x fun x3=>K (o37 x3) }
theorem i40 (k:Nat):Impl Tryz.prog glTab 40 (p40 k):=
  .of w0 (l:=e40 k) ⟨i41 k,i64 k,i65 k,i66 k,i67 k,i68 k,i69 k,trivial⟩ (s40 k) (d1_ok (dS_ok T2)) _ fun x3 K=>K (o37 x3)
noncomputable def d72:Dec (Int×Int):=dA (dP tI) (d1 (dR tI))
noncomputable def S72_1:Bool→St:=fun x1=>stC [(3,pB x1)] []
noncomputable def e72 (k:Nat):List (Nat×List Nat×Spec):=[]
noncomputable def h72:H:=(hr (hr (.n [.kp [3]] [] .d .d)))
noncomputable def s72 (k:Nat):SumT (mkE (e72 k)) 0 k (bodyOf Tryz.f72) h72 [.kp [3]] d72.St S72_1 S72_1 q0:=
 .leaf fun(x1,x2) N R Z=>bif decide (x1<0)then(R true)else(R (decide (x1≥x2)))
noncomputable def f72 {α:Type} (k:Nat) (x1:Int) (x2:Int) (K:Bool→Option α):Option α:=
  (s72 k).F (x1,x2) (fun x3=>K x3) (fun x3=>K x3) fun z=>nomatch z
noncomputable def p72 (k:Nat):Spec:={ own:=[false,false],run:=fun a o K=>(d72.dec a o).bind fun x=>f72 k x.1 x.2 fun x3=>K (o37 x3) }
theorem i72 (k:Nat):Impl Tryz.prog glTab 72 (p72 k):=
  .of w0 (l:=e72 k) trivial (s72 k) (dA_ok (dP_ok tI) (d1_ok (dR_ok tI))) _ fun x3 K=>K (o37 x3)
noncomputable def d97_72:Dec ((List Int)×Int):=dA (dP (.sl tI)) (d1 (dC 72 (d1 (dR tI))))
noncomputable def S97_72_2:((List Int)×Int×Int×Int)→St:=fun(x1,x2,x3,x4)=>stC [(0, .p (.sl tI) (x1:List Int)),(1, .clo 72 (.cn (.rp (.cn (pI x2) .e0) 0) .e0)),(7,pI x3),(8,pI x4)] []
noncomputable def S97_72_5:((List Int)×Int)→St:=fun(x1,x2)=>stC [(0, .p (.sl tI) (x1:List Int)),(1, .clo 72 (.cn (.rp (.cn (pI x2) .e0) 0) .e0))] []
noncomputable def e97_72 (k:Nat):List (Nat×List Nat×Spec):=[(72,[],p72 k)]
noncomputable def h97_72:H:=(.n [] [.kp [0,1]] .d (.n [] [.kp []] (.n [] [.kp [0,1,7,8]] .d (.n [] [.kp []] (.n [.kp [0,1,7,8]] [.kp [0,1,7,8]] (hr (hb (hr (.n [.kp []] [] .d .d)) (hl (hl (hr (hr (hl (hr (.n [.kp [4]] [] .d .d))))))))) .d) .d)) (hr (.n [.kp [4]] [] .d .d))))
noncomputable def s97_72 (k:Nat):SumT (mkE (e97_72 k)) 0 k (bodyOf Tryz.f97) h97_72 [.kp [4]] d97_72.St S37_4 S37_4 q0:=
 .pre 1 S97_72_5 (fun(x1,x2) N R Z=>N (x1,x2))
 (.seq S79_4
 (.pre 1 S97_72_2 (fun(x3,x4) N R Z=>N (x3,x4,(x3.length:Int),0))
  (.blockP (.loop S97_72_2 (fun x=>x)
  (.leaf fun(x9,x10,x11,x12) N R Z=>bif decide (x12<x11)then(if 0≤x12∧x12<(x9.length:Int)then(f72 k (x9.getD (x12.toNat) (0:Int)) x10 fun x13=>bif x13 then(R x12)else(N (x9,x10,x11,w64 (x12+1))))else none)else(Z (.inl ()))))))
 (.leaf fun() N R Z=>R (-1)))
noncomputable def f97_72 {α:Type} (k:Nat) (x1:(List Int)) (x2:Int) (K:Int→Option α):Option α:=
  (s97_72 k).F (x1,x2) (fun x14=>K x14) (fun x14=>K x14) fun z=>nomatch z
noncomputable def p97_72 (k:Nat):Spec:={ own:=[false,false],run:=fun a o K=>(d97_72.dec a o).bind fun x=>f97_72 k x.1 x.2 fun x14=>K (o16 x14) }
theorem i97_72 (k:Nat):Impl Tryz.prog glTab 97 (p97_72 k):=
  .of w0 (l:=e97_72 k) ⟨i72 k,trivial⟩ (s97_72 k) (dA_ok (dP_ok (.sl tI)) (d1_ok (dC_ok 72 (d1_ok (dR_ok tI))))) _ fun x14 K=>K (o16 x14)
noncomputable def e71_72 (k:Nat):List (Nat×List Nat×Spec):=[(97,[72],p97_72 k)]
noncomputable def h71_72:H:=(hr (hr (.n [.kp [4]] [] .d .d)))
noncomputable def s71_72 (k:Nat):SumT (mkE (e71_72 k)) 0 k (bodyOf Tryz.f71) h71_72 [.kp [4]] d97_72.St S81_1 S81_1 q0:=
 .leaf fun(x1,x2) N R Z=>f97_72 k x1 x2 fun x3=>R (decide (x3≥0))
noncomputable def f71_72 {α:Type} (k:Nat) (x1:(List Int)) (x2:Int) (K:Bool→Option α):Option α:=
  (s71_72 k).F (x1,x2) (fun x4=>K x4) (fun x4=>K x4) fun z=>nomatch z
noncomputable def p71_72 (k:Nat):Spec:={ own:=[false,false],run:=fun a o K=>(d97_72.dec a o).bind fun x=>f71_72 k x.1 x.2 fun x4=>K (o37 x4) }
theorem i71_72 (k:Nat):Impl Tryz.prog glTab 71 (p71_72 k):=
  .of w0 (l:=e71_72 k) ⟨i97_72 k,trivial⟩ (s71_72 k) (dA_ok (dP_ok (.sl tI)) (d1_ok (dC_ok 72 (d1_ok (dR_ok tI))))) _ fun x4 K=>K (o37 x4)
noncomputable def d73:Dec ((List Int)):=d1 (dP (.sl tI))
noncomputable def S73_2:((List Int)×Int)→St:=fun(x1,x2)=>stC [(0, .p (.sl tI) (x1:List Int)),(3,pI x2)] []
noncomputable def S73_5:((List Int))→St:=fun x1=>stC [(0, .p (.sl tI) (x1:List Int))] []
noncomputable def e73 (k:Nat):List (Nat×List Nat×Spec):=[]
noncomputable def h73:H:=(.n [] [.kp [0]] .d (.n [] [.kp []] (.n [] [.kp [0,3]] .d (.n [] [.kp []] (.n [.kp [0,3]] [.kp [0,3]] (hb (hr (hr (.n [.kp []] [] .d .d))) (hl (hl (hr (hl (hr (.n [.kp [2]] [] .d .d))))))) .d) .d)) (hr (.n [.kp [2]] [] .d .d))))
noncomputable def s73 (k:Nat):SumT (mkE (e73 k)) 0 k (bodyOf Tryz.f73) h73 [.kp [2]] d73.St S37_1 S37_1 q0:=
 .pre 1 S73_5 (fun x1 N R Z=>N x1)
 (.seq S79_4
 (.pre 1 S73_2 (fun x2 N R Z=>N (x2,1))
  (.blockP (.loop S73_2 (fun x=>x)
  (.leaf fun(x5,x6) N R Z=>bif decide (x6<(x5.length:Int))then(if 0≤w64 (x6-1)∧w64 (x6-1)<(x5.length:Int)then(if 0≤x6∧x6<(x5.length:Int)then(bif decide (x5.getD ((w64 (x6-1)).toNat) (0:Int)≥x5.getD (x6.toNat) (0:Int))then(R false)else(N (x5,w64 (x6+1))))else none)else none)else(Z (.inl ()))))))
 (.leaf fun() N R Z=>R true))
noncomputable def f73 {α:Type} (k:Nat) (x1:(List Int)) (K:Bool→Option α):Option α:=
  (s73 k).F x1 (fun x7=>K x7) (fun x7=>K x7) fun z=>nomatch z
noncomputable def p73 (k:Nat):Spec:={ own:=[false],run:=fun a o K=>(d73.dec a o).bind fun x=>f73 k x fun x7=>K (o37 x7) }
theorem i73 (k:Nat):Impl Tryz.prog glTab 73 (p73 k):=
  .of w0 (l:=e73 k) trivial (s73 k) (d1_ok (dP_ok (.sl tI))) _ fun x7 K=>K (o37 x7)
noncomputable def d42:Dec (DT5×(List Int)):=dA (dS T5) (d1 (dP (.sl tI)))
noncomputable def e42 (k:Nat):List (Nat×List Nat×Spec):=[(66,[],p66 k),(71,[72],p71_72 k),(73,[],p73 k)]
noncomputable def h42:H:=(hr (hr (hr (hb (hl (hr (hb (hr (.n [.kp [4]] [] .d .d)) (hr (hb (hr (.n [.kp [4]] [] .d .d)) (hr (hl (hr (.n [.kp [4]] [] .d .d))))))))) (hr (.n [.kp [4]] [] .d .d))))))
noncomputable def s42 (k:Nat):SumT (mkE (e42 k)) 0 k (bodyOf Tryz.f42) h42 [.kp [4]] d42.St S37_4 S37_4 q0:=
 .leaf fun(x1,x2) N R Z=>f66 k x1 fun x3=>bif x1.1==1 then(f71_72 k x2 x3 fun x4=>bif x4 then(R 2)else(f73 k x2 fun x6=>bif !x6 then(R 17)else(bif decide ((x2.length:Int)>0)then(R 3)else(R 0))))else(f71_72 k x2 x3 fun x7=>bif x7 then(R 2)else(f73 k x2 fun x8=>bif !x8 then(R 17)else(bif decide ((x2.length:Int)>x1.2.2.1)then(R 3)else(R 0))))
noncomputable def f42 {α:Type} (k:Nat) (x1:DT5) (x2:(List Int)) (K:Int→Option α):Option α:=
  (s42 k).F (x1,x2) (fun x5=>K x5) (fun x5=>K x5) fun z=>nomatch z
noncomputable def p42 (k:Nat):Spec:={ own:=[false,false],run:=fun a o K=>(d42.dec a o).bind fun x=>f42 k x.1 x.2 fun x5=>K (o16 x5) }
theorem i42 (k:Nat):Impl Tryz.prog glTab 42 (p42 k):=
  .of w0 (l:=e42 k) ⟨i66 k,i71_72 k,i73 k,trivial⟩ (s42 k) (dA_ok (dS_ok T5) (d1_ok (dP_ok (.sl tI)))) _ fun x5 K=>K (o16 x5)
noncomputable def e169 (k:Nat):List (Nat×List Nat×Spec):=[]
noncomputable def h169:H:=(hr (hr (.n [.kp [2]] [] .d .d)))
noncomputable def s169 (k:Nat):SumT (mkE (e169 k)) 0 k (bodyOf Tryz.f169) h169 [.kp [2]] d80.St S37_1 S37_1 q0:=
 .leaf fun x1 N R Z=>R (x1 !=x1)
noncomputable def f169 {α:Type} (k:Nat) (x1:Int) (K:Bool→Option α):Option α:=
  (s169 k).F x1 (fun x2=>K x2) (fun x2=>K x2) fun z=>nomatch z
noncomputable def p169 (k:Nat):Spec:={ own:=[false],run:=fun a o K=>(d80.dec a o).bind fun x=>f169 k x fun x2=>K (o37 x2) }
theorem i169 (k:Nat):Impl Tryz.prog glTab 169 (p169 k):=
  .of w0 (l:=e169 k) trivial (s169 k) (d1_ok (dP_ok tI)) _ fun x2 K=>K (o37 x2)
noncomputable def d141:Dec (Int×Int):=dA (dP tI) (d1 (dP tI))
noncomputable def e141 (k:Nat):List (Nat×List Nat×Spec):=[(169,[],p169 k)]
noncomputable def h141:H:=(hr (hr (hr (hb (hr (hl (hb (hr (hl (hr (.n [.kp [4]] [] .d .d)))) (hr (.n [.kp [4]] [] .d .d))))) (hb (hr (hl (hr (.n [.kp [4]] [] .d .d)))) (hb (hr (hl (hr (.n [.kp [4]] [] .d .d)))) (hb (hr (hl (hr (.n [.kp [4]] [] .d .d)))) (hr (.n [.kp [4]] [] .d .d)))))))))
noncomputable def s141 (k:Nat):SumT (mkE (e141 k)) 0 k (bodyOf Tryz.f141) h141 [.kp [4]] d141.St S37_4 S37_4 q0:=
 .leaf fun(x1,x2) N R Z=>f169 k x1 fun x3=>f169 k x2 fun x4=>bif x3 then(bif x4 then(R 0)else(R (-1)))else(bif x4 then(R 1)else(bif decide (x1<x2)then(R (-1))else(bif decide (x1>x2)then(R 1)else(R 0))))
noncomputable def f141 {α:Type} (k:Nat) (x1:Int) (x2:Int) (K:Int→Option α):Option α:=
  (s141 k).F (x1,x2) (fun x5=>K x5) (fun x5=>K x5) fun z=>nomatch z
noncomputable def p141 (k:Nat):Spec:={ own:=[false,false],run:=fun a o K=>(d141.dec a o).bind fun x=>f141 k x.1 x.2 fun x5=>K (o16 x5) }
theorem i141 (k:Nat):Impl Tryz.prog glTab 141 (p141 k):=
  .of w0 (l:=e141 k) ⟨i169 k,trivial⟩ (s141 k) (dA_ok (dP_ok tI) (d1_ok (dP_ok tI))) _ fun x5 K=>K (o16 x5)
noncomputable def d140:Dec (DT0×Int):=dA (dS T0) (d1 (dP tI))
noncomputable def e140 (k:Nat):List (Nat×List Nat×Spec):=[(141,[],p141 k)]
noncomputable def h140:H:=(hr (hr (.n [.kp [4]] [] .d .d)))
noncomputable def s140 (k:Nat):SumT (mkE (e140 k)) 0 k (bodyOf Tryz.f140) h140 [.kp [4]] d140.St S37_4 S37_4 q0:=
 .leaf fun(x1,x2) N R Z=>f141 k x1.1 x2 fun x3=>R x3
noncomputable def f140 {α:Type} (k:Nat) (x1:DT0) (x2:Int) (K:Int→Option α):Option α:=
  (s140 k).F (x1,x2) (fun x4=>K x4) (fun x4=>K x4) fun z=>nomatch z
noncomputable def p140 (k:Nat):Spec:={ own:=[false,false],run:=fun a o K=>(d140.dec a o).bind fun x=>f140 k x.1 x.2 fun x4=>K (o16 x4) }
theorem i140 (k:Nat):Impl Tryz.prog glTab 140 (p140 k):=
  .of w0 (l:=e140 k) ⟨i141 k,trivial⟩ (s140 k) (dA_ok (dS_ok T0) (d1_ok (dP_ok tI))) _ fun x4 K=>K (o16 x4)
noncomputable def d139_140:Dec ((List DT0)×Int×Unit):=dA (dP (.sl T0)) (dA (dP tI) (d1 (dC 140 dN)))
noncomputable def S139_140_1:(Int×Bool)→St:=fun(x1,x2)=>stC [(6,pI x1),(7,pB x2)] []
noncomputable def S139_140_2:((List DT0)×Int×Int×Int×Int)→St:=fun(x1,x2,x3,x4,x5)=>stC [(0, .p (.sl T0) (x1:List DT0)),(1,pI x2),(2, .clo 140 (.e0)),(8,pI x3),(9,pI x4),(10,pI x5)] []
noncomputable def S139_140_3:((List DT0)×Int×Int×Int)→St:=fun(x1,x2,x3,x4)=>stC [(0, .p (.sl T0) (x1:List DT0)),(1,pI x2),(2, .clo 140 (.e0)),(8,pI x3),(9,pI x4)] []
noncomputable def e139_140 (k:Nat):List (Nat×List Nat×Spec):=[(140,[],p140 k)]
noncomputable def h139_140:H:=(hr (hr (.n [] [.kp [0,1,2,8,9,10]] .d (hb (.n [] [.kp [0,1,2,8,9]] (.n [.kp [0,1,2,8,9,10]] [.kp [0,1,2,8,9,10]] (hl (hr (hr (.n [.kp [0,1,2,8,9]] [] .d .d)))) .d) .d) (hr (.n [.kp [6,7]] [] .d .d))))))
noncomputable def s139_140 (k:Nat):SumT (mkE (e139_140 k)) 0 k (bodyOf Tryz.f139) h139_140 [.kp [6,7]] d139_140.St S139_140_1 S139_140_1 q0:=
 .pre 3 S139_140_2 (fun(x1,x2,_) N R Z=>N (x1,x2,(x1.length:Int),0,(x1.length:Int)))
 (.seq S139_140_3
 (.block (.loop S139_140_2 (fun x=>x)
  (.leaf fun(x8,x9,x10,x11,x12) N R Z=>bif decide (x11<x12)then(if 0≤w64 (Int.fdiv (wu64 (w64 (x11+x12))) (2^1))∧w64 (Int.fdiv (wu64 (w64 (x11+x12))) (2^1))<(x8.length:Int)then(f140 k (x8.getD ((w64 (Int.fdiv (wu64 (w64 (x11+x12))) (2^1))).toNat) zT0) x9 fun x13=>bif decide (x13<0)then(N (x8,x9,x10,w64 ((w64 (Int.fdiv (wu64 (w64 (x11+x12))) (2^1)))+1),x12))else(N (x8,x9,x10,x11,w64 (Int.fdiv (wu64 (w64 (x11+x12))) (2^1)))))else none)else(Z (.inl (x8,x9,x10,x11))))))
 (.leaf fun(x14,x15,x16,x17) N R Z=>bif decide (x17<x16)then(if 0≤x17∧x17<(x14.length:Int)then(f140 k (x14.getD (x17.toNat) zT0) x15 fun x18=>R (x17,x18==0))else none)else(R (x17,false))))
noncomputable def f139_140 {α:Type} (k:Nat) (x1:(List DT0)) (x2:Int) (K:Int→Bool→Option α):Option α:=
  (s139_140 k).F (x1,x2,()) (fun(x19,x20)=>K x19 x20) (fun(x19,x20)=>K x19 x20) fun z=>nomatch z
noncomputable def o139_140:(Int×Bool)→FRes:=fun(x1,x2)=>{ ret:= .tup (.cn (pI x1) (.cn (pB x2) .e0)),objs:=[] }
noncomputable def p139_140 (k:Nat):Spec:={ own:=[false,false,false],run:=fun a o K=>(d139_140.dec a o).bind fun x=>f139_140 k x.1 x.2.1 fun x19 x20=>K (o139_140 (x19,x20)) }
theorem i139_140 (k:Nat):Impl Tryz.prog glTab 139 (p139_140 k):=
  .of w0 (l:=e139_140 k) ⟨i140 k,trivial⟩ (s139_140 k) (dA_ok (dP_ok (.sl T0)) (dA_ok (dP_ok tI) (d1_ok (dC_ok 140 dN_ok)))) _ fun(x19,x20) K=>K (o139_140 (x19,x20))
noncomputable def d115:Dec (DT2×Int):=dA (dR T2) (d1 (dP tI))
noncomputable def S115_1:(Int×Bool)→St:=fun(x1,x2)=>stC [(4,pI x1),(5,pB x2)] []
noncomputable def e115 (k:Nat):List (Nat×List Nat×Spec):=[(139,[140],p139_140 k)]
noncomputable def h115:H:=(hr (hr (.n [.kp [4,5]] [] .d .d)))
noncomputable def s115 (k:Nat):SumT (mkE (e115 k)) 0 k (bodyOf Tryz.f115) h115 [.kp [4,5]] d115.St S115_1 S115_1 q0:=
 .leaf fun(x1,x2) N R Z=>f139_140 k x1.2.2.2.2.2.2.2.2.2.2.1 x2 fun x3 x4=>R (x3,x4)
noncomputable def f115 {α:Type} (k:Nat) (x1:DT2) (x2:Int) (K:Int→Bool→Option α):Option α:=
  (s115 k).F (x1,x2) (fun(x5,x6)=>K x5 x6) (fun(x5,x6)=>K x5 x6) fun z=>nomatch z
noncomputable def p115 (k:Nat):Spec:={ own:=[false,false],run:=fun a o K=>(d115.dec a o).bind fun x=>f115 k x.1 x.2 fun x5 x6=>K (o139_140 (x5,x6)) }
theorem i115 (k:Nat):Impl Tryz.prog glTab 115 (p115 k):=
  .of w0 (l:=e115 k) ⟨i139_140 k,trivial⟩ (s115 k) (dA_ok (dR_ok T2) (d1_ok (dP_ok tI))) _ fun(x5,x6) K=>K (o139_140 (x5,x6))
noncomputable def e100 (k:Nat):List (Nat×List Nat×Spec):=[(63,[],cloneS tY 1 k),(66,[],p66 k),(115,[],p115 k)]
noncomputable def h100:H:=(hr (hr (hb (hr (hl (hr (.n [.kp [4]] [] .d .d)))) (hr (hr (hr (.n [.kp [4]] [] .d .d)))))))
noncomputable def s100 (k:Nat):SumT (mkE (e100 k)) 0 k (bodyOf Tryz.f100) h100 [.kp [4]] d115.St S51_1 S51_1 q0:=
 .leaf fun(x1,x2) N R Z=>f115 k x1 x2 fun x3 x4=>bif !x4 then(f66 k (x1.2.2.2.2.2.2.1,x1.2.2.2.2.2.2.2.1,x1.2.2.2.2.2.2.2.2.1,x1.2.2.2.2.2.2.2.2.2.1) fun x5=>if 0≤x5∧x5≤x5∧x5*1≤room∧x5<9223372036854775808 then(R (x2,List.replicate (x5.toNat) (0:Int),false))else none)else(if 0≤x3∧x3<(x1.2.2.2.2.2.2.2.2.2.2.1.length:Int)then(cloneF 1 k ((x1.2.2.2.2.2.2.2.2.2.2.1.getD (x3.toNat) zT0).2.1) fun x7=>R ((x1.2.2.2.2.2.2.2.2.2.2.1.getD (x3.toNat) zT0).1,x7,(x1.2.2.2.2.2.2.2.2.2.2.1.getD (x3.toNat) zT0).2.2))else none)
noncomputable def f100 {α:Type} (k:Nat) (x1:DT2) (x2:Int) (K:DT0→Option α):Option α:=
  (s100 k).F (x1,x2) (fun x6=>K x6) (fun x6=>K x6) fun z=>nomatch z
noncomputable def p100 (k:Nat):Spec:={ own:=[false,false],run:=fun a o K=>(d115.dec a o).bind fun x=>f100 k x.1 x.2 fun x6=>K (o51 x6) }
theorem i100 (k:Nat):Impl Tryz.prog glTab 100 (p100 k):=
  .of w0 (l:=e100 k) ⟨i63 k,i66 k,i115 k,trivial⟩ (s100 k) (dA_ok (dR_ok T2) (d1_ok (dP_ok tI))) _ fun x6 K=>K (o51 x6)
noncomputable def S118_1:DT4→St:=fun x1=>stC [(2, .ptr 0 0 0)] [.B (toC T4 x1)]
noncomputable def e118 (k:Nat):List (Nat×List Nat×Spec):=[]
noncomputable def h118:H:=(hr (hr (.n [.kp [2]] [] .d .d)))
noncomputable def s118 (k:Nat):SumT (mkE (e118 k)) 0 k (bodyOf Tryz.f118) h118 [.kp [2]] d60.St S118_1 S118_1 q0:=
 .leaf fun x1 N R Z=>if 0<[x1.1,x1.2.1,x1.2.2.1,x1.2.2.2.1,x1.2.2.2.2.1,x1.2.2.2.2.2].length then(if 1<[x1.1,x1.2.1,x1.2.2.1,x1.2.2.2.1,x1.2.2.2.2.1,x1.2.2.2.2.2].length then(if 2<[x1.1,x1.2.1,x1.2.2.1,x1.2.2.2.1,x1.2.2.2.2.1,x1.2.2.2.2.2].length then(if 3<[x1.1,x1.2.1,x1.2.2.1,x1.2.2.2.1,x1.2.2.2.2.1,x1.2.2.2.2.2].length then(if 4<[x1.1,x1.2.1,x1.2.2.1,x1.2.2.2.1,x1.2.2.2.2.1,x1.2.2.2.2.2].length then(if 5<[x1.1,x1.2.1,x1.2.2.1,x1.2.2.2.1,x1.2.2.2.2.1,x1.2.2.2.2.2].length then(R ([x1.1,x1.2.1,x1.2.2.1,x1.2.2.2.1,x1.2.2.2.2.1,x1.2.2.2.2.2].getD 0 (0:Int),[x1.1,x1.2.1,x1.2.2.1,x1.2.2.2.1,x1.2.2.2.2.1,x1.2.2.2.2.2].getD 1 (0:Int),[x1.1,x1.2.1,x1.2.2.1,x1.2.2.2.1,x1.2.2.2.2.1,x1.2.2.2.2.2].getD 2 (0:Int),[x1.1,x1.2.1,x1.2.2.1,x1.2.2.2.1,x1.2.2.2.2.1,x1.2.2.2.2.2].getD 3 (0:Int),[x1.1,x1.2.1,x1.2.2.1,x1.2.2.2.1,x1.2.2.2.2.1,x1.2.2.2.2.2].getD 4 (0:Int),[x1.1,x1.2.1,x1.2.2.1,x1.2.2.2.1,x1.2.2.2.2.1,x1.2.2.2.2.2].getD 5 (0:Int)))else none)else none)else none)else none)else none)else none
noncomputable def f118 {α:Type} (k:Nat) (x1:DT4) (K:DT4→Option α):Option α:=
  (s118 k).F x1 (fun x2=>K x2) (fun x2=>K x2) fun z=>nomatch z
noncomputable def o118:DT4→FRes:=fun x1=>{ ret:= .agg (toC T4 x1),objs:=[] }
noncomputable def p118 (k:Nat):Spec:={ own:=[false],run:=fun a o K=>(d60.dec a o).bind fun x=>f118 k x fun x2=>K (o118 x2) }
theorem i118 (k:Nat):Impl Tryz.prog glTab 118 (p118 k):=
  .of w0 (l:=e118 k) trivial (s118 k) (d1_ok (dS_ok T4)) _ fun x2 K=>K (o118 x2)
noncomputable def S101_4:(DT4×(List Int))→St:=fun(x1,x2)=>stC [(4, .ptr 0 0 0),(6, .ptr 1 0 0)] [.B (toC T4 x1), .L tI (x2:List Int)]
noncomputable def e101 (k:Nat):List (Nat×List Nat×Spec):=[(41,[],p41 k),(64,[],p64 k),(70,[],p70 k),(118,[],p118 k)]
noncomputable def h101:H:=(hr (hb (hl (hr (hb (hr (.n [.kp [4,5]] [] .d .d)) (hr (hl (hr (.n [.kp [4,5]] [] .d .d))))))) (hr (.n [] [.kp [1,4,6,7]] .d (.n [] [.kp [4,6]] (.n [] [.kp [1,4,6,7,8]] .d (.n [] [.kp [4,6]] (.n [.kp [1,4,6,7,8]] [.kp [1,4,6,7,8]] (hl (hr (hr (.n [.kp [4,6]] [] .d .d)))) .d) .d)) (hr (.n [.kp [4,5]] [] .d .d)))))))
noncomputable def s101 (k:Nat):SumT (mkE (e101 k)) 0 k (bodyOf Tryz.f101) h101 [.kp [4,5]] d83.St S83_1 S83_1 q0:=
 .pre 4 S83_5 (fun(x1,x2) N R Z=>f64 k x1 fun x3=>bif !x3 then(R ((0,0,0,0,0,0),1))else(bif decide (x2<0)then(R ((0,0,0,0,0,0),2))else(f41 k x1 fun x6=>bif decide (x2≥x6)then(R ((0,0,0,0,0,0),2))else(f70 k x1 fun x7=>N (x2,(0,0,0,0,0,0),[0,0,0,0,0,0],[x7.getD 0 (0:Int),x7.getD 1 (0:Int),x7.getD 2 (0:Int),x7.getD 3 (0:Int),x7.getD 4 (0:Int),x7.getD 5 (0:Int)])))))
 (.seq S101_4
 (.pre 1 S83_2 (fun(x8,x9,x10,x11) N R Z=>N (x8,x9,x10,x11,5))
  (.blockP (.loop S83_2 (fun x=>x)
  (.leaf fun(x17,x18,x19,x20,x21) N R Z=>bif decide (x21≥0)then(if 0≤x21∧x21<(6:Int)then(if(x21.toNat)+0<x20.length then(if 0≤x20.getD ((x21.toNat)+0) (0:Int)then(if 0≤x21∧x21<(6:Int)then(if(x21.toNat)+0<x19.length then(if 0≤x21∧x21<(6:Int)then(if(x21.toNat)+0<x20.length then(if 0≤x20.getD ((x21.toNat)+0) (0:Int)then(N (Int.fdiv x17 (2^(min (x20.getD ((x21.toNat)+0) (0:Int)).toNat 64)),x18,x19.set ((x21.toNat)+0) (bitI .and .i64 x17 (w64 ((w64 (1*2^(min (x20.getD ((x21.toNat)+0) (0:Int)).toNat 64)))-1))),x20,w64 (x21-1)))else none)else none)else none)else none)else none)else none)else none)else none)else(Z (.inl (x18,x19)))))))
 (.leaf fun(x22,x23) N R Z=>if 0+6≤x23.length then(f118 k (x23.getD 0 (0:Int),x23.getD 1 (0:Int),x23.getD 2 (0:Int),x23.getD 3 (0:Int),x23.getD 4 (0:Int),x23.getD 5 (0:Int)) fun x24=>R (x24,0))else none))
noncomputable def f101 {α:Type} (k:Nat) (x1:DT4) (x2:Int) (K:DT4→Int→Option α):Option α:=
  (s101 k).F (x1,x2) (fun(x4,x5)=>K x4 x5) (fun(x4,x5)=>K x4 x5) fun z=>nomatch z
noncomputable def p101 (k:Nat):Spec:={ own:=[false,false],run:=fun a o K=>(d83.dec a o).bind fun x=>f101 k x.1 x.2 fun x4 x5=>K (o83 (x4,x5)) }
theorem i101 (k:Nat):Impl Tryz.prog glTab 101 (p101 k):=
  .of w0 (l:=e101 k) ⟨i41 k,i64 k,i70 k,i118 k,trivial⟩ (s101 k) (dA_ok (dS_ok T4) (d1_ok (dP_ok tI))) _ fun(x4,x5) K=>K (o83 (x4,x5))
noncomputable def S102_2:((List Int)×(List Int)×DT7×Int)→St:=fun(x1,x2,x3,x4)=>stC [(5, .ptr 0 0 0),(6, .ptr 1 0 0),(21, .agg (toC T7 x3)),(22,pI x4)] [.L tI (x1:List Int), .L tI (x2:List Int)]
noncomputable def S102_5:(DT1×(List Int)×(List Int))→St:=fun(x1,x2,x3)=>stC [(2, .ptr 0 0 0),(5, .ptr 1 0 0),(6, .ptr 2 0 0)] [.B (toC T1 x1), .L tI (x2:List Int), .L tI (x3:List Int)]
noncomputable def e102 (k:Nat):List (Nat×List Nat×Spec):=[(93,[],p93 k),(95,[],p95 k)]
noncomputable def h102:H:=(hr (hb (hr (hl (hr (.n [.kp [4]] [] .d .d)))) (.n [] [.kp [2,5,6]] .d (.n [] [.kp []] (.n [] [.kp [5,6,21,22]] .d (.n [] [.kp []] (.n [.kp [5,6,21,22]] [.kp [5,6,21,22]] (hr (hb (hr (.n [.kp []] [] .d .d)) (hl (hl (hr (hr (hl (hr (.n [.kp [4]] [] .d .d))))))))) .d) .d)) (hr (.n [.kp [4]] [] .d .d))))))
noncomputable def s102 (k:Nat):SumT (mkE (e102 k)) 0 k (bodyOf Tryz.f102) h102 [.kp [4]] d84.St S81_1 S81_1 q0:=
 .pre 3 S102_5 (fun(x1,x2) N R Z=>f93 k x1.1 fun x3=>bif !x3 then(R false)else(f95 k (x1.2.1,x1.2.2.1,x1.2.2.2.1,x1.2.2.2.2.1,x1.2.2.2.2.2.1,x1.2.2.2.2.2.2.1) fun x5=>f95 k x2 fun x6=>N (x1,[x5.getD 0 (0:Int),x5.getD 1 (0:Int),x5.getD 2 (0:Int),x5.getD 3 (0:Int),x5.getD 4 (0:Int),x5.getD 5 (0:Int)],[x6.getD 0 (0:Int),x6.getD 1 (0:Int),x6.getD 2 (0:Int),x6.getD 3 (0:Int),x6.getD 4 (0:Int),x6.getD 5 (0:Int)])))
 (.seq S79_4
 (.pre 1 S102_2 (fun(x7,x8,x9) N R Z=>if 0≤x7.1∧x7.1<(7:Int)then(if(x7.1.toNat)*6+0<namesT.length then(if((x7.1.toNat)*6+0)+6≤namesT.length then(N (x8,x9,(namesT.getD (((x7.1.toNat)*6+0)+0) false,namesT.getD (((x7.1.toNat)*6+0)+1) false,namesT.getD (((x7.1.toNat)*6+0)+2) false,namesT.getD (((x7.1.toNat)*6+0)+3) false,namesT.getD (((x7.1.toNat)*6+0)+4) false,namesT.getD (((x7.1.toNat)*6+0)+5) false),0))else none)else none)else none)
  (.blockP (.loop S102_2 (fun x=>x)
  (.leaf fun(x14,x15,x16,x17) N R Z=>bif decide (x17<6)then(if 0≤x17∧x17<(6:Int)then(bif [x16.1,x16.2.1,x16.2.2.1,x16.2.2.2.1,x16.2.2.2.2.1,x16.2.2.2.2.2].getD (x17.toNat) false then(if 0≤x17∧x17<(6:Int)then(if(x17.toNat)+0<x14.length then(if 0≤x17∧x17<(6:Int)then(if(x17.toNat)+0<x15.length then(bif (x14.getD ((x17.toNat)+0) (0:Int)) !=(x15.getD ((x17.toNat)+0) (0:Int))then(R false)else(N (x14,x15,x16,w64 (x17+1))))else none)else none)else none)else none)else(N (x14,x15,x16,w64 (x17+1))))else none)else(Z (.inl ()))))))
 (.leaf fun() N R Z=>R true))
noncomputable def f102 {α:Type} (k:Nat) (x1:DT1) (x2:DT4) (K:Bool→Option α):Option α:=
  (s102 k).F (x1,x2) (fun x4=>K x4) (fun x4=>K x4) fun z=>nomatch z
noncomputable def p102 (k:Nat):Spec:={ own:=[false,false],run:=fun a o K=>(d84.dec a o).bind fun x=>f102 k x.1 x.2 fun x4=>K (o37 x4) }
theorem i102 (k:Nat):Impl Tryz.prog glTab 102 (p102 k):=
  .of w0 (l:=e102 k) ⟨i93 k,i95 k,trivial⟩ (s102 k) (dA_ok (dS_ok T1) (d1_ok (dS_ok T4))) _ fun x4 K=>K (o37 x4)
noncomputable def S76_2:(DT0×DT0×DT4×(List DT1)×Int×Int)→St:=fun(x1,x2,x3,x4,x5,x6)=>stC [(4, .ptr 0 0 0),(5, .ptr 1 0 0),(6, .ptr 2 0 0),(25, .p (.sl T1) (x4:List DT1)),(26,pI x5),(27,pI x6)] [.B (.cn (pI x1.1) (.cn (.sl 3 none none) (.cn (pB x1.2.2) .e0))), .B (.cn (pI x2.1) (.cn (.sl 4 none none) (.cn (pB x2.2.2) .e0))), .B (toC T4 x3), .L tY (x1.2.1:List Int), .L tY (x2.2.1:List Int)]
noncomputable def S76_4:(DT0×DT0)→St:=fun(x1,x2)=>stC [(4, .ptr 0 0 0),(5, .ptr 1 0 0)] [.B (.cn (pI x1.1) (.cn (.sl 2 none none) (.cn (pB x1.2.2) .e0))), .B (.cn (pI x2.1) (.cn (.sl 3 none none) (.cn (pB x2.2.2) .e0))), .L tY (x1.2.1:List Int), .L tY (x2.2.1:List Int)]
noncomputable def S76_5:(DT2×DT0×DT0×DT4)→St:=fun(x1,x2,x3,x4)=>stC [(0, .rp (toC T2 x1) 0),(4, .ptr 0 0 0),(5, .ptr 1 0 0),(6, .ptr 2 0 0)] [.B (.cn (pI x2.1) (.cn (.sl 3 none none) (.cn (pB x2.2.2) .e0))), .B (.cn (pI x3.1) (.cn (.sl 4 none none) (.cn (pB x3.2.2) .e0))), .B (toC T4 x4), .L tY (x2.2.1:List Int), .L tY (x3.2.1:List Int)]
noncomputable def e76 (k:Nat):List (Nat×List Nat×Spec):=[(100,[],p100 k),(101,[],p101 k),(102,[],p102 k)]
noncomputable def h76:H:=(hr (hr (.n [] [.own 4 (some 1) tY, .kp [0,4,5,6]] .d (.n [] [.kp [4,5]] (.n [] [.kp [4,5,6,25,26,27]] .d (.n [] [.kp [4,5]] (.n [.kp [4,5,6,25,26,27]] [.kp [4,5,6,25,26,27]] (hr (hl (hr (.n [.kp [4,5]] [] .d .d)))) .d) .d)) (hr (.n [.kp [4]] [] .d .d))))))
noncomputable def s76 (k:Nat):SumT (mkE (e76 k)) 0 k (bodyOf Tryz.f76) h76 [.kp [4]] d115.St S51_1 S51_1 q0:=
 .pre 3 S76_5 (fun(x1,x2) N R Z=>f100 k x1 x2 fun x3=>f101 k (x1.1,x1.2.1,x1.2.2.1,x1.2.2.2.1,x1.2.2.2.2.1,x1.2.2.2.2.2.1) x2 fun x4 x5=>N (x1,(0,[],false),x3,x4))
 (.seq S76_4
 (.pre 1 S76_2 (fun(x6,x7,x8,x9) N R Z=>N (x7,x8,x9,x6.2.2.2.2.2.2.2.2.2.2.2,(x6.2.2.2.2.2.2.2.2.2.2.2.length:Int),0))
  (.blockP (.loop S76_2 (fun x=>x)
  (.leaf fun(x16,x17,x18,x19,x20,x21) N R Z=>bif decide (x21<x20)then(if 0≤x21∧x21<(x19.length:Int)then(f102 k (x19.getD (x21.toNat) zT1) x18 fun x22=>bif x22 then(if 0≤(x19.getD (x21.toNat) zT1).2.2.2.2.2.2.2.1∧(x19.getD (x21.toNat) zT1).2.2.2.2.2.2.2.1<(x17.2.1.length:Int)then(if 0≤(x19.getD (x21.toNat) zT1).2.2.2.2.2.2.2.1∧(x19.getD (x21.toNat) zT1).2.2.2.2.2.2.2.1<(x17.2.1.length:Int)then(N (x16,(x17.1,x17.2.1.set (((x19.getD (x21.toNat) zT1).2.2.2.2.2.2.2.1).toNat) (bitI .or .u8 (bitI .andNot .u8 (x17.2.1.getD (((x19.getD (x21.toNat) zT1).2.2.2.2.2.2.2.1).toNat) (0:Int)) ((x19.getD (x21.toNat) zT1).2.2.2.2.2.2.2.2.1)) ((x19.getD (x21.toNat) zT1).2.2.2.2.2.2.2.2.2.1)),x17.2.2),x18,x19,x20,w64 (x21+1)))else none)else none)else(N (x16,x17,x18,x19,x20,w64 (x21+1))))else none)else(Z (.inl (x16,x17)))))))
 (.leaf fun(x23,x24) N R Z=>R x24))
noncomputable def f76 {α:Type} (k:Nat) (x1:DT2) (x2:Int) (K:DT0→Option α):Option α:=
  (s76 k).F (x1,x2) (fun x25=>K x25) (fun x25=>K x25) fun z=>nomatch z
noncomputable def p76 (k:Nat):Spec:={ own:=[false,false],run:=fun a o K=>(d115.dec a o).bind fun x=>f76 k x.1 x.2 fun x25=>K (o51 x25) }
theorem i76 (k:Nat):Impl Tryz.prog glTab 76 (p76 k):=
  .of w0 (l:=e76 k) ⟨i100 k,i101 k,i102 k,trivial⟩ (s76 k) (dA_ok (dR_ok T2) (d1_ok (dP_ok tI))) _ fun x25 K=>K (o51 x25)
noncomputable def d172:Dec Int:=d1 (dP tU)
noncomputable def e172 (k:Nat):List (Nat×List Nat×Spec):=[]
noncomputable def h172:H:=(hr (hr (hr (hr (hr (hr (hr (hr (.n [.kp [2]] [] .d .d)))))))))
noncomputable def s172 (k:Nat):SumT (mkE (e172 k)) 0 k (bodyOf Tryz.f172) h172 [.kp [2]] d172.St S16_1 S16_1 q0:=
 .leaf fun x1 N R Z=>R (bitI .and .i64 (w64 (wu64 ((wu64 ((wu64 ((bitI .and .u64 (wu64 ((Int.fdiv (wu64 ((bitI .and .u64 (Int.fdiv (wu64 ((bitI .and .u64 (Int.fdiv x1 (2^1)) 6148914691236517205)+(bitI .and .u64 x1 6148914691236517205))) (2^2)) 3689348814741910323)+(bitI .and .u64 (wu64 ((bitI .and .u64 (Int.fdiv x1 (2^1)) 6148914691236517205)+(bitI .and .u64 x1 6148914691236517205))) 3689348814741910323))) (2^4))+(wu64 ((bitI .and .u64 (Int.fdiv (wu64 ((bitI .and .u64 (Int.fdiv x1 (2^1)) 6148914691236517205)+(bitI .and .u64 x1 6148914691236517205))) (2^2)) 3689348814741910323)+(bitI .and .u64 (wu64 ((bitI .and .u64 (Int.fdiv x1 (2^1)) 6148914691236517205)+(bitI .and .u64 x1 6148914691236517205))) 3689348814741910323))))) 1085102592571150095)+(Int.fdiv (bitI .and .u64 (wu64 ((Int.fdiv (wu64 ((bitI .and .u64 (Int.fdiv (wu64 ((bitI .and .u64 (Int.fdiv x1 (2^1)) 6148914691236517205)+(bitI .and .u64 x1 6148914691236517205))) (2^2)) 3689348814741910323)+(bitI .and .u64 (wu64 ((bitI .and .u64 (Int.fdiv x1 (2^1)) 6148914691236517205)+(bitI .and .u64 x1 6148914691236517205))) 3689348814741910323))) (2^4))+(wu64 ((bitI .and .u64 (Int.fdiv (wu64 ((bitI .and .u64 (Int.fdiv x1 (2^1)) 6148914691236517205)+(bitI .and .u64 x1 6148914691236517205))) (2^2)) 3689348814741910323)+(bitI .and .u64 (wu64 ((bitI .and .u64 (Int.fdiv x1 (2^1)) 6148914691236517205)+(bitI .and .u64 x1 6148914691236517205))) 3689348814741910323))))) 1085102592571150095) (2^8))))+(Int.fdiv (wu64 ((bitI .and .u64 (wu64 ((Int.fdiv (wu64 ((bitI .and .u64 (Int.fdiv (wu64 ((bitI .and .u64 (Int.fdiv x1 (2^1)) 6148914691236517205)+(bitI .and .u64 x1 6148914691236517205))) (2^2)) 3689348814741910323)+(bitI .and .u64 (wu64 ((bitI .and .u64 (Int.fdiv x1 (2^1)) 6148914691236517205)+(bitI .and .u64 x1 6148914691236517205))) 3689348814741910323))) (2^4))+(wu64 ((bitI .and .u64 (Int.fdiv (wu64 ((bitI .and .u64 (Int.fdiv x1 (2^1)) 6148914691236517205)+(bitI .and .u64 x1 6148914691236517205))) (2^2)) 3689348814741910323)+(bitI .and .u64 (wu64 ((bitI .and .u64 (Int.fdiv x1 (2^1)) 6148914691236517205)+(bitI .and .u64 x1 6148914691236517205))) 3689348814741910323))))) 1085102592571150095)+(Int.fdiv (bitI .and .u64 (wu64 ((Int.fdiv (wu64 ((bitI .and .u64 (Int.fdiv (wu64 ((bitI .and .u64 (Int.fdiv x1 (2^1)) 6148914691236517205)+(bitI .and .u64 x1 6148914691236517205))) (2^2)) 3689348814741910323)+(bitI .and .u64 (wu64 ((bitI .and .u64 (Int.fdiv x1 (2^1)) 6148914691236517205)+(bitI .and .u64 x1 6148914691236517205))) 3689348814741910323))) (2^4))+(wu64 ((bitI .and .u64 (Int.fdiv (wu64 ((bitI .and .u64 (Int.fdiv x1 (2^1)) 6148914691236517205)+(bitI .and .u64 x1 6148914691236517205))) (2^2)) 3689348814741910323)+(bitI .and .u64 (wu64 ((bitI .and .u64 (Int.fdiv x1 (2^1)) 6148914691236517205)+(bitI .and .u64 x1 6148914691236517205))) 3689348814741910323))))) 1085102592571150095) (2^8)))) (2^16))))+(Int.fdiv (wu64 ((wu64 ((bitI .and .u64 (wu64 ((Int.fdiv (wu64 ((bitI .and .u64 (Int.fdiv (wu64 ((bitI .and .u64 (Int.fdiv x1 (2^1)) 6148914691236517205)+(bitI .and .u64 x1 6148914691236517205))) (2^2)) 3689348814741910323)+(bitI .and .u64 (wu64 ((bitI .and .u64 (Int.fdiv x1 (2^1)) 6148914691236517205)+(bitI .and .u64 x1 6148914691236517205))) 3689348814741910323))) (2^4))+(wu64 ((bitI .and .u64 (Int.fdiv (wu64 ((bitI .and .u64 (Int.fdiv x1 (2^1)) 6148914691236517205)+(bitI .and .u64 x1 6148914691236517205))) (2^2)) 3689348814741910323)+(bitI .and .u64 (wu64 ((bitI .and .u64 (Int.fdiv x1 (2^1)) 6148914691236517205)+(bitI .and .u64 x1 6148914691236517205))) 3689348814741910323))))) 1085102592571150095)+(Int.fdiv (bitI .and .u64 (wu64 ((Int.fdiv (wu64 ((bitI .and .u64 (Int.fdiv (wu64 ((bitI .and .u64 (Int.fdiv x1 (2^1)) 6148914691236517205)+(bitI .and .u64 x1 6148914691236517205))) (2^2)) 3689348814741910323)+(bitI .and .u64 (wu64 ((bitI .and .u64 (Int.fdiv x1 (2^1)) 6148914691236517205)+(bitI .and .u64 x1 6148914691236517205))) 3689348814741910323))) (2^4))+(wu64 ((bitI .and .u64 (Int.fdiv (wu64 ((bitI .and .u64 (Int.fdiv x1 (2^1)) 6148914691236517205)+(bitI .and .u64 x1 6148914691236517205))) (2^2)) 3689348814741910323)+(bitI .and .u64 (wu64 ((bitI .and .u64 (Int.fdiv x1 (2^1)) 6148914691236517205)+(bitI .and .u64 x1 6148914691236517205))) 3689348814741910323))))) 1085102592571150095) (2^8))))+(Int.fdiv (wu64 ((bitI .and .u64 (wu64 ((Int.fdiv (wu64 ((bitI .and .u64 (Int.fdiv (wu64 ((bitI .and .u64 (Int.fdiv x1 (2^1)) 6148914691236517205)+(bitI .and .u64 x1 6148914691236517205))) (2^2)) 3689348814741910323)+(bitI .and .u64 (wu64 ((bitI .and .u64 (Int.fdiv x1 (2^1)) 6148914691236517205)+(bitI .and .u64 x1 6148914691236517205))) 3689348814741910323))) (2^4))+(wu64 ((bitI .and .u64 (Int.fdiv (wu64 ((bitI .and .u64 (Int.fdiv x1 (2^1)) 6148914691236517205)+(bitI .and .u64 x1 6148914691236517205))) (2^2)) 3689348814741910323)+(bitI .and .u64 (wu64 ((bitI .and .u64 (Int.fdiv x1 (2^1)) 6148914691236517205)+(bitI .and .u64 x1 6148914691236517205))) 3689348814741910323))))) 1085102592571150095)+(Int.fdiv (bitI .and .u64 (wu64 ((Int.fdiv (wu64 ((bitI .and .u64 (Int.fdiv (wu64 ((bitI .and .u64 (Int.fdiv x1 (2^1)) 6148914691236517205)+(bitI .and .u64 x1 6148914691236517205))) (2^2)) 3689348814741910323)+(bitI .and .u64 (wu64 ((bitI .and .u64 (Int.fdiv x1 (2^1)) 6148914691236517205)+(bitI .and .u64 x1 6148914691236517205))) 3689348814741910323))) (2^4))+(wu64 ((bitI .and .u64 (Int.fdiv (wu64 ((bitI .and .u64 (Int.fdiv x1 (2^1)) 6148914691236517205)+(bitI .and .u64 x1 6148914691236517205))) (2^2)) 3689348814741910323)+(bitI .and .u64 (wu64 ((bitI .and .u64 (Int.fdiv x1 (2^1)) 6148914691236517205)+(bitI .and .u64 x1 6148914691236517205))) 3689348814741910323))))) 1085102592571150095) (2^8)))) (2^16)))) (2^32))))) 127)
noncomputable def f172 {α:Type} (k:Nat) (x1:Int) (K:Int→Option α):Option α:=
  (s172 k).F x1 (fun x2=>K x2) (fun x2=>K x2) fun z=>nomatch z
noncomputable def p172 (k:Nat):Spec:={ own:=[false],run:=fun a o K=>(d172.dec a o).bind fun x=>f172 k x fun x2=>K (o16 x2) }
theorem i172 (k:Nat):Impl Tryz.prog glTab 172 (p172 k):=
  .of w0 (l:=e172 k) trivial (s172 k) (d1_ok (dP_ok tU)) _ fun x2 K=>K (o16 x2)
noncomputable def e144 (k:Nat):List (Nat×List Nat×Spec):=[(172,[],p172 k)]
noncomputable def h144:H:=(hr (hr (hr (.n [.kp [2]] [] .d .d))))
noncomputable def s144 (k:Nat):SumT (mkE (e144 k)) 0 k (bodyOf Tryz.f144) h144 [.kp [2]] d172.St S16_1 S16_1 q0:=
 .leaf fun x1 N R Z=>f172 k x1 fun x2=>R x2
noncomputable def f144 {α:Type} (k:Nat) (x1:Int) (K:Int→Option α):Option α:=
  (s144 k).F x1 (fun x3=>K x3) (fun x3=>K x3) fun z=>nomatch z
noncomputable def p144 (k:Nat):Spec:={ own:=[false],run:=fun a o K=>(d172.dec a o).bind fun x=>f144 k x fun x3=>K (o16 x3) }
theorem i144 (k:Nat):Impl Tryz.prog glTab 144 (p144 k):=
  .of w0 (l:=e144 k) ⟨i172 k,trivial⟩ (s144 k) (d1_ok (dP_ok tU)) _ fun x3 K=>K (o16 x3)
noncomputable def d119:Dec Unit:=dN
noncomputable def S119_1:((List Int))→St:=fun x1=>stC [(0, .sl 0 none none)] [.L tY (x1:List Int)]
noncomputable def S119_2:((List Int)×(List Int)×(List Int)×Int)→St:=fun(x1,x2,x3,x4)=>stC [(1, .sl 0 none none),(2, .sl 1 none none),(3, .sl 2 none none),(6,pI x4)] [.L tY (x1:List Int), .L tY (x2:List Int), .L tY (x3:List Int)]
noncomputable def S119_4:((List Int)×Int)→St:=fun(x1,x2)=>stC [(3, .sl 0 none none),(35,pI x2)] [.L tY (x1:List Int)]
noncomputable def S119_6:((List Int))→St:=fun x1=>stC [(3, .sl 0 none none)] [.L tY (x1:List Int)]
noncomputable def S119_8:((List Int)×(List Int)×(List Int))→St:=fun(x1,x2,x3)=>stC [(1, .sl 0 none none),(2, .sl 1 none none),(3, .sl 2 none none)] [.L tY (x1:List Int), .L tY (x2:List Int), .L tY (x3:List Int)]
noncomputable def e119 (k:Nat):List (Nat×List Nat×Spec):=[(144,[],p144 k)]
noncomputable def h119:H:=(hr (.n [] [.own 1 none tY, .own 2 none tY, .own 3 none tY, .kp [1,2,3]] .d (.n [] [.kp [1,2,3]] (.n [] [.kp [1,2,3,6]] .d (.n [] [.kp [1,2,3]] (.n [.kp [1,2,3,6]] [.kp [1,2,3,6]] (hr (hl (hr (.n [.kp [1,2,3]] [] .d .d)))) .d) .d)) (hr (.n [] [.kp [3]] .d (.n [] [.kp [3]] (.n [] [.kp [3,35]] .d (.n [] [.kp [3]] (.n [.kp [3,35]] [.kp [3,35]] (hr (hl (hr (.n [.kp [3]] [] .d .d)))) .d) .d)) (hr (.n [.kp [0]] [] .d .d))))))))
noncomputable def s119 (k:Nat):SumT (mkE (e119 k)) 0 k (bodyOf Tryz.f119) h119 [.kp [0]] d119.St S119_1 S119_1 q0:=
 .pre 2 S119_8 (fun() N R Z=>N ([],[],[]))
 (.seq S119_8
 (.pre 1 S119_2 (fun(x1,x2,x3) N R Z=>N (x1,x2,x3,0))
  (.blockP (.loop S119_2 (fun x=>x)
  (.leaf fun(x8,x9,x10,x11) N R Z=>bif decide (x11<256)then(f144 k (wu64 x11) fun x12=>bif x12==3 then(if(x8.length+[w8 x11].length)*1≤room then(N (x8++[w8 x11],x9,x10,w64 (x11+1)))else none)else(bif x12==5 then(if(x9.length+[w8 x11].length)*1≤room then(N (x8,x9++[w8 x11],x10,w64 (x11+1)))else none)else(N (x8,x9,x10,w64 (x11+1)))))else(Z (.inl (x8,x9,x10)))))))
 (.pre 2 S119_6 (fun(x13,x14,x15) N R Z=>if 0≤(0:Int)∧(0:Int)≤(56:Int)∧56≤(x13.length:Int)then(if(x15.length+(x13.take 56).length)*1≤room then(if 0≤(0:Int)∧(0:Int)≤(8:Int)∧8≤(x14.length:Int)then(if((x15++(x13.take 56)).length+(x14.take 8).length)*1≤room then(N ((x15++(x13.take 56))++(x14.take 8)))else none)else none)else none)else none)
 (.seq S119_6
 (.pre 1 S119_4 (fun x16 N R Z=>N (x16,0))
  (.blockP (.loop S119_4 (fun x=>x)
  (.leaf fun(x19,x20) N R Z=>bif decide (x20<8)then(if 0≤x20 then(if(x19.length+[w8 (1*2^(min x20.toNat 8))].length)*1≤room then(N (x19++[w8 (1*2^(min x20.toNat 8))],w64 (x20+1)))else none)else none)else(Z (.inl x19))))))
 (.leaf fun x21 N R Z=>R x21))))
noncomputable def f119 {α:Type} (k:Nat) (K:(List Int)→Option α):Option α:=
  (s119 k).F () (fun x22=>K x22) (fun x22=>K x22) fun z=>nomatch z
noncomputable def o119:((List Int))→FRes:=fun x1=>{ ret:= .sl 0 none none,objs:=[.L tY (x1:List Int)] }
noncomputable def p119 (k:Nat):Spec:={ own:=[],run:=fun a o K=>(d119.dec a o).bind fun x=>f119 k fun x22=>K (o119 x22) }
theorem i119 (k:Nat):Impl Tryz.prog glTab 119 (p119 k):=
  .of w0 (l:=e119 k) ⟨i144 k,trivial⟩ (s119 k) (dN_ok) _ fun x22 K=>K (o119 x22)
noncomputable def d120:Dec ((List Int)×(List Int)):=dA (dP (.sl tY)) (d1 (dP (.sl tY)))
noncomputable def S120_2:((List Int)×Int×(List Int)×Int×Int)→St:=fun(x1,x2,x3,x4,x5)=>stC [(0, .p (.sl tY) (x1:List Int)),(5,pY x2),(12, .p (.sl tY) (x3:List Int)),(13,pI x4),(14,pI x5)] []
noncomputable def S120_5:((List Int)×(List Int)×Int)→St:=fun(x1,x2,x3)=>stC [(0, .p (.sl tY) (x1:List Int)),(1, .p (.sl tY) (x2:List Int)),(5,pY x3)] []
noncomputable def e120 (k:Nat):List (Nat×List Nat×Spec):=[]
noncomputable def h120:H:=(hr (.n [] [.kp [0,1,5]] .d (.n [] [.kp [5]] (.n [] [.kp [0,5,12,13,14]] .d (.n [] [.kp [5]] (.n [.kp [0,5,12,13,14]] [.kp [0,5,12,13,14]] (hr (hl (hr (.n [.kp [5]] [] .d .d)))) .d) .d)) (hr (.n [.kp [4]] [] .d .d)))))
noncomputable def s120 (k:Nat):SumT (mkE (e120 k)) 0 k (bodyOf Tryz.f120) h120 [.kp [4]] d120.St S146_1 S146_1 q0:=
 .pre 2 S120_5 (fun(x1,x2) N R Z=>N (x1,x2,0))
 (.seq S146_3
 (.pre 1 S120_2 (fun(x3,x4,x5) N R Z=>if 0≤(0:Int)∧(0:Int)≤w64 (8*(x3.length:Int))∧w64 (8*(x3.length:Int))≤(x4.length:Int)then(N (x3,x5,x4.take ((w64 (8*(x3.length:Int))).toNat),((x4.take ((w64 (8*(x3.length:Int))).toNat)).length:Int),0))else none)
  (.blockP (.loop S120_2 (fun x=>x)
  (.leaf fun(x11,x12,x13,x14,x15) N R Z=>bif decide (x15<x14)then(if 0≤x15∧x15<(x13.length:Int)then(if 0≤w64 (Int.tdiv x15 8)∧w64 (Int.tdiv x15 8)<(x11.length:Int)then(if 0≤Int.tmod x15 8 then(bif (bitI .and .u8 (Int.fdiv (x11.getD ((w64 (Int.tdiv x15 8)).toNat) (0:Int)) (2^(min (Int.tmod x15 8).toNat 8))) 1)==1 then(N (x11,bitI .xor .u8 x12 (x13.getD (x15.toNat) (0:Int)),x13,x14,w64 (x15+1)))else(N (x11,x12,x13,x14,w64 (x15+1))))else none)else none)else none)else(Z (.inl x12))))))
 (.leaf fun x16 N R Z=>R x16))
noncomputable def f120 {α:Type} (k:Nat) (x1:(List Int)) (x2:(List Int)) (K:Int→Option α):Option α:=
  (s120 k).F (x1,x2) (fun x17=>K x17) (fun x17=>K x17) fun z=>nomatch z
noncomputable def p120 (k:Nat):Spec:={ own:=[false,false],run:=fun a o K=>(d120.dec a o).bind fun x=>f120 k x.1 x.2 fun x17=>K (o175 x17) }
theorem i120 (k:Nat):Impl Tryz.prog glTab 120 (p120 k):=
  .of w0 (l:=e120 k) trivial (s120 k) (dA_ok (dP_ok (.sl tY)) (d1_ok (dP_ok (.sl tY)))) _ fun x17 K=>K (o175 x17)
noncomputable def d121:Dec ((List Int)×Int):=dA (dP (.sl tY)) (d1 (dP tY))
noncomputable def S121_2:((List Int)×Int×Int×Int)→St:=fun(x1,x2,x3,x4)=>stC [(0, .p (.sl tY) (x1:List Int)),(1,pY x2),(7,pI x3),(8,pI x4)] []
noncomputable def S121_5:((List Int)×Int)→St:=fun(x1,x2)=>stC [(0, .p (.sl tY) (x1:List Int)),(1,pY x2)] []
noncomputable def e121 (k:Nat):List (Nat×List Nat×Spec):=[]
noncomputable def h121:H:=(.n [] [.kp [0,1]] .d (.n [] [.kp []] (.n [] [.kp [0,1,7,8]] .d (.n [] [.kp []] (.n [.kp [0,1,7,8]] [.kp [0,1,7,8]] (hr (hb (hr (.n [.kp []] [] .d .d)) (hl (hl (hr (hr (hl (hr (.n [.kp [4]] [] .d .d))))))))) .d) .d)) (hr (.n [.kp [4]] [] .d .d))))
noncomputable def s121 (k:Nat):SumT (mkE (e121 k)) 0 k (bodyOf Tryz.f121) h121 [.kp [4]] d121.St S37_4 S37_4 q0:=
 .pre 1 S121_5 (fun(x1,x2) N R Z=>N (x1,x2))
 (.seq S79_4
 (.pre 1 S121_2 (fun(x3,x4) N R Z=>N (x3,x4,(x3.length:Int),0))
  (.blockP (.loop S121_2 (fun x=>x)
  (.leaf fun(x9,x10,x11,x12) N R Z=>bif decide (x12<x11)then(if 0≤x12∧x12<(x9.length:Int)then(bif x10==(x9.getD (x12.toNat) (0:Int))then(R x12)else(N (x9,x10,x11,w64 (x12+1))))else none)else(Z (.inl ()))))))
 (.leaf fun() N R Z=>R (-1)))
noncomputable def f121 {α:Type} (k:Nat) (x1:(List Int)) (x2:Int) (K:Int→Option α):Option α:=
  (s121 k).F (x1,x2) (fun x13=>K x13) (fun x13=>K x13) fun z=>nomatch z
noncomputable def p121 (k:Nat):Spec:={ own:=[false,false],run:=fun a o K=>(d121.dec a o).bind fun x=>f121 k x.1 x.2 fun x13=>K (o16 x13) }
theorem i121 (k:Nat):Impl Tryz.prog glTab 121 (p121 k):=
  .of w0 (l:=e121 k) trivial (s121 k) (dA_ok (dP_ok (.sl tY)) (d1_ok (dP_ok tY))) _ fun x13 K=>K (o16 x13)
noncomputable def S103_1:(DT8×Int×Int)→St:=fun(x1,x2,x3)=>stC [(2, .ptr 0 0 0),(3,pI x2),(4,pI x3)] [.B (.cn (pI x1.1) (.cn (.sl 1 none none) (.cn (.sl 2 none none) .e0))), .L tY (x1.2.1:List Int), .L tI (x1.2.2:List Int)]
noncomputable def S103_2:((List Int)×DT8×(List Int)×Int)→St:=fun(x1,x2,x3,x4)=>stC [(0, .p (.sl tY) (x1:List Int)),(2, .ptr 0 0 0),(5, .sl 1 none none),(6,pY x4)] [.B (.cn (pI x2.1) (.cn (.sl 2 none none) (.cn (.sl 3 none none) .e0))), .L tY (x3:List Int), .L tY (x2.2.1:List Int), .L tI (x2.2.2:List Int)]
noncomputable def e103 (k:Nat):List (Nat×List Nat×Spec):=[(63,[],cloneS tY 1 k),(119,[],p119 k),(120,[],p120 k),(121,[],p121 k)]
noncomputable def h103:H:=(hr (hb (hr (hl (hr (.n [.own 2 (some 1) tY, .own 2 (some 2) tI, .kp [2,3,4]] [] .d .d)))) (hr (hr (.n [] [.own 2 (some 1) tY, .own 2 (some 2) tI, .kp [0,2,5,6]] (hr (hl (hr (.n [.own 2 (some 1) tY, .own 2 (some 2) tI, .kp [2,3,4]] [] .d .d)))) (hr (hb (hr (hl (hr (.n [.own 2 (some 1) tY, .own 2 (some 2) tI, .kp [2,3,4]] [] .d .d)))) (hr (hr (hr (.n [.own 2 (some 1) tY, .own 2 (some 2) tI, .kp [2,3,4]] [] .d .d)))))))))))
noncomputable def s103 (k:Nat):SumT (mkE (e103 k)) 0 k (bodyOf Tryz.f103) h103 [.own 2 (some 1) tY, .own 2 (some 2) tI, .kp [2,3,4]] d79.St S103_1 S103_1 q0:=
 .pre 5 S103_2 (fun x1 N R Z=>bif (x1.length:Int) !=9 then(R ((0,[],[]),0,7))else(f119 k fun x5=>f120 k x1 x5 fun x6=>bif x6==0 then(cloneF 1 k x1 fun x7=>R ((0,x7,[]),(-1),0))else(N (x1,(0,[],[]),x5,x6))))
 (.leaf fun(x8,x9,x10,x11) N R Z=>f121 k x10 x11 fun x12=>bif decide (x12<0)then(R ((2,[],[]),(-1),0))else(cloneF 1 k x8 fun x13=>if 0≤w64 (Int.tdiv x12 8)∧w64 (Int.tdiv x12 8)<(x13.length:Int)then(if 0≤Int.tmod x12 8 then(if 0≤w64 (Int.tdiv x12 8)∧w64 (Int.tdiv x12 8)<(x13.length:Int)then(R ((1,x13.set ((w64 (Int.tdiv x12 8)).toNat) (bitI .xor .u8 (x13.getD ((w64 (Int.tdiv x12 8)).toNat) (0:Int)) (w8 (1*2^(min (Int.tmod x12 8).toNat 8)))),[w64 (Int.tdiv x12 8)]),x12,0))else none)else none)else none))
noncomputable def f103 {α:Type} (k:Nat) (x1:(List Int)) (K:DT8→Int→Int→Option α):Option α:=
  (s103 k).F x1 (fun(x2,x3,x4)=>K x2 x3 x4) (fun(x2,x3,x4)=>K x2 x3 x4) fun z=>nomatch z
noncomputable def o103:(DT8×Int×Int)→FRes:=fun(x1,x2,x3)=>{ ret:= .tup (.cn (.agg (.cn (pI x1.1) (.cn (.sl 0 none none) (.cn (.sl 1 none none) .e0)))) (.cn (pI x2) (.cn (pI x3) .e0))),objs:=[.L tY (x1.2.1:List Int), .L tI (x1.2.2:List Int)] }
noncomputable def p103 (k:Nat):Spec:={ own:=[false],run:=fun a o K=>(d79.dec a o).bind fun x=>f103 k x fun x2 x3 x4=>K (o103 (x2,x3,x4)) }
theorem i103 (k:Nat):Impl Tryz.prog glTab 103 (p103 k):=
  .of w0 (l:=e103 k) ⟨i63 k,i119 k,i120 k,i121 k,trivial⟩ (s103 k) (d1_ok (dP_ok (.sl tY))) _ fun(x2,x3,x4) K=>K (o103 (x2,x3,x4))
noncomputable def e122 (k:Nat):List (Nat×List Nat×Spec):=[(65,[],p65 k)]
noncomputable def h122:H:=(hr (hr (.n [.kp [2]] [] .d .d)))
noncomputable def s122 (k:Nat):SumT (mkE (e122 k)) 0 k (bodyOf Tryz.f122) h122 [.kp [2]] d78.St S37_1 S37_1 q0:=
 .leaf fun x1 N R Z=>f65 k x1 fun x2=>bif x2 then(R (x1.1==2))else(R false)
noncomputable def f122 {α:Type} (k:Nat) (x1:DT5) (K:Bool→Option α):Option α:=
  (s122 k).F x1 (fun x3=>K x3) (fun x3=>K x3) fun z=>nomatch z
noncomputable def p122 (k:Nat):Spec:={ own:=[false],run:=fun a o K=>(d78.dec a o).bind fun x=>f122 k x fun x3=>K (o37 x3) }
theorem i122 (k:Nat):Impl Tryz.prog glTab 122 (p122 k):=
  .of w0 (l:=e122 k) ⟨i65 k,trivial⟩ (s122 k) (d1_ok (dS_ok T5)) _ fun x3 K=>K (o37 x3)
noncomputable def d123:Dec ((List Int)×Int×Int):=dA (dP (.sl tI)) (dA (dP tI) (d1 (dP tI)))
noncomputable def S123_1:Int→St:=fun x1=>stC [(6,pI x1)] []
noncomputable def S123_2:((List Int)×Int×Int×(List Int)×Int×Int)→St:=fun(x1,x2,x3,x4,x5,x6)=>stC [(0, .p (.sl tI) (x1:List Int)),(1,pI x2),(2,pI x3),(10, .p (.sl tI) (x4:List Int)),(11,pI x5),(12,pI x6)] []
noncomputable def S123_4:((List Int)×Int×Int)→St:=fun(x1,x2,x3)=>stC [(0, .p (.sl tI) (x1:List Int)),(2,pI x2),(9,pI x3)] []
noncomputable def S123_6:((List Int)×Int)→St:=fun(x1,x2)=>stC [(0, .p (.sl tI) (x1:List Int)),(2,pI x2)] []
noncomputable def S123_8:((List Int)×Int×Int)→St:=fun(x1,x2,x3)=>stC [(0, .p (.sl tI) (x1:List Int)),(1,pI x2),(2,pI x3)] []
noncomputable def e123 (k:Nat):List (Nat×List Nat×Spec):=[]
noncomputable def h123:H:=(.n [] [.kp [0,1,2]] .d (.n [] [.kp [0,2]] (.n [] [.kp [0,1,2,10,11,12]] .d (.n [] [.kp [0,2]] (.n [.kp [0,1,2,10,11,12]] [.kp [0,1,2,10,11,12]] (hr (hb (hr (.n [.kp [0,2]] [] .d .d)) (hl (hl (hr (hr (hl (hr (.n [.kp [6]] [] .d .d))))))))) .d) .d)) (.n [] [.kp [0,2]] (.n [] [.kp [0,2,9]] .d (.n [] [.kp [0,2]] (.n [.kp [0,2,9]] [.kp [0,2,9]] (hb (hr (hr (.n [.kp [0,2]] [] .d .d))) (hl (hl (hr (hl (hr (.n [.kp [6]] [] .d .d))))))) .d) .d)) (hb (hr (hl (hr (.n [.kp [6]] [] .d .d)))) (hr (.n [.kp [6]] [] .d .d))))))
noncomputable def s123 (k:Nat):SumT (mkE (e123 k)) 0 k (bodyOf Tryz.f123) h123 [.kp [6]] d123.St S123_1 S123_1 q0:=
 .pre 1 S123_8 (fun(x1,x2,x3) N R Z=>N (x1,x2,x3))
 (.seq S123_6
 (.pre 1 S123_2 (fun(x4,x5,x6) N R Z=>N (x4,x5,x6,x4,(x4.length:Int),0))
  (.blockP (.loop S123_2 (fun x=>x)
  (.leaf fun(x13,x14,x15,x16,x17,x18) N R Z=>bif decide (x18<x17)then(if 0≤x18∧x18<(x16.length:Int)then(bif decide (x16.getD (x18.toNat) (0:Int)<0)then(R 2)else(bif decide (x16.getD (x18.toNat) (0:Int)≥x14)then(R 2)else(N (x13,x14,x15,x16,x17,w64 (x18+1)))))else none)else(Z (.inl (x13,x15)))))))
 (.seq S123_6
 (.pre 1 S123_4 (fun(x20,x21) N R Z=>N (x20,x21,1))
  (.blockP (.loop S123_4 (fun x=>x)
  (.leaf fun(x25,x26,x27) N R Z=>bif decide (x27<(x25.length:Int))then(if 0≤w64 (x27-1)∧w64 (x27-1)<(x25.length:Int)then(if 0≤x27∧x27<(x25.length:Int)then(bif decide (x25.getD ((w64 (x27-1)).toNat) (0:Int)≥x25.getD (x27.toNat) (0:Int))then(R 17)else(N (x25,x26,w64 (x27+1))))else none)else none)else(Z (.inl (x25,x26)))))))
 (.leaf fun(x28,x29) N R Z=>bif decide ((x28.length:Int)>x29)then(R 3)else(R 0))))
noncomputable def f123 {α:Type} (k:Nat) (x1:(List Int)) (x2:Int) (x3:Int) (K:Int→Option α):Option α:=
  (s123 k).F (x1,x2,x3) (fun x19=>K x19) (fun x19=>K x19) fun z=>nomatch z
noncomputable def p123 (k:Nat):Spec:={ own:=[false,false,false],run:=fun a o K=>(d123.dec a o).bind fun x=>f123 k x.1 x.2.1 x.2.2 fun x19=>K (o16 x19) }
theorem i123 (k:Nat):Impl Tryz.prog glTab 123 (p123 k):=
  .of w0 (l:=e123 k) trivial (s123 k) (dA_ok (dP_ok (.sl tI)) (dA_ok (dP_ok tI) (d1_ok (dP_ok tI)))) _ fun x19 K=>K (o16 x19)
noncomputable def e174 (k:Nat):List (Nat×List Nat×Spec):=[]
noncomputable def h174:H:=(hr (hr (.n [.kp [2]] [] .d .d)))
noncomputable def s174 (k:Nat):SumT (mkE (e174 k)) 0 k (bodyOf Tryz.f174) h174 [.kp [2]] d80.St S16_1 S16_1 q0:=
 .leaf fun x1 N R Z=>R (Int.tmod (w64 ((Int.tmod x1 255)+255)) 255)
noncomputable def f174 {α:Type} (k:Nat) (x1:Int) (K:Int→Option α):Option α:=
  (s174 k).F x1 (fun x2=>K x2) (fun x2=>K x2) fun z=>nomatch z
noncomputable def p174 (k:Nat):Spec:={ own:=[false],run:=fun a o K=>(d80.dec a o).bind fun x=>f174 k x fun x2=>K (o16 x2) }
theorem i174 (k:Nat):Impl Tryz.prog glTab 174 (p174 k):=
  .of w0 (l:=e174 k) trivial (s174 k) (d1_ok (dP_ok tI)) _ fun x2 K=>K (o16 x2)
noncomputable def d173:Dec (Int×Int):=dA (dP tY) (d1 (dP tI))
noncomputable def S173_2:(Int×Int×Int)→St:=fun(x1,x2,x3)=>stC [(0,pY x1),(1,pI x2),(5,pY x3)] []
noncomputable def e173 (k:Nat):List (Nat×List Nat×Spec):=[(146,[],p146 k)]
noncomputable def h173:H:=(hr (.n [] [.kp [0,1,5]] .d (hb (.n [] [.kp [5]] (.n [.kp [0,1,5]] [.kp [0,1,5]] (hl (hr (hr (.n [.kp [5]] [] .d .d)))) .d) .d) (hr (.n [.kp [4]] [] .d .d)))))
noncomputable def s173 (k:Nat):SumT (mkE (e173 k)) 0 k (bodyOf Tryz.f173) h173 [.kp [4]] d173.St S146_1 S146_1 q0:=
 .pre 2 S173_2 (fun(x1,x2) N R Z=>N (x1,x2,1))
 (.seq S146_3
 (.block (.loop S173_2 (fun x=>x)
  (.leaf fun(x6,x7,x8) N R Z=>bif decide (x7>0)then(bif (bitI .and .i64 x7 1)==1 then(f146 k x8 x6 fun x9=>f146 k x6 x6 fun x10=>N (x10,Int.fdiv x7 (2^1),x9))else(f146 k x6 x6 fun x11=>N (x11,Int.fdiv x7 (2^1),x8)))else(Z (.inl x8)))))
 (.leaf fun x12 N R Z=>R x12))
noncomputable def f173 {α:Type} (k:Nat) (x1:Int) (x2:Int) (K:Int→Option α):Option α:=
  (s173 k).F (x1,x2) (fun x13=>K x13) (fun x13=>K x13) fun z=>nomatch z
noncomputable def p173 (k:Nat):Spec:={ own:=[false,false],run:=fun a o K=>(d173.dec a o).bind fun x=>f173 k x.1 x.2 fun x13=>K (o175 x13) }
theorem i173 (k:Nat):Impl Tryz.prog glTab 173 (p173 k):=
  .of w0 (l:=e173 k) ⟨i146 k,trivial⟩ (s173 k) (dA_ok (dP_ok tY) (d1_ok (dP_ok tI))) _ fun x13 K=>K (o175 x13)
noncomputable def e145 (k:Nat):List (Nat×List Nat×Spec):=[(173,[],p173 k),(174,[],p174 k)]
noncomputable def h145:H:=(hr (hr (.n [.kp [2]] [] .d .d)))
noncomputable def s145 (k:Nat):SumT (mkE (e145 k)) 0 k (bodyOf Tryz.f145) h145 [.kp [2]] d80.St S175_1 S175_1 q0:=
 .leaf fun x1 N R Z=>f174 k x1 fun x2=>f173 k 2 x2 fun x3=>R x3
noncomputable def f145 {α:Type} (k:Nat) (x1:Int) (K:Int→Option α):Option α:=
  (s145 k).F x1 (fun x4=>K x4) (fun x4=>K x4) fun z=>nomatch z
noncomputable def p145 (k:Nat):Spec:={ own:=[false],run:=fun a o K=>(d80.dec a o).bind fun x=>f145 k x fun x4=>K (o175 x4) }
theorem i145 (k:Nat):Impl Tryz.prog glTab 145 (p145 k):=
  .of w0 (l:=e145 k) ⟨i173 k,i174 k,trivial⟩ (s145 k) (d1_ok (dP_ok tI)) _ fun x4 K=>K (o175 x4)
noncomputable def d124:Dec ((List Int)×Int):=dA (dP (.sl tY)) (d1 (dP tI))
noncomputable def S124_1:((List Int))→St:=fun x1=>stC [(4, .sl 0 none none)] [.L tY (x1:List Int)]
noncomputable def S124_2:((List Int)×(List Int)×Int×Int×Int×Int×(List Int)×Int×Int)→St:=fun(x1,x2,x3,x4,x5,x6,x7,x8,x9)=>stC [(0, .p (.sl tY) (x1:List Int)),(5, .sl 0 none none),(6,pI x3),(7,pY x4),(13,pI x5),(14,pI x6),(19, .p (.sl tY) (x7:List Int)),(20,pI x8),(21,pI x9)] [.L tY (x2:List Int)]
noncomputable def S124_4:((List Int)×(List Int)×Int×Int)→St:=fun(x1,x2,x3,x4)=>stC [(0, .p (.sl tY) (x1:List Int)),(5, .sl 0 none none),(13,pI x3),(14,pI x4)] [.L tY (x2:List Int)]
noncomputable def S124_8:((List Int))→St:=fun x1=>stC [(5, .sl 0 none none)] [.L tY (x1:List Int)]
noncomputable def S124_9:((List Int)×(List Int))→St:=fun(x1,x2)=>stC [(0, .p (.sl tY) (x1:List Int)),(5, .sl 0 none none)] [.L tY (x2:List Int)]
noncomputable def e124 (k:Nat):List (Nat×List Nat×Spec):=[(145,[],p145 k),(146,[],p146 k)]
noncomputable def h124:H:=(hr (.n [] [.kp [0,5]] .d (.n [] [.kp [5]] (.n [] [.kp [0,5,13,14]] .d (.n [] [.kp [5]] (.n [.kp [0,5,13,14]] [.kp [0,5,13,14]] (hr (.n [] [.kp [0,5,13,14]] (hr (.n [.kp [5]] [] .d .d)) (hl (.n [] [.kp [0,5,13,14]] (hr (hr (.n [] [.kp [0,5,6,7,13,14,19,20,21]] .d (.n [] [.kp [0,5,13,14]] (.n [.kp [0,5,6,7,13,14,19,20,21]] [.kp [0,5,6,7,13,14,19,20,21]] (hr (hl (hr (.n [.kp [0,5,13,14]] [] .d .d)))) .d) .d)))) .d)))) .d) .d)) (hr (.n [.kp [4]] [] .d .d)))))
noncomputable def s124 (k:Nat):SumT (mkE (e124 k)) 0 k (bodyOf Tryz.f124) h124 [.kp [4]] d124.St S124_1 S124_1 q0:=
 .pre 2 S124_9 (fun(x1,x2) N R Z=>if 0≤x2∧x2≤x2∧x2*1≤room∧x2<9223372036854775808 then(N (x1,List.replicate (x2.toNat) (0:Int)))else none)
 (.seq S124_8
 (.pre 1 S124_4 (fun(x3,x4) N R Z=>N (x3,x4,((x4.length:Nat):Int),0))
  (.blockP (.loop S124_4 (fun x=>x)
  (.pre 2 S124_4 (fun(x9,x10,x11,x12) N R Z=>bif decide (x12<x11)then(N (x9,x10,x11,x12))else(Z (.inl x10)))
  (.seq S124_4
  (.block (.pre 3 S124_2 (fun(x13,x14,x15,x16) N R Z=>f145 k x16 fun x18=>N (x13,x14,x16,x18,x15,x16,x13,(x13.length:Int),0))
   (.blockP (.loop S124_2 (fun x=>x)
   (.leaf fun(x28,x29,x30,x31,x32,x33,x34,x35,x36) N R Z=>bif decide (x36<x35)then(if 0≤x36∧x36<(x34.length:Int)then(if 0≤x30∧x30<(x29.length:Int)then(f146 k (x29.getD (x30.toNat) (0:Int)) x31 fun x37=>if 0≤x30∧x30<(x29.length:Int)then(N (x28,x29.set (x30.toNat) (bitI .xor .u8 x37 (x34.getD (x36.toNat) (0:Int))),x30,x31,x32,x33,x34,x35,w64 (x36+1)))else none)else none)else none)else(Z (.inl (x28,x29,x32,x33))))))))
  (.leaf fun(x38,x39,x40,x41) N R Z=>N (x38,x39,x40,w64 (x41+1))))))))
 (.leaf fun x17 N R Z=>R x17))
noncomputable def f124 {α:Type} (k:Nat) (x1:(List Int)) (x2:Int) (K:(List Int)→Option α):Option α:=
  (s124 k).F (x1,x2) (fun x42=>K x42) (fun x42=>K x42) fun z=>nomatch z
noncomputable def p124 (k:Nat):Spec:={ own:=[false,false],run:=fun a o K=>(d124.dec a o).bind fun x=>f124 k x.1 x.2 fun x42=>K (o119 x42) }
theorem i124 (k:Nat):Impl Tryz.prog glTab 124 (p124 k):=
  .of w0 (l:=e124 k) ⟨i145 k,i146 k,trivial⟩ (s124 k) (dA_ok (dP_ok (.sl tY)) (d1_ok (dP_ok tI))) _ fun x42 K=>K (o119 x42)
noncomputable def e147 (k:Nat):List (Nat×List Nat×Spec):=[]
noncomputable def h147:H:=(hr (hr (.n [.kp [2]] [] .d .d)))
noncomputable def s147 (k:Nat):SumT (mkE (e147 k)) 0 k (bodyOf Tryz.f147) h147 [.kp [2]] d175.St S37_1 S37_1 q0:=
 .leaf fun x1 N R Z=>R (x1 !=0)
noncomputable def f147 {α:Type} (k:Nat) (x1:Int) (K:Bool→Option α):Option α:=
  (s147 k).F x1 (fun x2=>K x2) (fun x2=>K x2) fun z=>nomatch z
noncomputable def p147 (k:Nat):Spec:={ own:=[false],run:=fun a o K=>(d175.dec a o).bind fun x=>f147 k x fun x2=>K (o37 x2) }
theorem i147 (k:Nat):Impl Tryz.prog glTab 147 (p147 k):=
  .of w0 (l:=e147 k) trivial (s147 k) (d1_ok (dP_ok tY)) _ fun x2 K=>K (o37 x2)
noncomputable def d112_147:Dec ((List Int)×Unit):=dA (dP (.sl tY)) (d1 (dC 147 dN))
noncomputable def S112_147_2:((List Int)×Int×Int)→St:=fun(x1,x2,x3)=>stC [(0, .p (.sl tY) (x1:List Int)),(1, .clo 147 (.e0)),(7,pI x2),(8,pI x3)] []
noncomputable def S112_147_5:((List Int))→St:=fun x1=>stC [(0, .p (.sl tY) (x1:List Int)),(1, .clo 147 (.e0))] []
noncomputable def e112_147 (k:Nat):List (Nat×List Nat×Spec):=[(147,[],p147 k)]
noncomputable def h112_147:H:=(.n [] [.kp [0,1]] .d (.n [] [.kp []] (.n [] [.kp [0,1,7,8]] .d (.n [] [.kp []] (.n [.kp [0,1,7,8]] [.kp [0,1,7,8]] (hr (hb (hr (.n [.kp []] [] .d .d)) (hl (hl (hr (hr (hl (hr (.n [.kp [4]] [] .d .d))))))))) .d) .d)) (hr (.n [.kp [4]] [] .d .d))))
noncomputable def s112_147 (k:Nat):SumT (mkE (e112_147 k)) 0 k (bodyOf Tryz.f112) h112_147 [.kp [4]] d112_147.St S37_4 S37_4 q0:=
 .pre 1 S112_147_5 (fun(x1,_) N R Z=>N x1)
 (.seq S79_4
 (.pre 1 S112_147_2 (fun x2 N R Z=>N (x2,(x2.length:Int),0))
  (.blockP (.loop S112_147_2 (fun x=>x)
  (.leaf fun(x6,x7,x8) N R Z=>bif decide (x8<x7)then(if 0≤x8∧x8<(x6.length:Int)then(f147 k (x6.getD (x8.toNat) (0:Int)) fun x9=>bif x9 then(R x8)else(N (x6,x7,w64 (x8+1))))else none)else(Z (.inl ()))))))
 (.leaf fun() N R Z=>R (-1)))
noncomputable def f112_147 {α:Type} (k:Nat) (x1:(List Int)) (K:Int→Option α):Option α:=
  (s112_147 k).F (x1,()) (fun x10=>K x10) (fun x10=>K x10) fun z=>nomatch z
noncomputable def p112_147 (k:Nat):Spec:={ own:=[false,false],run:=fun a o K=>(d112_147.dec a o).bind fun x=>f112_147 k x.1 fun x10=>K (o16 x10) }
theorem i112_147 (k:Nat):Impl Tryz.prog glTab 112 (p112_147 k):=
  .of w0 (l:=e112_147 k) ⟨i147 k,trivial⟩ (s112_147 k) (dA_ok (dP_ok (.sl tY)) (d1_ok (dC_ok 147 dN_ok))) _ fun x10 K=>K (o16 x10)
noncomputable def e91_147 (k:Nat):List (Nat×List Nat×Spec):=[(112,[147],p112_147 k)]
noncomputable def h91_147:H:=(hr (hr (.n [.kp [4]] [] .d .d)))
noncomputable def s91_147 (k:Nat):SumT (mkE (e91_147 k)) 0 k (bodyOf Tryz.f91) h91_147 [.kp [4]] d112_147.St S81_1 S81_1 q0:=
 .leaf fun(x1,_) N R Z=>f112_147 k x1 fun x2=>R (decide (x2≥0))
noncomputable def f91_147 {α:Type} (k:Nat) (x1:(List Int)) (K:Bool→Option α):Option α:=
  (s91_147 k).F (x1,()) (fun x3=>K x3) (fun x3=>K x3) fun z=>nomatch z
noncomputable def p91_147 (k:Nat):Spec:={ own:=[false,false],run:=fun a o K=>(d112_147.dec a o).bind fun x=>f91_147 k x.1 fun x3=>K (o37 x3) }
theorem i91_147 (k:Nat):Impl Tryz.prog glTab 91 (p91_147 k):=
  .of w0 (l:=e91_147 k) ⟨i112_147 k,trivial⟩ (s91_147 k) (dA_ok (dP_ok (.sl tY)) (d1_ok (dC_ok 147 dN_ok))) _ fun x3 K=>K (o37 x3)
noncomputable def e125 (k:Nat):List (Nat×List Nat×Spec):=[(91,[147],p91_147 k)]
noncomputable def h125:H:=(hr (hr (.n [.kp [2]] [] .d .d)))
noncomputable def s125 (k:Nat):SumT (mkE (e125 k)) 0 k (bodyOf Tryz.f125) h125 [.kp [2]] d79.St S37_1 S37_1 q0:=
 .leaf fun x1 N R Z=>f91_147 k x1 fun x2=>R (!x2)
noncomputable def f125 {α:Type} (k:Nat) (x1:(List Int)) (K:Bool→Option α):Option α:=
  (s125 k).F x1 (fun x3=>K x3) (fun x3=>K x3) fun z=>nomatch z
noncomputable def p125 (k:Nat):Spec:={ own:=[false],run:=fun a o K=>(d79.dec a o).bind fun x=>f125 k x fun x3=>K (o37 x3) }
theorem i125 (k:Nat):Impl Tryz.prog glTab 125 (p125 k):=
  .of w0 (l:=e125 k) ⟨i91_147 k,trivial⟩ (s125 k) (d1_ok (dP_ok (.sl tY))) _ fun x3 K=>K (o37 x3)
noncomputable def e148 (k:Nat):List (Nat×List Nat×Spec):=[(145,[],p145 k)]
noncomputable def h148:H:=(hr (hr (.n [.kp [4]] [] .d .d)))
noncomputable def s148 (k:Nat):SumT (mkE (e148 k)) 0 k (bodyOf Tryz.f148) h148 [.kp [4]] d141.St S146_1 S146_1 q0:=
 .leaf fun(x1,x2) N R Z=>f145 k (w64 ((w64 (x1-1))-x2)) fun x3=>R x3
noncomputable def f148 {α:Type} (k:Nat) (x1:Int) (x2:Int) (K:Int→Option α):Option α:=
  (s148 k).F (x1,x2) (fun x4=>K x4) (fun x4=>K x4) fun z=>nomatch z
noncomputable def p148 (k:Nat):Spec:={ own:=[false,false],run:=fun a o K=>(d141.dec a o).bind fun x=>f148 k x.1 x.2 fun x4=>K (o175 x4) }
theorem i148 (k:Nat):Impl Tryz.prog glTab 148 (p148 k):=
  .of w0 (l:=e148 k) ⟨i145 k,trivial⟩ (s148 k) (dA_ok (dP_ok tI) (d1_ok (dP_ok tI))) _ fun x4 K=>K (o175 x4)
noncomputable def S151_1:(Int×Int)→St:=fun(x1,x2)=>stC [(2,pY x1),(3,pI x2)] []
noncomputable def e151 (k:Nat):List (Nat×List Nat×Spec):=[(173,[],p173 k)]
noncomputable def h151:H:=(hr (hb (hr (hl (hr (.n [.kp [2,3]] [] .d .d)))) (hr (.n [.kp [2,3]] [] .d .d))))
noncomputable def s151 (k:Nat):SumT (mkE (e151 k)) 0 k (bodyOf Tryz.f151) h151 [.kp [2,3]] d175.St S151_1 S151_1 q0:=
 .leaf fun x1 N R Z=>bif x1==0 then(R (0,4))else(f173 k x1 254 fun x4=>R (x4,0))
noncomputable def f151 {α:Type} (k:Nat) (x1:Int) (K:Int→Int→Option α):Option α:=
  (s151 k).F x1 (fun(x2,x3)=>K x2 x3) (fun(x2,x3)=>K x2 x3) fun z=>nomatch z
noncomputable def o151:(Int×Int)→FRes:=fun(x1,x2)=>{ ret:= .tup (.cn (pY x1) (.cn (pI x2) .e0)),objs:=[] }
noncomputable def p151 (k:Nat):Spec:={ own:=[false],run:=fun a o K=>(d175.dec a o).bind fun x=>f151 k x fun x2 x3=>K (o151 (x2,x3)) }
theorem i151 (k:Nat):Impl Tryz.prog glTab 151 (p151 k):=
  .of w0 (l:=e151 k) ⟨i173 k,trivial⟩ (s151 k) (d1_ok (dP_ok tY)) _ fun(x2,x3) K=>K (o151 (x2,x3))
noncomputable def S176_1:(Int×Int)→St:=fun(x1,x2)=>stC [(4,pY x1),(5,pI x2)] []
noncomputable def e176 (k:Nat):List (Nat×List Nat×Spec):=[(146,[],p146 k),(151,[],p151 k)]
noncomputable def h176:H:=(hr (hr (hr (.n [.kp [4,5]] [] .d .d))))
noncomputable def s176 (k:Nat):SumT (mkE (e176 k)) 0 k (bodyOf Tryz.f176) h176 [.kp [4,5]] d146.St S176_1 S176_1 q0:=
 .leaf fun(x1,x2) N R Z=>f151 k x2 fun x3 x4=>f146 k x1 x3 fun x5=>R (x5,x4)
noncomputable def f176 {α:Type} (k:Nat) (x1:Int) (x2:Int) (K:Int→Int→Option α):Option α:=
  (s176 k).F (x1,x2) (fun(x6,x7)=>K x6 x7) (fun(x6,x7)=>K x6 x7) fun z=>nomatch z
noncomputable def p176 (k:Nat):Spec:={ own:=[false,false],run:=fun a o K=>(d146.dec a o).bind fun x=>f176 k x.1 x.2 fun x6 x7=>K (o151 (x6,x7)) }
theorem i176 (k:Nat):Impl Tryz.prog glTab 176 (p176 k):=
  .of w0 (l:=e176 k) ⟨i146 k,i151 k,trivial⟩ (s176 k) (dA_ok (dP_ok tY) (d1_ok (dP_ok tY))) _ fun(x6,x7) K=>K (o151 (x6,x7))
noncomputable def S149_1:((List Int))→St:=fun x1=>stC [(2, .sl 0 none none)] [.L tY (x1:List Int)]
noncomputable def S149_2:((List Int)×(List Int)×(List Int)×Int×Int×Int×Int×Int×Int×Int×Int×Int)→St:=fun(x1,x2,x3,x4,x5,x6,x7,x8,x9,x10,x11,x12)=>stC [(0, .p (.sl tY) (x1:List Int)),(3, .sl 0 none none),(4, .sl 1 none none),(5,pI x4),(6,pI x5),(7,pY x6),(8,pI x7),(9,pY x8),(20,pI x9),(21,pI x10),(24, .sl 0 none none),(25,pI x11),(26,pI x12)] [.L tY (x2:List Int), .L tY (x3:List Int)]
noncomputable def S149_4:((List Int)×(List Int)×(List Int)×Int×Int×Int×Int×Int×Int×(List Int)×Int×Int×Int×Int)→St:=fun(x1,x2,x3,x4,x5,x6,x7,x8,x9,x10,x11,x12,x13,x14)=>stC [(0, .p (.sl tY) (x1:List Int)),(3, .sl 0 none none),(4, .sl 1 none none),(5,pI x4),(6,pI x5),(7,pY x6),(8,pI x7),(9,pY x8),(12,pY x9),(14, .sl 2 none none),(20,pI x11),(21,pI x12),(66, .sl 1 none none),(67,pI x13),(68,pI x14)] [.L tY (x2:List Int), .L tY (x3:List Int), .L tY (x10:List Int)]
noncomputable def S149_6:((List Int)×(List Int)×(List Int)×Int×Int×Int×Int×Int×(List Int)×Int×Int)→St:=fun(x1,x2,x3,x4,x5,x6,x7,x8,x9,x10,x11)=>stC [(0, .p (.sl tY) (x1:List Int)),(3, .sl 0 none none),(4, .sl 1 none none),(5,pI x4),(6,pI x5),(7,pY x6),(8,pI x7),(9,pY x8),(14, .sl 2 none none),(20,pI x10),(21,pI x11)] [.L tY (x2:List Int), .L tY (x3:List Int), .L tY (x9:List Int)]
noncomputable def S149_7:((List Int)×(List Int)×(List Int)×Int×Int×Int×Int×Int×Int×(List Int)×Int×Int)→St:=fun(x1,x2,x3,x4,x5,x6,x7,x8,x9,x10,x11,x12)=>stC [(0, .p (.sl tY) (x1:List Int)),(3, .sl 0 none none),(4, .sl 1 none none),(5,pI x4),(6,pI x5),(7,pY x6),(8,pI x7),(9,pY x8),(12,pY x9),(14, .sl 2 none none),(20,pI x11),(21,pI x12)] [.L tY (x2:List Int), .L tY (x3:List Int), .L tY (x10:List Int)]
noncomputable def S149_8:((List Int)×(List Int)×(List Int)×Int×Int×Int×Int×Int×Int×Int)→St:=fun(x1,x2,x3,x4,x5,x6,x7,x8,x9,x10)=>stC [(0, .p (.sl tY) (x1:List Int)),(3, .sl 0 none none),(4, .sl 1 none none),(5,pI x4),(6,pI x5),(7,pY x6),(8,pI x7),(9,pY x8),(20,pI x9),(21,pI x10)] [.L tY (x2:List Int), .L tY (x3:List Int)]
noncomputable def S149_10:((List Int)×(List Int)×(List Int)×Int×Int×Int×Int×Int)→St:=fun(x1,x2,x3,x4,x5,x6,x7,x8)=>stC [(0, .p (.sl tY) (x1:List Int)),(3, .sl 0 none none),(4, .sl 1 none none),(5,pI x4),(6,pI x5),(7,pY x6),(20,pI x7),(21,pI x8)] [.L tY (x2:List Int), .L tY (x3:List Int)]
noncomputable def S149_14:((List Int)×Int)→St:=fun(x1,x2)=>stC [(3, .sl 0 none none),(5,pI x2)] [.L tY (x1:List Int)]
noncomputable def S149_15:((List Int)×(List Int)×(List Int)×Int×Int×Int)→St:=fun(x1,x2,x3,x4,x5,x6)=>stC [(0, .p (.sl tY) (x1:List Int)),(3, .sl 0 none none),(4, .sl 1 none none),(5,pI x4),(6,pI x5),(7,pY x6)] [.L tY (x2:List Int), .L tY (x3:List Int)]
noncomputable def e149 (k:Nat):List (Nat×List Nat×Spec):=[(63,[],cloneS tY 1 k),(146,[],p146 k),(176,[],p176 k)]
noncomputable def h149:H:=(hr (hr (.n [] [.kp [0,3,4,5,6,7]] .d (.n [] [.kp [3,5]] (.n [] [.kp [0,3,4,5,6,7,20,21]] .d (.n [] [.kp [3,5]] (.n [.kp [0,3,4,5,6,7,20,21]] [.kp [0,3,4,5,6,7,20,21]] (hr (.n [] [.kp [0,3,4,5,6,7,20,21]] (hr (.n [.kp [3,5]] [] .d .d)) (hl (.n [] [.kp [0,3,4,5,6,7,20,21]] (hr (.n [] [.kp [0,3,4,5,6,7,8,9,20,21]] .d (.n [] [.kp [0,3,4,5,6,7,8,9,20,21]] (.n [] [.kp [0,3,4,5,6,7,8,9,20,21,24,25,26]] .d (.n [] [.kp [0,3,4,5,6,7,8,9,20,21]] (.n [.kp [0,3,4,5,6,7,8,9,20,21,24,25,26]] [.kp [0,3,4,5,6,7,8,9,20,21,24,25,26]] (hr (hl (hr (.n [.kp [0,3,4,5,6,7,8,9,20,21]] [] .d .d)))) .d) .d)) (hb (hr (hl (hr (.n [.kp [0,3,4,5,6,7,20,21]] [] .d .d)))) (hr (.n [] [.kp [0,3,4,5,6,7,8,9,12,14,20,21]] .d (.n [] [.kp [0,3,4,5,6,7,8,9,14,20,21]] (.n [] [.kp [0,3,4,5,6,7,8,9,12,14,20,21,66,67,68]] .d (.n [] [.kp [0,3,4,5,6,7,8,9,14,20,21]] (.n [.kp [0,3,4,5,6,7,8,9,12,14,20,21,66,67,68]] [.kp [0,3,4,5,6,7,8,9,12,14,20,21,66,67,68]] (hr (hl (hr (.n [.kp [0,3,4,5,6,7,8,9,14,20,21]] [] .d .d)))) .d) .d)) (hl (hr (hl (hr (hr (.n [.kp [0,3,4,5,6,7,20,21]] [] .d .d))))))))))))) .d)))) .d) .d)) (hr (.n [.shr 2 none, .kp [2]] [] .d .d))))))
noncomputable def s149 (k:Nat):SumT (mkE (e149 k)) 0 k (bodyOf Tryz.f149) h149 [.shr 2 none, .kp [2]] d79.St S149_1 S149_1 q0:=
 .pre 3 S149_15 (fun x1 N R Z=>N (x1,[1],[1],0,1,1))
 (.seq S149_14
 (.pre 1 S149_10 (fun(x2,x3,x4,x5,x6,x7) N R Z=>N (x2,x3,x4,x5,x6,x7,(x2.length:Int),0))
  (.blockP (.loop S149_10 (fun x=>x)
  (.pre 2 S149_10 (fun(x16,x17,x18,x19,x20,x21,x22,x23) N R Z=>bif decide (x23<x22)then(N (x16,x17,x18,x19,x20,x21,x22,x23))else(Z (.inl (x17,x19))))
  (.seq S149_10
  (.block (.pre 2 S149_8 (fun(x24,x25,x26,x27,x28,x29,x30,x31) N R Z=>N (x24,x25,x26,x27,x28,x29,x31,0,x30,x31))
   (.seq S149_8
   (.pre 1 S149_2 (fun(x34,x35,x36,x37,x38,x39,x40,x41,x42,x43) N R Z=>N (x34,x35,x36,x37,x38,x39,x40,x41,x42,x43,((x35.length:Nat):Int),0))
    (.blockP (.loop S149_2 (fun x=>x)
    (.leaf fun(x56,x57,x58,x59,x60,x61,x62,x63,x64,x65,x66,x67) N R Z=>bif decide (x67<x66)then(if 0≤x67∧x67<(x57.length:Int)then(bif decide (x67≤x62)then(if 0≤w64 (x62-x67)∧w64 (x62-x67)<(x56.length:Int)then(f146 k (x57.getD (x67.toNat) (0:Int)) (x56.getD ((w64 (x62-x67)).toNat) (0:Int)) fun x68=>N (x56,x57,x58,x59,x60,x61,x62,bitI .xor .u8 x63 x68,x64,x65,x66,w64 (x67+1)))else none)else(N (x56,x57,x58,x59,x60,x61,x62,x63,x64,x65,x66,w64 (x67+1))))else none)else(Z (.inl (x56,x57,x58,x59,x60,x61,x62,x63,x64,x65)))))))
   (.pre 3 S149_7 (fun(x69,x70,x71,x72,x73,x74,x75,x76,x77,x78) N R Z=>bif x76==0 then(Z (.inl (x69,x70,x71,x72,w64 (x73+1),x74,x77,x78)))else(f176 k x76 x74 fun x87 x88=>cloneF 1 k x70 fun x89=>if 0≤maxI 0 (w64 ((w64 (x73+((x71.length:Nat):Int)))-((x70.length:Nat):Int)))∧(maxI 0 (w64 ((w64 (x73+((x71.length:Nat):Int)))-((x70.length:Nat):Int))))*1≤room∧maxI 0 (w64 ((w64 (x73+((x71.length:Nat):Int)))-((x70.length:Nat):Int)))<9223372036854775808 then(if(x89.length+(List.replicate ((maxI 0 (w64 ((w64 (x73+((x71.length:Nat):Int)))-((x70.length:Nat):Int)))).toNat) (0:Int)).length)*1≤room then(N (x69,x70,x71,x72,x73,x74,x75,x76,x87,x89++(List.replicate ((maxI 0 (w64 ((w64 (x73+((x71.length:Nat):Int)))-((x70.length:Nat):Int)))).toNat) (0:Int)),x77,x78))else none)else none))
   (.seq S149_6
   (.pre 1 S149_4 (fun(x90,x91,x92,x93,x94,x95,x96,x97,x98,x99,x100,x101) N R Z=>N (x90,x91,x92,x93,x94,x95,x96,x97,x98,x99,x100,x101,((x92.length:Nat):Int),0))
    (.blockP (.loop S149_4 (fun x=>x)
    (.leaf fun(x116,x117,x118,x119,x120,x121,x122,x123,x124,x125,x126,x127,x128,x129) N R Z=>bif decide (x129<x128)then(if 0≤x129∧x129<(x118.length:Int)then(if 0≤w64 (x129+x120)∧w64 (x129+x120)<(x125.length:Int)then(f146 k x124 (x118.getD (x129.toNat) (0:Int)) fun x130=>if 0≤w64 (x129+x120)∧w64 (x129+x120)<(x125.length:Int)then(N (x116,x117,x118,x119,x120,x121,x122,x123,x124,x125.set ((w64 (x129+x120)).toNat) (bitI .xor .u8 (x125.getD ((w64 (x129+x120)).toNat) (0:Int)) x130),x126,x127,x128,w64 (x129+1)))else none)else none)else none)else(Z (.inl (x116,x117,x118,x119,x120,x121,x122,x123,x125,x126,x127)))))))
   (.leaf fun(x131,x132,x133,x134,x135,x136,x137,x138,x139,x140,x141) N R Z=>bif decide (w64 (2*x134)>x137)then(Z (.inl (x131,x139,x133,x134,w64 (x135+1),x136,x140,x141)))else(N (x131,x139,x132,w64 ((w64 (x137+1))-x134),1,x138,x140,x141))))))))
  (.leaf fun(x79,x80,x81,x82,x83,x84,x85,x86) N R Z=>N (x79,x80,x81,x82,x83,x84,x85,w64 (x86+1))))))))
 (.leaf fun(x32,x33) N R Z=>if 0≤maxI 0 (w64 ((w64 (x33+1))-((x32.length:Nat):Int)))∧(maxI 0 (w64 ((w64 (x33+1))-((x32.length:Nat):Int))))*1≤room∧maxI 0 (w64 ((w64 (x33+1))-((x32.length:Nat):Int)))<9223372036854775808 then(if(x32.length+(List.replicate ((maxI 0 (w64 ((w64 (x33+1))-((x32.length:Nat):Int)))).toNat) (0:Int)).length)*1≤room then(if 0≤(0:Int)∧(0:Int)≤w64 (x33+1)∧w64 (x33+1)≤((x32++(List.replicate ((maxI 0 (w64 ((w64 (x33+1))-((x32.length:Nat):Int)))).toNat) (0:Int))).length:Int)then(R ((x32++(List.replicate ((maxI 0 (w64 ((w64 (x33+1))-((x32.length:Nat):Int)))).toNat) (0:Int))).take ((w64 (x33+1)).toNat)))else none)else none)else none))
noncomputable def f149 {α:Type} (k:Nat) (x1:(List Int)) (K:(List Int)→Option α):Option α:=
  (s149 k).F x1 (fun x142=>K x142) (fun x142=>K x142) fun z=>nomatch z
noncomputable def p149 (k:Nat):Spec:={ own:=[false],run:=fun a o K=>(d79.dec a o).bind fun x=>f149 k x fun x142=>K (o119 x142) }
theorem i149 (k:Nat):Impl Tryz.prog glTab 149 (p149 k):=
  .of w0 (l:=e149 k) ⟨i63 k,i146 k,i176 k,trivial⟩ (s149 k) (d1_ok (dP_ok (.sl tY))) _ fun x142 K=>K (o119 x142)
theorem i150 (k:Nat):Impl Tryz.prog glTab 150 (cloneS tI 8 k):=
  clone_impl w0 (fn:=Tryz.f150) (by kernel_rfl) ⟨by kernel_rfl,by kernel_rfl,by kernel_rfl⟩ (fun x xs=>by kernel_rfl) (fun c=>by kernel_rfl) (fun a c=>by kernel_rfl)
theorem i152 (k:Nat):Impl Tryz.prog glTab 152 (evalS k):=eval_impl (i146 (k+10000)) (mul_run (Nat.le_add_left _ _)) k
noncomputable def d178:Dec ((List Int)×Int):=dA (dP (.sl tI)) (d1 (dP tI))
noncomputable def S178_2:((List Int)×Int×Int×Int)→St:=fun(x1,x2,x3,x4)=>stC [(0, .p (.sl tI) (x1:List Int)),(1,pI x2),(7,pI x3),(8,pI x4)] []
noncomputable def S178_5:((List Int)×Int)→St:=fun(x1,x2)=>stC [(0, .p (.sl tI) (x1:List Int)),(1,pI x2)] []
noncomputable def e178 (k:Nat):List (Nat×List Nat×Spec):=[]
noncomputable def h178:H:=(.n [] [.kp [0,1]] .d (.n [] [.kp []] (.n [] [.kp [0,1,7,8]] .d (.n [] [.kp []] (.n [.kp [0,1,7,8]] [.kp [0,1,7,8]] (hr (hb (hr (.n [.kp []] [] .d .d)) (hl (hl (hr (hr (hl (hr (.n [.kp [4]] [] .d .d))))))))) .d) .d)) (hr (.n [.kp [4]] [] .d .d))))
noncomputable def s178 (k:Nat):SumT (mkE (e178 k)) 0 k (bodyOf Tryz.f178) h178 [.kp [4]] d178.St S37_4 S37_4 q0:=
 .pre 1 S178_5 (fun(x1,x2) N R Z=>N (x1,x2))
 (.seq S79_4
 (.pre 1 S178_2 (fun(x3,x4) N R Z=>N (x3,x4,(x3.length:Int),0))
  (.blockP (.loop S178_2 (fun x=>x)
  (.leaf fun(x9,x10,x11,x12) N R Z=>bif decide (x12<x11)then(if 0≤x12∧x12<(x9.length:Int)then(bif x10==(x9.getD (x12.toNat) (0:Int))then(R x12)else(N (x9,x10,x11,w64 (x12+1))))else none)else(Z (.inl ()))))))
 (.leaf fun() N R Z=>R (-1)))
noncomputable def f178 {α:Type} (k:Nat) (x1:(List Int)) (x2:Int) (K:Int→Option α):Option α:=
  (s178 k).F (x1,x2) (fun x13=>K x13) (fun x13=>K x13) fun z=>nomatch z
noncomputable def p178 (k:Nat):Spec:={ own:=[false,false],run:=fun a o K=>(d178.dec a o).bind fun x=>f178 k x.1 x.2 fun x13=>K (o16 x13) }
theorem i178 (k:Nat):Impl Tryz.prog glTab 178 (p178 k):=
  .of w0 (l:=e178 k) trivial (s178 k) (dA_ok (dP_ok (.sl tI)) (d1_ok (dP_ok tI))) _ fun x13 K=>K (o16 x13)
noncomputable def e153 (k:Nat):List (Nat×List Nat×Spec):=[(178,[],p178 k)]
noncomputable def h153:H:=(hr (hr (.n [.kp [4]] [] .d .d)))
noncomputable def s153 (k:Nat):SumT (mkE (e153 k)) 0 k (bodyOf Tryz.f153) h153 [.kp [4]] d178.St S81_1 S81_1 q0:=
 .leaf fun(x1,x2) N R Z=>f178 k x1 x2 fun x3=>R (decide (x3≥0))
noncomputable def f153 {α:Type} (k:Nat) (x1:(List Int)) (x2:Int) (K:Bool→Option α):Option α:=
  (s153 k).F (x1,x2) (fun x4=>K x4) (fun x4=>K x4) fun z=>nomatch z
noncomputable def p153 (k:Nat):Spec:={ own:=[false,false],run:=fun a o K=>(d178.dec a o).bind fun x=>f153 k x.1 x.2 fun x4=>K (o37 x4) }
theorem i153 (k:Nat):Impl Tryz.prog glTab 153 (p153 k):=
  .of w0 (l:=e153 k) ⟨i178 k,trivial⟩ (s153 k) (dA_ok (dP_ok (.sl tI)) (d1_ok (dP_ok tI))) _ fun x4 K=>K (o37 x4)
noncomputable def e196 (k:Nat):List (Nat×List Nat×Spec):=[]
noncomputable def h196:H:=(hr (hr (hr (hr (hr (.n [.kp [2]] [] .d .d))))))
noncomputable def s196 (k:Nat):SumT (mkE (e196 k)) 0 k (bodyOf Tryz.f196) h196 [.kp [2]] d172.St S16_1 S16_1 q0:=
 .leaf fun x1 N R Z=>bif decide (x1≥4294967296)then(bif decide (Int.fdiv x1 (2^32)≥65536)then(bif decide (Int.fdiv (Int.fdiv x1 (2^32)) (2^16)≥256)then(if 0≤w8 (Int.fdiv (Int.fdiv (Int.fdiv x1 (2^32)) (2^16)) (2^8))∧w8 (Int.fdiv (Int.fdiv (Int.fdiv x1 (2^32)) (2^16)) (2^8))<((⟨#[0,1,2,2,3,3,3,3,4,4,4,4,4,4,4,4,5,5,5,5,5,5,5,5,5,5,5,5,5,5,5,5,6,6,6,6,6,6,6,6,6,6,6,6,6,6,6,6,6,6,6,6,6,6,6,6,6,6,6,6,6,6,6,6,7,7,7,7,7,7,7,7,7,7,7,7,7,7,7,7,7,7,7,7,7,7,7,7,7,7,7,7,7,7,7,7,7,7,7,7,7,7,7,7,7,7,7,7,7,7,7,7,7,7,7,7,7,7,7,7,7,7,7,7,7,7,7,7,8,8,8,8,8,8,8,8,8,8,8,8,8,8,8,8,8,8,8,8,8,8,8,8,8,8,8,8,8,8,8,8,8,8,8,8,8,8,8,8,8,8,8,8,8,8,8,8,8,8,8,8,8,8,8,8,8,8,8,8,8,8,8,8,8,8,8,8,8,8,8,8,8,8,8,8,8,8,8,8,8,8,8,8,8,8,8,8,8,8,8,8,8,8,8,8,8,8,8,8,8,8,8,8,8,8,8,8,8,8,8,8,8,8,8,8,8,8,8,8,8,8,8,8,8,8,8,8]⟩:ByteArray).size:Int)then(R (w64 (56+(w64 (byteAt (⟨#[0,1,2,2,3,3,3,3,4,4,4,4,4,4,4,4,5,5,5,5,5,5,5,5,5,5,5,5,5,5,5,5,6,6,6,6,6,6,6,6,6,6,6,6,6,6,6,6,6,6,6,6,6,6,6,6,6,6,6,6,6,6,6,6,7,7,7,7,7,7,7,7,7,7,7,7,7,7,7,7,7,7,7,7,7,7,7,7,7,7,7,7,7,7,7,7,7,7,7,7,7,7,7,7,7,7,7,7,7,7,7,7,7,7,7,7,7,7,7,7,7,7,7,7,7,7,7,7,8,8,8,8,8,8,8,8,8,8,8,8,8,8,8,8,8,8,8,8,8,8,8,8,8,8,8,8,8,8,8,8,8,8,8,8,8,8,8,8,8,8,8,8,8,8,8,8,8,8,8,8,8,8,8,8,8,8,8,8,8,8,8,8,8,8,8,8,8,8,8,8,8,8,8,8,8,8,8,8,8,8,8,8,8,8,8,8,8,8,8,8,8,8,8,8,8,8,8,8,8,8,8,8,8,8,8,8,8,8,8,8,8,8,8,8,8,8,8,8,8,8,8,8,8,8,8,8]⟩:ByteArray) ((w8 (Int.fdiv (Int.fdiv (Int.fdiv x1 (2^32)) (2^16)) (2^8))).toNat))))))else none)else(if 0≤w8 (Int.fdiv (Int.fdiv x1 (2^32)) (2^16))∧w8 (Int.fdiv (Int.fdiv x1 (2^32)) (2^16))<((⟨#[0,1,2,2,3,3,3,3,4,4,4,4,4,4,4,4,5,5,5,5,5,5,5,5,5,5,5,5,5,5,5,5,6,6,6,6,6,6,6,6,6,6,6,6,6,6,6,6,6,6,6,6,6,6,6,6,6,6,6,6,6,6,6,6,7,7,7,7,7,7,7,7,7,7,7,7,7,7,7,7,7,7,7,7,7,7,7,7,7,7,7,7,7,7,7,7,7,7,7,7,7,7,7,7,7,7,7,7,7,7,7,7,7,7,7,7,7,7,7,7,7,7,7,7,7,7,7,7,8,8,8,8,8,8,8,8,8,8,8,8,8,8,8,8,8,8,8,8,8,8,8,8,8,8,8,8,8,8,8,8,8,8,8,8,8,8,8,8,8,8,8,8,8,8,8,8,8,8,8,8,8,8,8,8,8,8,8,8,8,8,8,8,8,8,8,8,8,8,8,8,8,8,8,8,8,8,8,8,8,8,8,8,8,8,8,8,8,8,8,8,8,8,8,8,8,8,8,8,8,8,8,8,8,8,8,8,8,8,8,8,8,8,8,8,8,8,8,8,8,8,8,8,8,8,8,8]⟩:ByteArray).size:Int)then(R (w64 (48+(w64 (byteAt (⟨#[0,1,2,2,3,3,3,3,4,4,4,4,4,4,4,4,5,5,5,5,5,5,5,5,5,5,5,5,5,5,5,5,6,6,6,6,6,6,6,6,6,6,6,6,6,6,6,6,6,6,6,6,6,6,6,6,6,6,6,6,6,6,6,6,7,7,7,7,7,7,7,7,7,7,7,7,7,7,7,7,7,7,7,7,7,7,7,7,7,7,7,7,7,7,7,7,7,7,7,7,7,7,7,7,7,7,7,7,7,7,7,7,7,7,7,7,7,7,7,7,7,7,7,7,7,7,7,7,8,8,8,8,8,8,8,8,8,8,8,8,8,8,8,8,8,8,8,8,8,8,8,8,8,8,8,8,8,8,8,8,8,8,8,8,8,8,8,8,8,8,8,8,8,8,8,8,8,8,8,8,8,8,8,8,8,8,8,8,8,8,8,8,8,8,8,8,8,8,8,8,8,8,8,8,8,8,8,8,8,8,8,8,8,8,8,8,8,8,8,8,8,8,8,8,8,8,8,8,8,8,8,8,8,8,8,8,8,8,8,8,8,8,8,8,8,8,8,8,8,8,8,8,8,8,8,8]⟩:ByteArray) ((w8 (Int.fdiv (Int.fdiv x1 (2^32)) (2^16))).toNat))))))else none))else(bif decide (Int.fdiv x1 (2^32)≥256)then(if 0≤w8 (Int.fdiv (Int.fdiv x1 (2^32)) (2^8))∧w8 (Int.fdiv (Int.fdiv x1 (2^32)) (2^8))<((⟨#[0,1,2,2,3,3,3,3,4,4,4,4,4,4,4,4,5,5,5,5,5,5,5,5,5,5,5,5,5,5,5,5,6,6,6,6,6,6,6,6,6,6,6,6,6,6,6,6,6,6,6,6,6,6,6,6,6,6,6,6,6,6,6,6,7,7,7,7,7,7,7,7,7,7,7,7,7,7,7,7,7,7,7,7,7,7,7,7,7,7,7,7,7,7,7,7,7,7,7,7,7,7,7,7,7,7,7,7,7,7,7,7,7,7,7,7,7,7,7,7,7,7,7,7,7,7,7,7,8,8,8,8,8,8,8,8,8,8,8,8,8,8,8,8,8,8,8,8,8,8,8,8,8,8,8,8,8,8,8,8,8,8,8,8,8,8,8,8,8,8,8,8,8,8,8,8,8,8,8,8,8,8,8,8,8,8,8,8,8,8,8,8,8,8,8,8,8,8,8,8,8,8,8,8,8,8,8,8,8,8,8,8,8,8,8,8,8,8,8,8,8,8,8,8,8,8,8,8,8,8,8,8,8,8,8,8,8,8,8,8,8,8,8,8,8,8,8,8,8,8,8,8,8,8,8,8]⟩:ByteArray).size:Int)then(R (w64 (40+(w64 (byteAt (⟨#[0,1,2,2,3,3,3,3,4,4,4,4,4,4,4,4,5,5,5,5,5,5,5,5,5,5,5,5,5,5,5,5,6,6,6,6,6,6,6,6,6,6,6,6,6,6,6,6,6,6,6,6,6,6,6,6,6,6,6,6,6,6,6,6,7,7,7,7,7,7,7,7,7,7,7,7,7,7,7,7,7,7,7,7,7,7,7,7,7,7,7,7,7,7,7,7,7,7,7,7,7,7,7,7,7,7,7,7,7,7,7,7,7,7,7,7,7,7,7,7,7,7,7,7,7,7,7,7,8,8,8,8,8,8,8,8,8,8,8,8,8,8,8,8,8,8,8,8,8,8,8,8,8,8,8,8,8,8,8,8,8,8,8,8,8,8,8,8,8,8,8,8,8,8,8,8,8,8,8,8,8,8,8,8,8,8,8,8,8,8,8,8,8,8,8,8,8,8,8,8,8,8,8,8,8,8,8,8,8,8,8,8,8,8,8,8,8,8,8,8,8,8,8,8,8,8,8,8,8,8,8,8,8,8,8,8,8,8,8,8,8,8,8,8,8,8,8,8,8,8,8,8,8,8,8,8]⟩:ByteArray) ((w8 (Int.fdiv (Int.fdiv x1 (2^32)) (2^8))).toNat))))))else none)else(if 0≤w8 (Int.fdiv x1 (2^32))∧w8 (Int.fdiv x1 (2^32))<((⟨#[0,1,2,2,3,3,3,3,4,4,4,4,4,4,4,4,5,5,5,5,5,5,5,5,5,5,5,5,5,5,5,5,6,6,6,6,6,6,6,6,6,6,6,6,6,6,6,6,6,6,6,6,6,6,6,6,6,6,6,6,6,6,6,6,7,7,7,7,7,7,7,7,7,7,7,7,7,7,7,7,7,7,7,7,7,7,7,7,7,7,7,7,7,7,7,7,7,7,7,7,7,7,7,7,7,7,7,7,7,7,7,7,7,7,7,7,7,7,7,7,7,7,7,7,7,7,7,7,8,8,8,8,8,8,8,8,8,8,8,8,8,8,8,8,8,8,8,8,8,8,8,8,8,8,8,8,8,8,8,8,8,8,8,8,8,8,8,8,8,8,8,8,8,8,8,8,8,8,8,8,8,8,8,8,8,8,8,8,8,8,8,8,8,8,8,8,8,8,8,8,8,8,8,8,8,8,8,8,8,8,8,8,8,8,8,8,8,8,8,8,8,8,8,8,8,8,8,8,8,8,8,8,8,8,8,8,8,8,8,8,8,8,8,8,8,8,8,8,8,8,8,8,8,8,8,8]⟩:ByteArray).size:Int)then(R (w64 (32+(w64 (byteAt (⟨#[0,1,2,2,3,3,3,3,4,4,4,4,4,4,4,4,5,5,5,5,5,5,5,5,5,5,5,5,5,5,5,5,6,6,6,6,6,6,6,6,6,6,6,6,6,6,6,6,6,6,6,6,6,6,6,6,6,6,6,6,6,6,6,6,7,7,7,7,7,7,7,7,7,7,7,7,7,7,7,7,7,7,7,7,7,7,7,7,7,7,7,7,7,7,7,7,7,7,7,7,7,7,7,7,7,7,7,7,7,7,7,7,7,7,7,7,7,7,7,7,7,7,7,7,7,7,7,7,8,8,8,8,8,8,8,8,8,8,8,8,8,8,8,8,8,8,8,8,8,8,8,8,8,8,8,8,8,8,8,8,8,8,8,8,8,8,8,8,8,8,8,8,8,8,8,8,8,8,8,8,8,8,8,8,8,8,8,8,8,8,8,8,8,8,8,8,8,8,8,8,8,8,8,8,8,8,8,8,8,8,8,8,8,8,8,8,8,8,8,8,8,8,8,8,8,8,8,8,8,8,8,8,8,8,8,8,8,8,8,8,8,8,8,8,8,8,8,8,8,8,8,8,8,8,8,8]⟩:ByteArray) ((w8 (Int.fdiv x1 (2^32))).toNat))))))else none)))else(bif decide (x1≥65536)then(bif decide (Int.fdiv x1 (2^16)≥256)then(if 0≤w8 (Int.fdiv (Int.fdiv x1 (2^16)) (2^8))∧w8 (Int.fdiv (Int.fdiv x1 (2^16)) (2^8))<((⟨#[0,1,2,2,3,3,3,3,4,4,4,4,4,4,4,4,5,5,5,5,5,5,5,5,5,5,5,5,5,5,5,5,6,6,6,6,6,6,6,6,6,6,6,6,6,6,6,6,6,6,6,6,6,6,6,6,6,6,6,6,6,6,6,6,7,7,7,7,7,7,7,7,7,7,7,7,7,7,7,7,7,7,7,7,7,7,7,7,7,7,7,7,7,7,7,7,7,7,7,7,7,7,7,7,7,7,7,7,7,7,7,7,7,7,7,7,7,7,7,7,7,7,7,7,7,7,7,7,8,8,8,8,8,8,8,8,8,8,8,8,8,8,8,8,8,8,8,8,8,8,8,8,8,8,8,8,8,8,8,8,8,8,8,8,8,8,8,8,8,8,8,8,8,8,8,8,8,8,8,8,8,8,8,8,8,8,8,8,8,8,8,8,8,8,8,8,8,8,8,8,8,8,8,8,8,8,8,8,8,8,8,8,8,8,8,8,8,8,8,8,8,8,8,8,8,8,8,8,8,8,8,8,8,8,8,8,8,8,8,8,8,8,8,8,8,8,8,8,8,8,8,8,8,8,8,8]⟩:ByteArray).size:Int)then(R (w64 (24+(w64 (byteAt (⟨#[0,1,2,2,3,3,3,3,4,4,4,4,4,4,4,4,5,5,5,5,5,5,5,5,5,5,5,5,5,5,5,5,6,6,6,6,6,6,6,6,6,6,6,6,6,6,6,6,6,6,6,6,6,6,6,6,6,6,6,6,6,6,6,6,7,7,7,7,7,7,7,7,7,7,7,7,7,7,7,7,7,7,7,7,7,7,7,7,7,7,7,7,7,7,7,7,7,7,7,7,7,7,7,7,7,7,7,7,7,7,7,7,7,7,7,7,7,7,7,7,7,7,7,7,7,7,7,7,8,8,8,8,8,8,8,8,8,8,8,8,8,8,8,8,8,8,8,8,8,8,8,8,8,8,8,8,8,8,8,8,8,8,8,8,8,8,8,8,8,8,8,8,8,8,8,8,8,8,8,8,8,8,8,8,8,8,8,8,8,8,8,8,8,8,8,8,8,8,8,8,8,8,8,8,8,8,8,8,8,8,8,8,8,8,8,8,8,8,8,8,8,8,8,8,8,8,8,8,8,8,8,8,8,8,8,8,8,8,8,8,8,8,8,8,8,8,8,8,8,8,8,8,8,8,8,8]⟩:ByteArray) ((w8 (Int.fdiv (Int.fdiv x1 (2^16)) (2^8))).toNat))))))else none)else(if 0≤w8 (Int.fdiv x1 (2^16))∧w8 (Int.fdiv x1 (2^16))<((⟨#[0,1,2,2,3,3,3,3,4,4,4,4,4,4,4,4,5,5,5,5,5,5,5,5,5,5,5,5,5,5,5,5,6,6,6,6,6,6,6,6,6,6,6,6,6,6,6,6,6,6,6,6,6,6,6,6,6,6,6,6,6,6,6,6,7,7,7,7,7,7,7,7,7,7,7,7,7,7,7,7,7,7,7,7,7,7,7,7,7,7,7,7,7,7,7,7,7,7,7,7,7,7,7,7,7,7,7,7,7,7,7,7,7,7,7,7,7,7,7,7,7,7,7,7,7,7,7,7,8,8,8,8,8,8,8,8,8,8,8,8,8,8,8,8,8,8,8,8,8,8,8,8,8,8,8,8,8,8,8,8,8,8,8,8,8,8,8,8,8,8,8,8,8,8,8,8,8,8,8,8,8,8,8,8,8,8,8,8,8,8,8,8,8,8,8,8,8,8,8,8,8,8,8,8,8,8,8,8,8,8,8,8,8,8,8,8,8,8,8,8,8,8,8,8,8,8,8,8,8,8,8,8,8,8,8,8,8,8,8,8,8,8,8,8,8,8,8,8,8,8,8,8,8,8,8,8]⟩:ByteArray).size:Int)then(R (w64 (16+(w64 (byteAt (⟨#[0,1,2,2,3,3,3,3,4,4,4,4,4,4,4,4,5,5,5,5,5,5,5,5,5,5,5,5,5,5,5,5,6,6,6,6,6,6,6,6,6,6,6,6,6,6,6,6,6,6,6,6,6,6,6,6,6,6,6,6,6,6,6,6,7,7,7,7,7,7,7,7,7,7,7,7,7,7,7,7,7,7,7,7,7,7,7,7,7,7,7,7,7,7,7,7,7,7,7,7,7,7,7,7,7,7,7,7,7,7,7,7,7,7,7,7,7,7,7,7,7,7,7,7,7,7,7,7,8,8,8,8,8,8,8,8,8,8,8,8,8,8,8,8,8,8,8,8,8,8,8,8,8,8,8,8,8,8,8,8,8,8,8,8,8,8,8,8,8,8,8,8,8,8,8,8,8,8,8,8,8,8,8,8,8,8,8,8,8,8,8,8,8,8,8,8,8,8,8,8,8,8,8,8,8,8,8,8,8,8,8,8,8,8,8,8,8,8,8,8,8,8,8,8,8,8,8,8,8,8,8,8,8,8,8,8,8,8,8,8,8,8,8,8,8,8,8,8,8,8,8,8,8,8,8,8]⟩:ByteArray) ((w8 (Int.fdiv x1 (2^16))).toNat))))))else none))else(bif decide (x1≥256)then(if 0≤w8 (Int.fdiv x1 (2^8))∧w8 (Int.fdiv x1 (2^8))<((⟨#[0,1,2,2,3,3,3,3,4,4,4,4,4,4,4,4,5,5,5,5,5,5,5,5,5,5,5,5,5,5,5,5,6,6,6,6,6,6,6,6,6,6,6,6,6,6,6,6,6,6,6,6,6,6,6,6,6,6,6,6,6,6,6,6,7,7,7,7,7,7,7,7,7,7,7,7,7,7,7,7,7,7,7,7,7,7,7,7,7,7,7,7,7,7,7,7,7,7,7,7,7,7,7,7,7,7,7,7,7,7,7,7,7,7,7,7,7,7,7,7,7,7,7,7,7,7,7,7,8,8,8,8,8,8,8,8,8,8,8,8,8,8,8,8,8,8,8,8,8,8,8,8,8,8,8,8,8,8,8,8,8,8,8,8,8,8,8,8,8,8,8,8,8,8,8,8,8,8,8,8,8,8,8,8,8,8,8,8,8,8,8,8,8,8,8,8,8,8,8,8,8,8,8,8,8,8,8,8,8,8,8,8,8,8,8,8,8,8,8,8,8,8,8,8,8,8,8,8,8,8,8,8,8,8,8,8,8,8,8,8,8,8,8,8,8,8,8,8,8,8,8,8,8,8,8,8]⟩:ByteArray).size:Int)then(R (w64 (8+(w64 (byteAt (⟨#[0,1,2,2,3,3,3,3,4,4,4,4,4,4,4,4,5,5,5,5,5,5,5,5,5,5,5,5,5,5,5,5,6,6,6,6,6,6,6,6,6,6,6,6,6,6,6,6,6,6,6,6,6,6,6,6,6,6,6,6,6,6,6,6,7,7,7,7,7,7,7,7,7,7,7,7,7,7,7,7,7,7,7,7,7,7,7,7,7,7,7,7,7,7,7,7,7,7,7,7,7,7,7,7,7,7,7,7,7,7,7,7,7,7,7,7,7,7,7,7,7,7,7,7,7,7,7,7,8,8,8,8,8,8,8,8,8,8,8,8,8,8,8,8,8,8,8,8,8,8,8,8,8,8,8,8,8,8,8,8,8,8,8,8,8,8,8,8,8,8,8,8,8,8,8,8,8,8,8,8,8,8,8,8,8,8,8,8,8,8,8,8,8,8,8,8,8,8,8,8,8,8,8,8,8,8,8,8,8,8,8,8,8,8,8,8,8,8,8,8,8,8,8,8,8,8,8,8,8,8,8,8,8,8,8,8,8,8,8,8,8,8,8,8,8,8,8,8,8,8,8,8,8,8,8,8]⟩:ByteArray) ((w8 (Int.fdiv x1 (2^8))).toNat))))))else none)else(if 0≤w8 x1∧w8 x1<((⟨#[0,1,2,2,3,3,3,3,4,4,4,4,4,4,4,4,5,5,5,5,5,5,5,5,5,5,5,5,5,5,5,5,6,6,6,6,6,6,6,6,6,6,6,6,6,6,6,6,6,6,6,6,6,6,6,6,6,6,6,6,6,6,6,6,7,7,7,7,7,7,7,7,7,7,7,7,7,7,7,7,7,7,7,7,7,7,7,7,7,7,7,7,7,7,7,7,7,7,7,7,7,7,7,7,7,7,7,7,7,7,7,7,7,7,7,7,7,7,7,7,7,7,7,7,7,7,7,7,8,8,8,8,8,8,8,8,8,8,8,8,8,8,8,8,8,8,8,8,8,8,8,8,8,8,8,8,8,8,8,8,8,8,8,8,8,8,8,8,8,8,8,8,8,8,8,8,8,8,8,8,8,8,8,8,8,8,8,8,8,8,8,8,8,8,8,8,8,8,8,8,8,8,8,8,8,8,8,8,8,8,8,8,8,8,8,8,8,8,8,8,8,8,8,8,8,8,8,8,8,8,8,8,8,8,8,8,8,8,8,8,8,8,8,8,8,8,8,8,8,8,8,8,8,8,8,8]⟩:ByteArray).size:Int)then(R (w64 (0+(w64 (byteAt (⟨#[0,1,2,2,3,3,3,3,4,4,4,4,4,4,4,4,5,5,5,5,5,5,5,5,5,5,5,5,5,5,5,5,6,6,6,6,6,6,6,6,6,6,6,6,6,6,6,6,6,6,6,6,6,6,6,6,6,6,6,6,6,6,6,6,7,7,7,7,7,7,7,7,7,7,7,7,7,7,7,7,7,7,7,7,7,7,7,7,7,7,7,7,7,7,7,7,7,7,7,7,7,7,7,7,7,7,7,7,7,7,7,7,7,7,7,7,7,7,7,7,7,7,7,7,7,7,7,7,8,8,8,8,8,8,8,8,8,8,8,8,8,8,8,8,8,8,8,8,8,8,8,8,8,8,8,8,8,8,8,8,8,8,8,8,8,8,8,8,8,8,8,8,8,8,8,8,8,8,8,8,8,8,8,8,8,8,8,8,8,8,8,8,8,8,8,8,8,8,8,8,8,8,8,8,8,8,8,8,8,8,8,8,8,8,8,8,8,8,8,8,8,8,8,8,8,8,8,8,8,8,8,8,8,8,8,8,8,8,8,8,8,8,8,8,8,8,8,8,8,8,8,8,8,8,8,8]⟩:ByteArray) ((w8 x1).toNat))))))else none)))
noncomputable def f196 {α:Type} (k:Nat) (x1:Int) (K:Int→Option α):Option α:=
  (s196 k).F x1 (fun x2=>K x2) (fun x2=>K x2) fun z=>nomatch z
noncomputable def p196 (k:Nat):Spec:={ own:=[false],run:=fun a o K=>(d172.dec a o).bind fun x=>f196 k x fun x2=>K (o16 x2) }
theorem i196 (k:Nat):Impl Tryz.prog glTab 196 (p196 k):=
  .of w0 (l:=e196 k) trivial (s196 k) (d1_ok (dP_ok tU)) _ fun x2 K=>K (o16 x2)
noncomputable def e180 (k:Nat):List (Nat×List Nat×Spec):=[(196,[],p196 k)]
noncomputable def h180:H:=(hr (hr (hr (.n [.kp [2]] [] .d .d))))
noncomputable def s180 (k:Nat):SumT (mkE (e180 k)) 0 k (bodyOf Tryz.f180) h180 [.kp [2]] d172.St S16_1 S16_1 q0:=
 .leaf fun x1 N R Z=>f196 k x1 fun x2=>R x2
noncomputable def f180 {α:Type} (k:Nat) (x1:Int) (K:Int→Option α):Option α:=
  (s180 k).F x1 (fun x3=>K x3) (fun x3=>K x3) fun z=>nomatch z
noncomputable def p180 (k:Nat):Spec:={ own:=[false],run:=fun a o K=>(d172.dec a o).bind fun x=>f180 k x fun x3=>K (o16 x3) }
theorem i180 (k:Nat):Impl Tryz.prog glTab 180 (p180 k):=
  .of w0 (l:=e180 k) ⟨i196 k,trivial⟩ (s180 k) (d1_ok (dP_ok tU)) _ fun x3 K=>K (o16 x3)
noncomputable def e192 (k:Nat):List (Nat×List Nat×Spec):=[(169,[],p169 k)]
noncomputable def h192:H:=(hr (hr (.n [.kp [4]] [] .d .d)))
noncomputable def s192 (k:Nat):SumT (mkE (e192 k)) 0 k (bodyOf Tryz.f192) h192 [.kp [4]] d141.St S81_1 S81_1 q0:=
 .leaf fun(x1,x2) N R Z=>f169 k x1 fun x3=>bif x3 then(f169 k x2 fun x4=>bif !x4 then(R true)else(R (decide (x1<x2))))else(R (decide (x1<x2)))
noncomputable def f192 {α:Type} (k:Nat) (x1:Int) (x2:Int) (K:Bool→Option α):Option α:=
  (s192 k).F (x1,x2) (fun x5=>K x5) (fun x5=>K x5) fun z=>nomatch z
noncomputable def p192 (k:Nat):Spec:={ own:=[false,false],run:=fun a o K=>(d141.dec a o).bind fun x=>f192 k x.1 x.2 fun x5=>K (o37 x5) }
theorem i192 (k:Nat):Impl Tryz.prog glTab 192 (p192 k):=
  .of w0 (l:=e192 k) ⟨i169 k,trivial⟩ (s192 k) (dA_ok (dP_ok tI) (d1_ok (dP_ok tI))) _ fun x5 K=>K (o37 x5)
noncomputable def d186w:Dec ((List Int)×Int×Int):=dA (dO tI) (dA (dP tI) (d1 (dP tI)))
noncomputable def S186w_1:((List Int))→St:=fun x1=>stC [(0, .sl 0 none none)] [.L tI (x1:List Int)]
noncomputable def S186w_2:((List Int)×Int×Int×Int×Int)→St:=fun(x1,x2,x3,x4,x5)=>stC [(0, .sl 0 none none),(1,pI x2),(2,pI x3),(6,pI x4),(7,pI x5)] [.L tI (x1:List Int)]
noncomputable def S186w_4:((List Int)×Int×Int×Int)→St:=fun(x1,x2,x3,x4)=>stC [(0, .sl 0 none none),(1,pI x2),(2,pI x3),(6,pI x4)] [.L tI (x1:List Int)]
noncomputable def e186w (k:Nat):List (Nat×List Nat×Spec):=[(192,[],p192 k)]
noncomputable def h186w:H:=(.n [] [.kp [0,1,2,6]] .d (.n [] [.kp [0]] (.n [.kp [0,1,2,6]] [.kp [0,1,2,6]] (.n [] [.kp [0,1,2,6]] (hr (hr (.n [.kp [0]] [] .d .d))) (hl (.n [] [.kp [0,1,2,6]] (.n [] [.kp [0,1,2,6,7]] .d (.n [] [.kp [0,1,2,6]] (.n [.kp [0,1,2,6,7]] [.kp [0,1,2,6,7]] (hl (hr (hr (.n [.kp [0,1,2,6]] [] .d .d)))) .d) .d)) .d))) .d) .d))
noncomputable def s186w (k:Nat):SumT (mkE (e186w k)) 1 k (bodyOf Tryz.f186) h186w [.kp [0]] d186w.St S186w_1 S186w_1 q0:=
 .pre 1 S186w_4 (fun(x1,x2,x3) N R Z=>N (x1,x2,x3,w64 (x2+1)))
 (.blockP (.loop S186w_4 (fun x=>x)
 (.pre 1 S186w_4 (fun(x8,x9,x10,x11) N R Z=>bif decide (x11<x10)then(N (x8,x9,x10,x11))else(Z (.inl x8)))
 (.seq S186w_4
 (.block (.pre 1 S186w_2 (fun(x12,x13,x14,x15) N R Z=>N (x12,x13,x14,x15,x15))
  (.blockP (.loop S186w_2 (fun x=>x)
  (.leaf fun(x22,x23,x24,x25,x26) N R Z=>bif decide (x26>x23)then(if 0≤x26∧x26<(x22.length:Int)then(if 0≤w64 (x26-1)∧w64 (x26-1)<(x22.length:Int)then(f192 k (x22.getD (x26.toNat) (0:Int)) (x22.getD ((w64 (x26-1)).toNat) (0:Int)) fun x27=>bif x27 then(if 0≤w64 (x26-1)∧w64 (x26-1)<(x22.length:Int)then(if 0≤x26∧x26<(x22.length:Int)then(if 0≤x26∧x26<(x22.length:Int)then(if 0≤w64 (x26-1)∧w64 (x26-1)<((x22.set (x26.toNat) (x22.getD ((w64 (x26-1)).toNat) (0:Int))).length:Int)then(N ((x22.set (x26.toNat) (x22.getD ((w64 (x26-1)).toNat) (0:Int))).set ((w64 (x26-1)).toNat) (x22.getD (x26.toNat) (0:Int)),x23,x24,x25,w64 (x26-1)))else none)else none)else none)else none)else(Z (.inl (x22,x23,x24,x25))))else none)else none)else(Z (.inl (x22,x23,x24,x25))))))))
 (.leaf fun(x28,x29,x30,x31) N R Z=>N (x28,x29,x30,w64 (x31+1)))))))
noncomputable def f186w {α:Type} (k:Nat) (x1:(List Int)) (x2:Int) (x3:Int) (K:(List Int)→Option α):Option α:=
  (s186w k).F (x1,x2,x3) (fun x16=>K x16) (fun x16=>K x16) fun z=>nomatch z
noncomputable def o186w:((List Int))→FRes:=fun x1=>{ ret:= .tup (.e0),objs:=[.L tI (x1:List Int)] }
noncomputable def p186w (k:Nat):Spec:={ own:=[true,false,false],run:=fun a o K=>(d186w.dec a o).bind fun x=>f186w k x.1 x.2.1 x.2.2 fun x16=>K (o186w x16) }
theorem i186w (k:Nat):Impl Tryz.prog glTab 186 (p186w k):=
  .of w0 (l:=e186w k) ⟨i192 k,trivial⟩ (s186w k) (dA_ok (dO_ok tI) (dA_ok (dP_ok tI) (d1_ok (dP_ok tI)))) _ fun x16 K=>K (o186w x16)
noncomputable def d179w:Dec ((List Int)×Int×Int×Int):=dA (dO tI) (dA (dP tI) (dA (dP tI) (d1 (dP tI))))
noncomputable def S179w_2:((List Int)×Int×Int×Int×Bool×Bool×Int)→St:=fun(x1,x2,x3,x4,x5,x6,x7)=>stC [(0, .sl 0 none none),(1,pI x2),(2,pI x3),(3,pI x4),(8,pB x5),(9,pB x6),(10,pI x7)] [.L tI (x1:List Int)]
noncomputable def S179w_3:((List Int)×Int×Int×Int×Bool×Bool)→St:=fun(x1,x2,x3,x4,x5,x6)=>stC [(0, .sl 0 none none),(1,pI x2),(2,pI x3),(3,pI x4),(8,pB x5),(9,pB x6)] [.L tI (x1:List Int)]
noncomputable def e179w (k:Nat):List (Nat×List Nat×Spec):=[(186,[],p186w k)]
noncomputable def h179w:H:=(hr (.n [] [.kp [0,1,2,3,8,9]] .d (.n [] [.kp [0]] (.n [.kp [0,1,2,3,8,9]] [.kp [0,1,2,3,8,9]] (.n [] [.kp [0,1,2,3,8,9]] (hr (hb (hr (hl (hr (.n [.kp [0]] [] .d .d)))) (hr (.n [] [.kp [0,1,2,3,8,9,10]] .d .d)))) .d) .d) .d)))
noncomputable def s179w (k:Nat):SumT (mkE (e179w k)) 1 k (bodyOf Tryz.f179) h179w [.kp [0]] d179w.St S186w_1 S186w_1 q0:=
 .pre 2 S179w_3 (fun(x1,x2,x3,x4) N R Z=>N (x1,x2,x3,x4,true,true))
 (.blockP (.loop S179w_3 (fun x=>x)
 (.blockP (.pre 4 S179w_2 (fun(x11,x12,x13,x14,x15,x16) N R Z=>bif decide (w64 (x13-x12)≤12)then(f186w k x11 x12 x13 fun x17=>R x17)else(bif x14==0 then none else(bif !x15 then none else(N (x11,x12,x13,x14,x15,x16,w64 (x13-x12))))))
 (.leaf fun(x19,x20,x21,x22,x23,x24,x25) N R Z=>none)))))
noncomputable def f179w {α:Type} (k:Nat) (x1:(List Int)) (x2:Int) (x3:Int) (x4:Int) (K:(List Int)→Option α):Option α:=
  (s179w k).F (x1,x2,x3,x4) (fun x18=>K x18) (fun x18=>K x18) fun z=>nomatch z
noncomputable def p179w (k:Nat):Spec:={ own:=[true,false,false,false],run:=fun a o K=>(d179w.dec a o).bind fun x=>f179w k x.1 x.2.1 x.2.2.1 x.2.2.2 fun x18=>K (o186w x18) }
theorem i179w (k:Nat):Impl Tryz.prog glTab 179 (p179w k):=
  .of w0 (l:=e179w k) ⟨i186w k,trivial⟩ (s179w k) (dA_ok (dO_ok tI) (dA_ok (dP_ok tI) (dA_ok (dP_ok tI) (d1_ok (dP_ok tI))))) _ fun x18 K=>K (o186w x18)
noncomputable def d154w:Dec ((List Int)):=d1 (dO tI)
noncomputable def e154w (k:Nat):List (Nat×List Nat×Spec):=[(179,[],p179w k),(180,[],p180 k)]
noncomputable def h154w:H:= .d
noncomputable def s154w (k:Nat):SumT (mkE (e154w k)) 1 k (bodyOf Tryz.f154) h154w [.kp [0]] d154w.St S186w_1 S186w_1 q0:=
 .leaf fun x1 N R Z=>f180 k (wu64 ((x1.length:Nat):Int)) fun x2=>f179w k x1 0 ((x1.length:Nat):Int) x2 fun x3=>N x3
noncomputable def f154w {α:Type} (k:Nat) (x1:(List Int)) (K:(List Int)→Option α):Option α:=
  (s154w k).F x1 (fun x4=>K x4) (fun x4=>K x4) fun z=>nomatch z
noncomputable def p154w (k:Nat):Spec:={ own:=[true],run:=fun a o K=>(d154w.dec a o).bind fun x=>f154w k x fun x4=>K (o186w x4) }
theorem i154w (k:Nat):Impl Tryz.prog glTab 154 (p154w k):=
  .of w0 (l:=e154w k) ⟨i179w k,i180 k,trivial⟩ (s154w k) (d1_ok (dO_ok tI)) _ fun x4 K=>K (o186w x4)
noncomputable def d126:Dec ((List Int)×Int×(List Int)×Int):=dA (dP (.sl tY)) (dA (dP tI) (dA (dP (.sl tI)) (d1 (dP tI))))
noncomputable def S126_1:((List Int)×Bool)→St:=fun(x1,x2)=>stC [(8, .sl 0 none none),(9,pB x2)] [.L tI (x1:List Int)]
noncomputable def S126_2:(Int×(List Int)×Int×(List Int)×Int×Int×(List Int)×Int×Int)→St:=fun(x1,x2,x3,x4,x5,x6,x7,x8,x9)=>stC [(1,pI x1),(2, .p (.sl tI) (x2:List Int)),(3,pI x3),(10, .sl 0 none none),(13,pY x5),(14,pI x6),(22, .p (.sl tI) (x7:List Int)),(23,pI x8),(24,pI x9)] [.L tY (x4:List Int)]
noncomputable def S126_4:(Int×(List Int)×Int×(List Int)×(List Int)×Int×Int)→St:=fun(x1,x2,x3,x4,x5,x6,x7)=>stC [(1,pI x1),(2, .p (.sl tI) (x2:List Int)),(3,pI x3),(10, .sl 0 none none),(22, .p (.sl tI) (x5:List Int)),(23,pI x6),(24,pI x7)] [.L tY (x4:List Int)]
noncomputable def S126_5:(Int×(List Int)×Int×(List Int)×Int×(List Int)×Int×Int)→St:=fun(x1,x2,x3,x4,x5,x6,x7,x8)=>stC [(1,pI x1),(2, .p (.sl tI) (x2:List Int)),(3,pI x3),(10, .sl 0 none none),(13,pY x5),(22, .p (.sl tI) (x6:List Int)),(23,pI x7),(24,pI x8)] [.L tY (x4:List Int)]
noncomputable def S126_10:(Int×(List Int)×(List Int)×(List Int)×Int×Int×Int×Int)→St:=fun(x1,x2,x3,x4,x5,x6,x7,x8)=>stC [(1,pI x1),(2, .p (.sl tI) (x2:List Int)),(15, .sl 0 none none),(16, .sl 1 none none),(17,pI x5),(18,pY x6),(63,pI x7),(64,pI x8)] [.L tY (x3:List Int), .L tI (x4:List Int)]
noncomputable def S126_11:(Int×(List Int)×(List Int)×(List Int)×Int×Int)→St:=fun(x1,x2,x3,x4,x5,x6)=>stC [(1,pI x1),(2, .p (.sl tI) (x2:List Int)),(15, .sl 0 none none),(16, .sl 1 none none),(63,pI x5),(64,pI x6)] [.L tY (x3:List Int), .L tI (x4:List Int)]
noncomputable def S126_15:((List Int)×(List Int)×(List Int))→St:=fun(x1,x2,x3)=>stC [(2, .p (.sl tI) (x1:List Int)),(15, .sl 0 none none),(16, .sl 1 none none)] [.L tY (x2:List Int), .L tI (x3:List Int)]
noncomputable def S126_16:(Int×(List Int)×(List Int)×(List Int))→St:=fun(x1,x2,x3,x4)=>stC [(1,pI x1),(2, .p (.sl tI) (x2:List Int)),(15, .sl 0 none none),(16, .sl 1 none none)] [.L tY (x3:List Int), .L tI (x4:List Int)]
noncomputable def S126_17:(Int×(List Int)×Int×(List Int))→St:=fun(x1,x2,x3,x4)=>stC [(1,pI x1),(2, .p (.sl tI) (x2:List Int)),(3,pI x3),(10, .sl 0 none none)] [.L tY (x4:List Int)]
noncomputable def e126 (k:Nat):List (Nat×List Nat×Spec):=[(63,[],cloneS tY 1 k),(146,[],p146 k),(148,[],p148 k),(149,[],p149 k),(150,[],cloneS tI 8 k),(151,[],p151 k),(152,[],evalS k),(153,[],p153 k),(154,[],p154w k)]
noncomputable def h126:H:=(hr (.n [] [.kp [1,2,3,10]] .d (.n [] [.kp [1,2,3,10]] (.n [] [.kp [1,2,3,10,22,23,24]] .d (.n [] [.kp [1,2,3,10]] (.n [.kp [1,2,3,10,22,23,24]] [.kp [1,2,3,10,22,23,24]] (hr (.n [] [.kp [1,2,3,10,22,23,24]] (hr (.n [.kp [1,2,3,10]] [] .d .d)) (hl (.n [] [.shr 10 none, .kp [1,2,3,10,22,23,24]] (hr (.n [] [.kp [1,2,3,10,13,22,23,24]] .d (.n [] [.kp [1,2,3,10,22,23,24]] (.n [] [.kp [1,2,3,10,13,14,22,23,24]] .d (.n [] [.kp [1,2,3,10,22,23,24]] (.n [.kp [1,2,3,10,13,14,22,23,24]] [.kp [1,2,3,10,13,14,22,23,24]] (hl (hr (hr (.n [.kp [1,2,3,10,22,23,24]] [] .d .d)))) .d) .d)) .d))) .d)))) .d) .d)) (hr (hb (hr (hl (hr (.n [.own 8 none tI, .kp [8,9]] [] .d .d)))) (.n [] [.kp [1,2,15,16]] .d (.n [] [.kp [2,15,16]] (.n [] [.kp [1,2,15,16,63,64]] .d (.n [] [.kp [2,15,16]] (.n [.kp [1,2,15,16,63,64]] [.kp [1,2,15,16,63,64]] (hr (.n [] [.kp [1,2,15,16,63,64]] (hr (.n [.kp [2,15,16]] [] .d .d)) (hl (.n [] [.kp [1,2,15,16,63,64]] (hr (.n [] [.kp [1,2,15,16,17,18,63,64]] .d .d)) .d)))) .d) .d)) (hr (hr (.n [.own 8 none tI, .kp [8,9]] [] .d .d))))))))))
noncomputable def s126 (k:Nat):SumT (mkE (e126 k)) 0 k (bodyOf Tryz.f126) h126 [.own 8 none tI, .kp [8,9]] d126.St S126_1 S126_1 q0:=
 .pre 2 S126_17 (fun(x1,x2,x3,x4) N R Z=>cloneF 1 k x1 fun x5=>N (x2,x3,x4,x5))
 (.seq S126_17
 (.pre 1 S126_4 (fun(x6,x7,x8,x9) N R Z=>N (x6,x7,x8,x9,x7,(x7.length:Int),0))
  (.blockP (.loop S126_4 (fun x=>x)
  (.pre 2 S126_4 (fun(x17,x18,x19,x20,x21,x22,x23) N R Z=>bif decide (x23<x22)then(N (x17,x18,x19,x20,x21,x22,x23))else(Z (.inl (x17,x18,x19,x20))))
  (.seq S126_4
  (.block (.pre 2 S126_5 (fun(x24,x25,x26,x27,x28,x29,x30) N R Z=>if 0≤x30∧x30<(x28.length:Int)then(f148 k x24 (x28.getD (x30.toNat) (0:Int)) fun x35=>N (x24,x25,x26,x27,x35,x28,x29,x30))else none)
   (.seq S126_4
   (.pre 1 S126_2 (fun(x36,x37,x38,x39,x40,x41,x42,x43) N R Z=>N (x36,x37,x38,x39,x40,w64 (((x39.length:Nat):Int)-1),x41,x42,x43))
    (.blockP (.loop S126_2 (fun x=>x)
    (.leaf fun(x53,x54,x55,x56,x57,x58,x59,x60,x61) N R Z=>bif decide (x58>0)then(if 0≤x58∧x58<(x56.length:Int)then(if 0≤w64 (x58-1)∧w64 (x58-1)<(x56.length:Int)then(f146 k x57 (x56.getD ((w64 (x58-1)).toNat) (0:Int)) fun x62=>if 0≤x58∧x58<(x56.length:Int)then(N (x53,x54,x55,x56.set (x58.toNat) (bitI .xor .u8 (x56.getD (x58.toNat) (0:Int)) x62),x57,w64 (x58-1),x59,x60,x61))else none)else none)else none)else(Z (.inl (x53,x54,x55,x56,x59,x60,x61)))))))
   (.leaf fun(x63,x64,x65,x66,x67,x68,x69) N R Z=>if 0≤(1:Int)∧(1:Int)≤(x66.length:Int)∧(x66.length:Int)≤(x66.length:Int)then(N (x63,x64,x65,x66.drop 1,x67,x68,x69))else none))))
  (.leaf fun(x70,x71,x72,x73,x74,x75,x76) N R Z=>N (x70,x71,x72,x73,x74,x75,w64 (x76+1))))))))
 (.pre 3 S126_16 (fun(x31,x32,x33,x34) N R Z=>f149 k x34 fun x77=>bif decide (w64 (((x77.length:Nat):Int)-1)>x33)then(R ([],false))else(cloneF 8 k x32 fun x80=>N (x31,x32,x77,x80)))
 (.seq S126_15
 (.pre 1 S126_11 (fun(x81,x82,x83,x84) N R Z=>N (x81,x82,x83,x84,x81,0))
  (.blockP (.loop S126_11 (fun x=>x)
  (.pre 2 S126_11 (fun(x91,x92,x93,x94,x95,x96) N R Z=>bif decide (x96<x95)then(N (x91,x92,x93,x94,x95,x96))else(Z (.inl (x92,x93,x94))))
  (.seq S126_11
  (.block (.pre 2 S126_10 (fun(x97,x98,x99,x100,x101,x102) N R Z=>f148 k x97 x102 fun x106=>f151 k x106 fun x107 x108=>N (x97,x98,x99,x100,x102,x107,x101,x102))
   (.leaf fun(x109,x110,x111,x112,x113,x114,x115,x116) N R Z=>evalF k x111 x114 fun x117=>bif x117==0 then(f153 k x110 x113 fun x118=>bif !x118 then(if(x112.length+[x113].length)*8≤room then(N (x109,x110,x111,x112++[x113],x115,x116))else none)else(N (x109,x110,x111,x112,x115,x116)))else(N (x109,x110,x111,x112,x115,x116)))))
  (.leaf fun(x119,x120,x121,x122,x123,x124) N R Z=>N (x119,x120,x121,x122,x123,w64 (x124+1))))))))
 (.leaf fun(x103,x104,x105) N R Z=>f154w k x105 fun x125=>R (x125,((x125.length:Nat):Int)==(w64 ((w64 ((x103.length:Int)+((x104.length:Nat):Int)))-1)))))))
noncomputable def f126 {α:Type} (k:Nat) (x1:(List Int)) (x2:Int) (x3:(List Int)) (x4:Int) (K:(List Int)→Bool→Option α):Option α:=
  (s126 k).F (x1,x2,x3,x4) (fun(x78,x79)=>K x78 x79) (fun(x78,x79)=>K x78 x79) fun z=>nomatch z
noncomputable def o126:((List Int)×Bool)→FRes:=fun(x1,x2)=>{ ret:= .tup (.cn (.sl 0 none none) (.cn (pB x2) .e0)),objs:=[.L tI (x1:List Int)] }
noncomputable def p126 (k:Nat):Spec:={ own:=[false,false,false,false],run:=fun a o K=>(d126.dec a o).bind fun x=>f126 k x.1 x.2.1 x.2.2.1 x.2.2.2 fun x78 x79=>K (o126 (x78,x79)) }
theorem i126 (k:Nat):Impl Tryz.prog glTab 126 (p126 k):=
  .of w0 (l:=e126 k) ⟨i63 k,i146 k,i148 k,i149 k,i150 k,i151 k,i152 k,i153 k,i154w k,trivial⟩ (s126 k) (dA_ok (dP_ok (.sl tY)) (dA_ok (dP_ok tI) (dA_ok (dP_ok (.sl tI)) (d1_ok (dP_ok tI))))) _ fun(x78,x79) K=>K (o126 (x78,x79))
noncomputable def e155 (k:Nat):List (Nat×List Nat×Spec):=[(173,[],p173 k),(174,[],p174 k)]
noncomputable def h155:H:=(hr (hb (hl (hr (hb (hr (.n [.kp [4,5]] [] .d .d)) (hr (hb (hr (.n [.kp [4,5]] [] .d .d)) (hr (hl (hr (.n [.kp [4,5]] [] .d .d))))))))) (hr (.n [.kp [4,5]] [] .d .d))))
noncomputable def s155 (k:Nat):SumT (mkE (e155 k)) 0 k (bodyOf Tryz.f155) h155 [.kp [4,5]] d173.St S176_1 S176_1 q0:=
 .leaf fun(x1,x2) N R Z=>bif x2==0 then(R (1,0))else(bif x1==0 then(bif decide (x2<0)then(R (0,4))else(bif x1==0 then(R (0,0))else(f174 k x2 fun x5=>f173 k x1 x5 fun x6=>R (x6,0))))else(bif x1==0 then(R (0,0))else(f174 k x2 fun x7=>f173 k x1 x7 fun x8=>R (x8,0))))
noncomputable def f155 {α:Type} (k:Nat) (x1:Int) (x2:Int) (K:Int→Int→Option α):Option α:=
  (s155 k).F (x1,x2) (fun(x3,x4)=>K x3 x4) (fun(x3,x4)=>K x3 x4) fun z=>nomatch z
noncomputable def p155 (k:Nat):Spec:={ own:=[false,false],run:=fun a o K=>(d173.dec a o).bind fun x=>f155 k x.1 x.2 fun x3 x4=>K (o151 (x3,x4)) }
theorem i155 (k:Nat):Impl Tryz.prog glTab 155 (p155 k):=
  .of w0 (l:=e155 k) ⟨i173 k,i174 k,trivial⟩ (s155 k) (dA_ok (dP_ok tY) (d1_ok (dP_ok tI))) _ fun(x3,x4) K=>K (o151 (x3,x4))
noncomputable def d157:Dec ((List Int)×Int):=dA (dP (.sl tY)) (d1 (dR tI))
noncomputable def e157 (k:Nat):List (Nat×List Nat×Spec):=[]
noncomputable def h157:H:=(hr (hr (.n [.kp [3]] [] .d .d)))
noncomputable def s157 (k:Nat):SumT (mkE (e157 k)) 0 k (bodyOf Tryz.f157) h157 [.kp [3]] d157.St S72_1 S72_1 q0:=
 .leaf fun(x1,x2) N R Z=>if 0≤x2∧x2<(x1.length:Int)then(R ((x1.getD (x2.toNat) (0:Int)) !=0))else none
noncomputable def f157 {α:Type} (k:Nat) (x1:(List Int)) (x2:Int) (K:Bool→Option α):Option α:=
  (s157 k).F (x1,x2) (fun x3=>K x3) (fun x3=>K x3) fun z=>nomatch z
noncomputable def p157 (k:Nat):Spec:={ own:=[false,false],run:=fun a o K=>(d157.dec a o).bind fun x=>f157 k x.1 x.2 fun x3=>K (o37 x3) }
theorem i157 (k:Nat):Impl Tryz.prog glTab 157 (p157 k):=
  .of w0 (l:=e157 k) trivial (s157 k) (dA_ok (dP_ok (.sl tY)) (d1_ok (dR_ok tI))) _ fun x3 K=>K (o37 x3)
noncomputable def d156_157:Dec ((List (List Int))×Int):=dA (dP (.sl (.sl tY))) (d1 (dC 157 (d1 (dR tI))))
noncomputable def S156_157_2:((List (List Int))×Int×Int×Int)→St:=fun(x1,x2,x3,x4)=>stC [(0, .p (.sl (.sl tY)) (x1:List (List Int))),(1, .clo 157 (.cn (.rp (.cn (pI x2) .e0) 0) .e0)),(7,pI x3),(8,pI x4)] []
noncomputable def S156_157_5:((List (List Int))×Int)→St:=fun(x1,x2)=>stC [(0, .p (.sl (.sl tY)) (x1:List (List Int))),(1, .clo 157 (.cn (.rp (.cn (pI x2) .e0) 0) .e0))] []
noncomputable def e156_157 (k:Nat):List (Nat×List Nat×Spec):=[(157,[],p157 k)]
noncomputable def h156_157:H:=(.n [] [.kp [0,1]] .d (.n [] [.kp []] (.n [] [.kp [0,1,7,8]] .d (.n [] [.kp []] (.n [.kp [0,1,7,8]] [.kp [0,1,7,8]] (hr (hb (hr (.n [.kp []] [] .d .d)) (hl (hl (hr (hr (hl (hr (.n [.kp [4]] [] .d .d))))))))) .d) .d)) (hr (.n [.kp [4]] [] .d .d))))
noncomputable def s156_157 (k:Nat):SumT (mkE (e156_157 k)) 0 k (bodyOf Tryz.f156) h156_157 [.kp [4]] d156_157.St S37_4 S37_4 q0:=
 .pre 1 S156_157_5 (fun(x1,x2) N R Z=>N (x1,x2))
 (.seq S79_4
 (.pre 1 S156_157_2 (fun(x3,x4) N R Z=>N (x3,x4,(x3.length:Int),0))
  (.blockP (.loop S156_157_2 (fun x=>x)
  (.leaf fun(x9,x10,x11,x12) N R Z=>bif decide (x12<x11)then(if 0≤x12∧x12<(x9.length:Int)then(f157 k (x9.getD (x12.toNat) ([]:List Int)) x10 fun x13=>bif x13 then(R x12)else(N (x9,x10,x11,w64 (x12+1))))else none)else(Z (.inl ()))))))
 (.leaf fun() N R Z=>R (-1)))
noncomputable def f156_157 {α:Type} (k:Nat) (x1:(List (List Int))) (x2:Int) (K:Int→Option α):Option α:=
  (s156_157 k).F (x1,x2) (fun x14=>K x14) (fun x14=>K x14) fun z=>nomatch z
noncomputable def p156_157 (k:Nat):Spec:={ own:=[false,false],run:=fun a o K=>(d156_157.dec a o).bind fun x=>f156_157 k x.1 x.2 fun x14=>K (o16 x14) }
theorem i156_157 (k:Nat):Impl Tryz.prog glTab 156 (p156_157 k):=
  .of w0 (l:=e156_157 k) ⟨i157 k,trivial⟩ (s156_157 k) (dA_ok (dP_ok (.sl (.sl tY))) (d1_ok (dC_ok 157 (d1_ok (dR_ok tI))))) _ fun x14 K=>K (o16 x14)
noncomputable def d158:Dec ((List Int)×Int):=dA (dO tY) (d1 (dP tY))
noncomputable def S158_2:((List Int)×Int×Int×Int)→St:=fun(x1,x2,x3,x4)=>stC [(0, .sl 0 none none),(1,pY x2),(6,pI x3),(7,pI x4)] [.L tY (x1:List Int)]
noncomputable def e158 (k:Nat):List (Nat×List Nat×Spec):=[(146,[],p146 k)]
noncomputable def h158:H:=(.n [] [.kp [0,1,6,7]] .d (.n [] [.kp [0]] (.n [.kp [0,1,6,7]] [.kp [0,1,6,7]] (hr (hl (hr (.n [.kp [0]] [] .d .d)))) .d) .d))
noncomputable def s158 (k:Nat):SumT (mkE (e158 k)) 1 k (bodyOf Tryz.f158) h158 [.kp [0]] d158.St S119_1 S119_1 q0:=
 .pre 1 S158_2 (fun(x1,x2) N R Z=>N (x1,x2,((x1.length:Nat):Int),0))
 (.blockP (.loop S158_2 (fun x=>x)
 (.leaf fun(x7,x8,x9,x10) N R Z=>bif decide (x10<x9)then(if 0≤x10∧x10<(x7.length:Int)then(f146 k (x7.getD (x10.toNat) (0:Int)) x8 fun x11=>if 0≤x10∧x10<(x7.length:Int)then(N (x7.set (x10.toNat) x11,x8,x9,w64 (x10+1)))else none)else none)else(Z (.inl x7)))))
noncomputable def f158 {α:Type} (k:Nat) (x1:(List Int)) (x2:Int) (K:(List Int)→Option α):Option α:=
  (s158 k).F (x1,x2) (fun x12=>K x12) (fun x12=>K x12) fun z=>nomatch z
noncomputable def o158:((List Int))→FRes:=fun x1=>{ ret:= .tup (.e0),objs:=[.L tY (x1:List Int)] }
noncomputable def p158 (k:Nat):Spec:={ own:=[true,false],run:=fun a o K=>(d158.dec a o).bind fun x=>f158 k x.1 x.2 fun x12=>K (o158 x12) }
theorem i158 (k:Nat):Impl Tryz.prog glTab 158 (p158 k):=
  .of w0 (l:=e158 k) ⟨i146 k,trivial⟩ (s158 k) (dA_ok (dO_ok tY) (d1_ok (dP_ok tY))) _ fun x12 K=>K (o158 x12)
noncomputable def d127:Dec ((List Int)×Int×(List Int)):=dA (dP (.sl tY)) (dA (dP tI) (d1 (dP (.sl tI))))
noncomputable def S127_1:((List Int)×Bool)→St:=fun(x1,x2)=>stC [(6, .sl 0 none none),(7,pB x2)] [.L tY (x1:List Int)]
noncomputable def S127_2:((List Int)×Int×(List Int)×(List (List Int))×Int×Int×Int×(List Int)×Int×Int)→St:=fun(x1,x2,x3,x4,x5,x6,x7,x8,x9,x10)=>stC [(0, .p (.sl tY) (x1:List Int)),(1,pI x2),(2, .p (.sl tI) (x3:List Int)),(8, .sl 0 none none),(9,pI x5),(29,pI x6),(30,pI x7),(33, .p (.sl tI) (x8:List Int)),(34,pI x9),(35,pI x10)] [.N tY none (x4:List (List Int)) 0 none]
noncomputable def S127_4:((List Int)×Int×(List Int)×(List (List Int))×Int×Int×Int)→St:=fun(x1,x2,x3,x4,x5,x6,x7)=>stC [(0, .p (.sl tY) (x1:List Int)),(1,pI x2),(2, .p (.sl tI) (x3:List Int)),(8, .sl 0 none none),(9,pI x5),(29,pI x6),(30,pI x7)] [.N tY none (x4:List (List Int)) 0 none]
noncomputable def S127_6:((List Int)×Int×(List Int)×(List (List Int))×Int×Int)→St:=fun(x1,x2,x3,x4,x5,x6)=>stC [(0, .p (.sl tY) (x1:List Int)),(1,pI x2),(2, .p (.sl tI) (x3:List Int)),(8, .sl 0 none none),(29,pI x5),(30,pI x6)] [.N tY none (x4:List (List Int)) 0 none]
noncomputable def S127_10:((List (List Int))×Int×Int×Int×Int×Int×Int×Int×Int×Int×Int)→St:=fun(x1,x2,x3,x4,x5,x6,x7,x8,x9,x10,x11)=>stC [(8, .sl 0 none none),(14,pI x2),(15, .ptr 1 0 0),(19,pI x4),(20,pY x5),(78,pI x6),(79,pI x7),(125,pI x8),(126,pI x9),(147,pI x10),(148,pI x11)] [.N tY none (x1:List (List Int)) 0 none, .B (.cn (pI x3) .e0)]
noncomputable def S127_12:((List (List Int))×Int×Int×Int×Int×Int×Int×Int×Int×Bool)→St:=fun(x1,x2,x3,x4,x5,x6,x7,x8,x9,x10)=>stC [(8, .sl 0 none none),(14,pI x2),(15, .ptr 1 0 0),(19,pI x4),(20,pY x5),(78,pI x6),(79,pI x7),(125,pI x8),(126,pI x9),(142,pB x10)] [.N tY none (x1:List (List Int)) 0 none, .B (.cn (pI x3) .e0)]
noncomputable def S127_13:((List (List Int))×Int×Int×Int×Int×Int×Int)→St:=fun(x1,x2,x3,x4,x5,x6,x7)=>stC [(8, .sl 0 none none),(14,pI x2),(15, .ptr 1 0 0),(78,pI x4),(79,pI x5),(125,pI x6),(126,pI x7)] [.N tY none (x1:List (List Int)) 0 none, .B (.cn (pI x3) .e0)]
noncomputable def S127_17:((List (List Int))×Int×Int×Int)→St:=fun(x1,x2,x3,x4)=>stC [(8, .sl 0 none none),(14,pI x2),(78,pI x3),(79,pI x4)] [.N tY none (x1:List (List Int)) 0 none]
noncomputable def S127_21:(Int×(List Int)×(List (List Int))×Int×Int)→St:=fun(x1,x2,x3,x4,x5)=>stC [(14,pI x1),(22, .sl 0 none none),(172, .sl 1 none none),(173,pI x4),(174,pI x5)] [.L tY (x2:List Int), .N tY none (x3:List (List Int)) 0 none]
noncomputable def S127_23:((List Int))→St:=fun x1=>stC [(22, .sl 0 none none)] [.L tY (x1:List Int)]
noncomputable def S127_24:((List (List Int))×Int×(List Int))→St:=fun(x1,x2,x3)=>stC [(8, .sl 0 none none),(14,pI x2),(22, .sl 1 none none)] [.N tY none (x1:List (List Int)) 0 none, .L tY (x3:List Int)]
noncomputable def S127_25:((List (List Int))×Int)→St:=fun(x1,x2)=>stC [(8, .sl 0 none none),(14,pI x2)] [.N tY none (x1:List (List Int)) 0 none]
noncomputable def S127_27:((List Int)×(List (List Int)))→St:=fun(x1,x2)=>stC [(2, .p (.sl tI) (x1:List Int)),(8, .sl 0 none none)] [.N tY none (x2:List (List Int)) 0 none]
noncomputable def S127_28:((List Int)×Int×(List Int)×(List (List Int)))→St:=fun(x1,x2,x3,x4)=>stC [(0, .p (.sl tY) (x1:List Int)),(1,pI x2),(2, .p (.sl tI) (x3:List Int)),(8, .sl 0 none none)] [.N tY none (x4:List (List Int)) 0 none]
noncomputable def e127 (k:Nat):List (Nat×List Nat×Spec):=[(146,[],p146 k),(148,[],p148 k),(151,[],p151 k),(155,[],p155 k),(156,[157],p156_157 k),(158,[],p158 k)]
noncomputable def h127:H:=(hr (.n [] [.kp [0,1,2,8]] .d (.n [] [.kp [2,8]] (.n [] [.kp [0,1,2,8,29,30]] .d (.n [] [.kp [2,8]] (.n [.kp [0,1,2,8,29,30]] [.kp [0,1,2,8,29,30]] (hr (.n [] [.kp [0,1,2,8,29,30]] (hr (.n [.kp [2,8]] [] .d .d)) (hl (.n [] [.kp [0,1,2,8,29,30]] (.n [] [.kp [0,1,2,8,9,29,30]] .d (.n [] [.kp [0,1,2,8,9,29,30]] (.n [] [.kp [0,1,2,8,9,29,30,33,34,35]] .d (.n [] [.kp [0,1,2,8,9,29,30]] (.n [.kp [0,1,2,8,9,29,30,33,34,35]] [.kp [0,1,2,8,9,29,30,33,34,35]] (hr (hl (hr (.n [.kp [0,1,2,8,9,29,30]] [] .d .d)))) .d) .d)) .d)) .d)))) .d) .d)) (hr (.n [] [.kp [8,14]] (hr (hl (hr (.n [.own 6 none tY, .kp [6,7]] [] .d .d)))) (.n [] [.kp [8,14]] (.n [] [.kp [8,14,78,79]] .d (.n [] [.kp [8,14]] (.n [.kp [8,14,78,79]] [.kp [8,14,78,79]] (hr (.n [] [.kp [8,14,78,79]] (hr (.n [.kp [8,14]] [] .d .d)) (hl (.n [] [.kp [8,14,78,79]] (hr (hr (hb (hr (hl (hr (.n [.own 6 none tY, .kp [6,7]] [] .d .d)))) (hr (hr (hr (.n [] [.nrm 8 none, .kp [8,14,15,78,79,125,126]] .d (.n [] [.kp [8,14,78,79]] (.n [.kp [8,14,15,78,79,125,126]] [.kp [8,14,15,78,79,125,126]] (hr (.n [] [.kp [8,14,15,78,79,125,126]] (hr (.n [.kp [8,14,78,79]] [] .d .d)) (hl (.n [] [.kp [8,14,15,78,79,125,126]] (hr (hr (.n [] [.kp [8,14,15,19,20,78,79,125,126,142]] .d (hl (.n [] [.kp [8,14,15,19,20,78,79,125,126,147,148]] .d (.n [] [.kp [8,14,15,78,79,125,126]] (.n [.kp [8,14,15,19,20,78,79,125,126,147,148]] [.kp [8,14,15,19,20,78,79,125,126,147,148]] (hr (hl (hr (.n [.kp [8,14,15,78,79,125,126]] [] .d .d)))) .d) .d)))))) .d)))) .d) .d)))))))) .d)))) .d) .d)) (.n [] [.own 22 none tY, .kp [8,14,22]] .d (.n [] [.kp [22]] (.n [] [.kp [14,22,172,173,174]] .d (.n [] [.kp [22]] (.n [.kp [14,22,172,173,174]] [.kp [14,22,172,173,174]] (hr (hb (hr (.n [.kp [22]] [] .d .d)) (hl (hl (hr (hl (hr (hr (hr (hl (hr (.n [.own 6 none tY, .kp [6,7]] [] .d .d)))))))))))) .d) .d)) (hr (.n [.own 6 none tY, .kp [6,7]] [] .d .d))))))))))
noncomputable def s127 (k:Nat):SumT (mkE (e127 k)) 0 k (bodyOf Tryz.f127) h127 [.own 6 none tY, .kp [6,7]] d127.St S127_1 S127_1 q0:=
 .pre 2 S127_28 (fun(x1,x2,x3) N R Z=>if 0≤(x1.length:Int)∧(x1.length:Int)≤(x1.length:Int)∧(x1.length:Int)*24≤room∧(x1.length:Int)<9223372036854775808 then(N (x1,x2,x3,List.replicate ((x1.length:Int).toNat) ([]:List Int)))else none)
 (.seq S127_27
 (.pre 1 S127_6 (fun(x4,x5,x6,x7) N R Z=>N (x4,x5,x6,x7,(x7.length:Int),0))
  (.blockP (.loop S127_6 (fun x=>x)
  (.pre 2 S127_6 (fun(x14,x15,x16,x17,x18,x19) N R Z=>bif decide (x19<x18)then(N (x14,x15,x16,x17,x18,x19))else(Z (.inl (x16,x17))))
  (.seq S127_6
  (.block (.pre 1 S127_4 (fun(x20,x21,x22,x23,x24,x25) N R Z=>N (x20,x21,x22,x23,x25,x24,x25))
   (.seq S127_4
   (.pre 1 S127_2 (fun(x28,x29,x30,x31,x32,x33,x34) N R Z=>N (x28,x29,x30,x31,x32,x33,x34,x30,(x30.length:Int),0))
    (.blockP (.loop S127_2 (fun x=>x)
    (.leaf fun(x45,x46,x47,x48,x49,x50,x51,x52,x53,x54) N R Z=>bif decide (x54<x53)then(if 0≤x54∧x54<(x52.length:Int)then(f148 k x46 (x52.getD (x54.toNat) (0:Int)) fun x55=>f155 k x55 x49 fun x56 x57=>if 0≤x49∧x49<(x48.length:Int)then(if((x48.getD (x49.toNat) []).length+[x56].length)*1≤room then(if 0≤x49∧x49<(x48.length:Int)then(if x49.toNat=x49.toNat then(N (x45,x46,x47,x48.set (x49.toNat) ((x48.getD (x49.toNat) [])++[x56]),x49,x50,x51,x52,x53,w64 (x54+1)))else none)else none)else none)else none)else none)else(Z (.inl (x45,x46,x47,x48,x49,x50,x51)))))))
   (.leaf fun(x58,x59,x60,x61,x62,x63,x64) N R Z=>if 0≤x62∧x62<(x61.length:Int)then(if 0≤x62∧x62<(x58.length:Int)then(if((x61.getD (x62.toNat) []).length+[x58.getD (x62.toNat) (0:Int)].length)*1≤room then(if 0≤x62∧x62<(x61.length:Int)then(if x62.toNat=x62.toNat then(N (x58,x59,x60,x61.set (x62.toNat) ((x61.getD (x62.toNat) [])++[x58.getD (x62.toNat) (0:Int)]),x63,x64))else none)else none)else none)else none)else none))))
  (.leaf fun(x65,x66,x67,x68,x69,x70) N R Z=>N (x65,x66,x67,x68,x69,w64 (x70+1))))))))
 (.pre 2 S127_25 (fun(x26,x27) N R Z=>bif decide ((x26.length:Int)>(x27.length:Int))then(R ([],false))else(N (x27,(x26.length:Int))))
 (.seq S127_25
 (.pre 1 S127_17 (fun(x73,x74) N R Z=>N (x73,x74,x74,0))
  (.blockP (.loop S127_17 (fun x=>x)
  (.pre 2 S127_17 (fun(x79,x80,x81,x82) N R Z=>bif decide (x82<x81)then(N (x79,x80,x81,x82))else(Z (.inl (x79,x80))))
  (.seq S127_17
  (.block (.pre 7 S127_13 (fun(x83,x84,x85,x86) N R Z=>if 0≤x86∧x86≤(x83.length-0:Int)∧(x83.length-0:Int)≤(x83.length-0:Int)then(f156_157 k (x83.drop (x86.toNat)) x86 fun x89=>bif decide (x89<0)then(R ([],false))else(if 0≤w64 (x86+x89)∧w64 (x86+x89)<(x83.length:Int)then(if 0≤x86∧x86<(x83.length:Int)then(if 0≤x86∧x86<(x83.length:Int)then(if 0≤w64 (x86+x89)∧w64 (x86+x89)<(((List.range x83.length).set (x86.toNat) ((w64 (x86+x89)).toNat)).length:Int)then(if 0≤x86∧x86<((((List.range x83.length).set (x86.toNat) ((w64 (x86+x89)).toNat)).set ((w64 (x86+x89)).toNat) (x86.toNat)).length:Int)then(if 0≤x86∧x86<((x83.getD ((((List.range x83.length).set (x86.toNat) ((w64 (x86+x89)).toNat)).set ((w64 (x86+x89)).toNat) (x86.toNat)).getD (x86.toNat) 0) []).length:Int)then(f151 k ((x83.getD ((((List.range x83.length).set (x86.toNat) ((w64 (x86+x89)).toNat)).set ((w64 (x86+x89)).toNat) (x86.toNat)).getD (x86.toNat) 0) []).getD (x86.toNat) (0:Int)) fun x90 x91=>if 0≤x86∧x86<((((List.range x83.length).set (x86.toNat) ((w64 (x86+x89)).toNat)).set ((w64 (x86+x89)).toNat) (x86.toNat)).length:Int)then(f158 k (x83.getD ((((List.range x83.length).set (x86.toNat) ((w64 (x86+x89)).toNat)).set ((w64 (x86+x89)).toNat) (x86.toNat)).getD (x86.toNat) 0) []) x90 fun x92=>if List.Nodup (((List.range x83.length).set (x86.toNat) ((w64 (x86+x89)).toNat)).set ((w64 (x86+x89)).toNat) (x86.toNat))∧List.all (((List.range x83.length).set (x86.toNat) ((w64 (x86+x89)).toNat)).set ((w64 (x86+x89)).toNat) (x86.toNat)) (fun i=>decide (i<(x83.set ((((List.range x83.length).set (x86.toNat) ((w64 (x86+x89)).toNat)).set ((w64 (x86+x89)).toNat) (x86.toNat)).getD (x86.toNat) 0) x92).length))=true then(N ((((List.range x83.length).set (x86.toNat) ((w64 (x86+x89)).toNat)).set ((w64 (x86+x89)).toNat) (x86.toNat)).map (rowOf (x83.set ((((List.range x83.length).set (x86.toNat) ((w64 (x86+x89)).toNat)).set ((w64 (x86+x89)).toNat) (x86.toNat)).getD (x86.toNat) 0) x92)),x84,x86,x85,x86,((((List.range x83.length).set (x86.toNat) ((w64 (x86+x89)).toNat)).set ((w64 (x86+x89)).toNat) (x86.toNat)).length:Int),0))else none)else none)else none)else none)else none)else none)else none)else none))else none)
   (.blockP (.loop S127_13 (fun x=>x)
   (.pre 2 S127_13 (fun(x100,x101,x102,x103,x104,x105,x106) N R Z=>bif decide (x106<x105)then(N (x100,x101,x102,x103,x104,x105,x106))else(Z (.inl (x100,x101,x103,x104))))
   (.seq S127_13
   (.block (.pre 3 S127_12 (fun(x107,x108,x109,x110,x111,x112,x113) N R Z=>if 0≤x113∧x113<(x107.length:Int)then(if 0≤x109∧x109<((x107.getD (x113.toNat) []).length:Int)then(bif x113 !=x109 then(N (x107,x108,x109,x113,(x107.getD (x113.toNat) []).getD (x109.toNat) (0:Int),x110,x111,x112,x113,((x107.getD (x113.toNat) []).getD (x109.toNat) (0:Int)) !=0))else(N (x107,x108,x109,x113,(x107.getD (x113.toNat) []).getD (x109.toNat) (0:Int),x110,x111,x112,x113,false)))else none)else none)
    (.cond (fun(x118,x119,x120,x121,x122,x123,x124,x125,x126,x127)=>x127)
    (.pre 1 S127_10 (fun(x118,x119,x120,x121,x122,x123,x124,x125,x126,x127) N R Z=>if 0≤x121∧x121<(x118.length:Int)then(N (x118,x119,x120,x121,x122,x123,x124,x125,x126,(((x118.getD (x121.toNat) []).length:Nat):Int),0))else none)
     (.blockP (.loop S127_10 (fun x=>x)
     (.leaf fun(x139,x140,x141,x142,x143,x144,x145,x146,x147,x148,x149) N R Z=>bif decide (x149<x148)then(if 0≤x142∧x142<(x139.length:Int)then(if 0≤x149∧x149<((x139.getD (x142.toNat) []).length:Int)then(if 0≤x141∧x141<(x139.length:Int)then(if 0≤x149∧x149<((x139.getD (x141.toNat) []).length:Int)then(f146 k x143 ((x139.getD (x141.toNat) []).getD (x149.toNat) (0:Int)) fun x150=>if 0≤x149∧x149<((x139.getD (x142.toNat) []).length:Int)then(N (x139.set (x142.toNat) ((x139.getD (x142.toNat) []).set (x149.toNat) (bitI .xor .u8 ((x139.getD (x142.toNat) []).getD (x149.toNat) (0:Int)) x150)),x140,x141,x142,x143,x144,x145,x146,x147,x148,w64 (x149+1)))else none)else none)else none)else none)else none)else(Z (.inl (x139,x140,x141,x144,x145,x146,x147)))))))
    (.leaf fun(x118,x119,x120,x121,x122,x123,x124,x125,x126,x127) N R Z=>N (x118,x119,x120,x123,x124,x125,x126)))))
   (.leaf fun(x151,x152,x153,x154,x155,x156,x157) N R Z=>N (x151,x152,x153,x154,x155,x156,w64 (x157+1)))))))))
  (.leaf fun(x114,x115,x116,x117) N R Z=>N (x114,x115,x116,w64 (x117+1))))))))
 (.pre 1 S127_24 (fun(x87,x88) N R Z=>N (x87,x88,[]))
 (.seq S127_23
 (.pre 1 S127_21 (fun(x158,x159,x160) N R Z=>N (x159,x160,x158,(x158.length:Int),0))
  (.blockP (.loop S127_21 (fun x=>x)
  (.leaf fun(x166,x167,x168,x169,x170) N R Z=>bif decide (x170<x169)then(if 0≤x170∧x170<(x168.length:Int)then(bif decide (x170<x166)then(if 0≤x166∧x166<((x168.getD (x170.toNat) []).length:Int)then(if(x167.length+[(x168.getD (x170.toNat) []).getD (x166.toNat) (0:Int)].length)*1≤room then(N (x166,x167++[(x168.getD (x170.toNat) []).getD (x166.toNat) (0:Int)],x168,x169,w64 (x170+1)))else none)else none)else(if 0≤x166∧x166<((x168.getD (x170.toNat) []).length:Int)then(bif ((x168.getD (x170.toNat) []).getD (x166.toNat) (0:Int)) !=0 then(R ([],false))else(N (x166,x167,x168,x169,w64 (x170+1))))else none))else none)else(Z (.inl x167))))))
 (.leaf fun x171 N R Z=>R (x171,true)))))))
noncomputable def f127 {α:Type} (k:Nat) (x1:(List Int)) (x2:Int) (x3:(List Int)) (K:(List Int)→Bool→Option α):Option α:=
  (s127 k).F (x1,x2,x3) (fun(x71,x72)=>K x71 x72) (fun(x71,x72)=>K x71 x72) fun z=>nomatch z
noncomputable def o127:((List Int)×Bool)→FRes:=fun(x1,x2)=>{ ret:= .tup (.cn (.sl 0 none none) (.cn (pB x2) .e0)),objs:=[.L tY (x1:List Int)] }
noncomputable def p127 (k:Nat):Spec:={ own:=[false,false,false],run:=fun a o K=>(d127.dec a o).bind fun x=>f127 k x.1 x.2.1 x.2.2 fun x71 x72=>K (o127 (x71,x72)) }
theorem i127 (k:Nat):Impl Tryz.prog glTab 127 (p127 k):=
  .of w0 (l:=e127 k) ⟨i146 k,i148 k,i151 k,i155 k,i156_157 k,i158 k,trivial⟩ (s127 k) (dA_ok (dP_ok (.sl tY)) (dA_ok (dP_ok tI) (d1_ok (dP_ok (.sl tI))))) _ fun(x71,x72) K=>K (o127 (x71,x72))
noncomputable def d104:Dec (DT5×(List Int)×(List Int)):=dA (dS T5) (dA (dP (.sl tY)) (d1 (dP (.sl tI))))
noncomputable def S104_1:(DT8×Int)→St:=fun(x1,x2)=>stC [(6, .ptr 0 0 0),(7,pI x2)] [.B (.cn (pI x1.1) (.cn (.sl 1 none none) (.cn (.sl 2 none none) .e0))), .L tY (x1.2.1:List Int), .L tI (x1.2.2:List Int)]
noncomputable def S104_2:(DT8×DT8×(List Int)×(List Int)×Int×Int)→St:=fun(x1,x2,x3,x4,x5,x6)=>stC [(6, .ptr 0 0 0),(10, .ptr 1 0 0),(14, .sl 2 none none),(82, .sl 3 none none),(83,pI x5),(84,pI x6)] [.B (.cn (pI x1.1) (.cn (.sl 4 none none) (.cn (.sl 5 none none) .e0))), .B (.cn (pI x2.1) (.cn (.sl 6 none none) (.cn (.sl 7 none none) .e0))), .L tY (x3:List Int), .L tI (x4:List Int), .L tY (x1.2.1:List Int), .L tI (x1.2.2:List Int), .L tY (x2.2.1:List Int), .L tI (x2.2.2:List Int)]
noncomputable def S104_4:(DT8×DT8)→St:=fun(x1,x2)=>stC [(6, .ptr 0 0 0),(10, .ptr 1 0 0)] [.B (.cn (pI x1.1) (.cn (.sl 2 none none) (.cn (.sl 3 none none) .e0))), .B (.cn (pI x2.1) (.cn (.sl 4 none none) (.cn (.sl 5 none none) .e0))), .L tY (x1.2.1:List Int), .L tI (x1.2.2:List Int), .L tY (x2.2.1:List Int), .L tI (x2.2.2:List Int)]
noncomputable def S104_5:(DT8×DT8×(List Int)×(List Int))→St:=fun(x1,x2,x3,x4)=>stC [(6, .ptr 0 0 0),(10, .ptr 1 0 0),(12, .sl 2 none none),(14, .sl 3 none none)] [.B (.cn (pI x1.1) (.cn (.sl 4 none none) (.cn (.sl 5 none none) .e0))), .B (.cn (pI x2.1) (.cn (.sl 6 none none) (.cn (.sl 7 none none) .e0))), .L tI (x3:List Int), .L tY (x4:List Int), .L tY (x1.2.1:List Int), .L tI (x1.2.2:List Int), .L tY (x2.2.1:List Int), .L tI (x2.2.2:List Int)]
noncomputable def S104_6:(DT8×Int×DT8×(List Int)×(List Int))→St:=fun(x1,x2,x3,x4,x5)=>stC [(6, .ptr 0 0 0),(8,pI x2),(10, .ptr 1 0 0),(11, .sl 2 none none),(12, .sl 3 none none)] [.B (.cn (pI x1.1) (.cn (.sl 4 none none) (.cn (.sl 5 none none) .e0))), .B (.cn (pI x3.1) (.cn (.sl 6 none none) (.cn (.sl 7 none none) .e0))), .L tY (x4:List Int), .L tI (x5:List Int), .L tY (x1.2.1:List Int), .L tI (x1.2.2:List Int), .L tY (x3.2.1:List Int), .L tI (x3.2.2:List Int)]
noncomputable def S104_7:((List Int)×(List Int)×DT5×DT8×Int×DT8)→St:=fun(x1,x2,x3,x4,x5,x6)=>stC [(1, .p (.sl tY) (x1:List Int)),(2, .p (.sl tI) (x2:List Int)),(3, .ptr 0 0 0),(6, .ptr 1 0 0),(8,pI x5),(10, .ptr 2 0 0)] [.B (toC T5 x3), .B (.cn (pI x4.1) (.cn (.sl 3 none none) (.cn (.sl 4 none none) .e0))), .B (.cn (pI x6.1) (.cn (.sl 5 none none) (.cn (.sl 6 none none) .e0))), .L tY (x4.2.1:List Int), .L tI (x4.2.2:List Int), .L tY (x6.2.1:List Int), .L tI (x6.2.2:List Int)]
noncomputable def e104 (k:Nat):List (Nat×List Nat×Spec):=[(63,[],cloneS tY 1 k),(122,[],p122 k),(123,[],p123 k),(124,[],p124 k),(125,[],p125 k),(126,[],p126 k),(127,[],p127 k)]
noncomputable def h104:H:=(hr (hr (hb (hl (hr (hb (hr (.n [.own 6 (some 1) tY, .own 6 (some 2) tI, .kp [6,7]] [] .d .d)) (hr (hl (hr (.n [.own 6 (some 1) tY, .own 6 (some 2) tI, .kp [6,7]] [] .d .d))))))) (hb (hr (hr (hl (hr (.n [.own 6 (some 1) tY, .own 6 (some 2) tI, .kp [6,7]] [] .d .d))))) (.n [] [.own 6 (some 1) tY, .own 6 (some 2) tI, .own 10 (some 2) tI, .kp [1,2,3,6,8,10]] .d (hr (hb (hr (hl (hr (.n [.own 6 (some 1) tY, .own 6 (some 2) tI, .kp [6,7]] [] .d .d)))) (hr (.n [] [.kp [6,8,10,11,12]] (hr (hl (hr (.n [.own 6 (some 1) tY, .own 6 (some 2) tI, .kp [6,7]] [] .d .d)))) (hr (hb (hr (hl (hr (.n [.own 6 (some 1) tY, .own 6 (some 2) tI, .kp [6,7]] [] .d .d)))) (.n [] [.kp [6,10,12,14]] .d (.n [] [.kp [6,10]] (.n [] [.kp [6,10,14,82,83,84]] .d (.n [] [.kp [6,10]] (.n [.kp [6,10,14,82,83,84]] [.kp [6,10,14,82,83,84]] (hr (hl (hr (.n [.kp [6,10]] [] .d .d)))) .d) .d)) (hr (.n [.own 6 (some 1) tY, .own 6 (some 2) tI, .kp [6,7]] [] .d .d)))))))))))))))
noncomputable def s104 (k:Nat):SumT (mkE (e104 k)) 0 k (bodyOf Tryz.f104) h104 [.own 6 (some 1) tY, .own 6 (some 2) tI, .kp [6,7]] d104.St S104_1 S104_1 q0:=
 .pre 5 S104_7 (fun(x1,x2,x3) N R Z=>f122 k x1 fun x4=>bif !x4 then(R ((0,[],[]),1))else(bif (x2.length:Int) !=(w64 (x1.2.1+x1.2.2.1))then(R ((0,[],[]),7))else(f123 k x3 (w64 (x1.2.1+x1.2.2.1)) x1.2.2.1 fun x7=>bif x7 !=0 then(R ((0,[],[]),x7))else(cloneF 1 k x2 fun x8=>N (x2,x3,x1,(0,[],[]),w64 (x1.2.1+x1.2.2.1),(0,x8,[]))))))
 (.pre 4 S104_6 (fun(x9,x10,x11,x12,x13,x14) N R Z=>f124 k x9 x11.2.2.1 fun x15=>f125 k x15 fun x16=>bif x16 then(R (x14,0))else(f126 k x15 x13 x10 (minI x11.2.2.2 (w64 (Int.tdiv (w64 (x11.2.2.1-(x10.length:Int))) 2))) fun x17 x18=>bif !x18 then(R ((2,[],[]),0))else(N (x12,x13,x14,x15,x17))))
 (.pre 3 S104_5 (fun(x19,x20,x21,x22,x23) N R Z=>f127 k x22 x20 x23 fun x24 x25=>bif !x25 then(R ((2,[],[]),0))else(N (x19,(1,x21.2.1,x21.2.2),x23,x24)))
 (.seq S104_4
 (.pre 1 S104_2 (fun(x26,x27,x28,x29) N R Z=>N (x26,x27,x29,x28,((x28.length:Nat):Int),0))
  (.blockP (.loop S104_2 (fun x=>x)
  (.leaf fun(x36,x37,x38,x39,x40,x41) N R Z=>bif decide (x41<x40)then(if 0≤x41∧x41<(x39.length:Int)then(if 0≤x41∧x41<(x38.length:Int)then(bif (x38.getD (x41.toNat) (0:Int)) !=0 then(if 0≤x39.getD (x41.toNat) (0:Int)∧x39.getD (x41.toNat) (0:Int)<(x37.2.1.length:Int)then(if 0≤x41∧x41<(x38.length:Int)then(if 0≤x39.getD (x41.toNat) (0:Int)∧x39.getD (x41.toNat) (0:Int)<(x37.2.1.length:Int)then(if(x37.2.2.length+[x39.getD (x41.toNat) (0:Int)].length)*8≤room then(N (x36,(x37.1,x37.2.1.set ((x39.getD (x41.toNat) (0:Int)).toNat) (bitI .xor .u8 (x37.2.1.getD ((x39.getD (x41.toNat) (0:Int)).toNat) (0:Int)) (x38.getD (x41.toNat) (0:Int))),x37.2.2++[x39.getD (x41.toNat) (0:Int)]),x38,x39,x40,w64 (x41+1)))else none)else none)else none)else none)else(N (x36,x37,x38,x39,x40,w64 (x41+1))))else none)else none)else(Z (.inl (x36,x37)))))))
 (.leaf fun(x42,x43) N R Z=>R (x43,0)))))
noncomputable def f104 {α:Type} (k:Nat) (x1:DT5) (x2:(List Int)) (x3:(List Int)) (K:DT8→Int→Option α):Option α:=
  (s104 k).F (x1,x2,x3) (fun(x5,x6)=>K x5 x6) (fun(x5,x6)=>K x5 x6) fun z=>nomatch z
noncomputable def o104:(DT8×Int)→FRes:=fun(x1,x2)=>{ ret:= .tup (.cn (.agg (.cn (pI x1.1) (.cn (.sl 0 none none) (.cn (.sl 1 none none) .e0)))) (.cn (pI x2) .e0)),objs:=[.L tY (x1.2.1:List Int), .L tI (x1.2.2:List Int)] }
noncomputable def p104 (k:Nat):Spec:={ own:=[false,false,false],run:=fun a o K=>(d104.dec a o).bind fun x=>f104 k x.1 x.2.1 x.2.2 fun x5 x6=>K (o104 (x5,x6)) }
theorem i104 (k:Nat):Impl Tryz.prog glTab 104 (p104 k):=
  .of w0 (l:=e104 k) ⟨i63 k,i122 k,i123 k,i124 k,i125 k,i126 k,i127 k,trivial⟩ (s104 k) (dA_ok (dS_ok T5) (dA_ok (dP_ok (.sl tY)) (d1_ok (dP_ok (.sl tI))))) _ fun(x5,x6) K=>K (o104 (x5,x6))
noncomputable def S77_2:((List Int)×(List Int)×DT5×DT8)→St:=fun(x1,x2,x3,x4)=>stC [(1, .p (.sl tY) (x1:List Int)),(2, .p (.sl tI) (x2:List Int)),(3, .ptr 0 0 0),(6, .ptr 1 0 0)] [.B (toC T5 x3), .B (.cn (pI x4.1) (.cn (.sl 2 none none) (.cn (.sl 3 none none) .e0))), .L tY (x4.2.1:List Int), .L tI (x4.2.2:List Int)]
noncomputable def e77 (k:Nat):List (Nat×List Nat×Spec):=[(42,[],p42 k),(65,[],p65 k),(66,[],p66 k),(103,[],p103 k),(104,[],p104 k)]
noncomputable def h77:H:=(hr (hb (hl (hr (hb (hr (.n [.own 6 (some 1) tY, .own 6 (some 2) tI, .kp [6,7]] [] .d .d)) (hr (hl (hr (.n [.own 6 (some 1) tY, .own 6 (some 2) tI, .kp [6,7]] [] .d .d))))))) (.n [] [.own 6 (some 1) tY, .own 6 (some 2) tI, .kp [1,2,3,6]] (hr (hr (hl (hr (.n [.own 6 (some 1) tY, .own 6 (some 2) tI, .kp [6,7]] [] .d .d))))) (hb (hr (hl (hr (hr (.n [.own 6 (some 1) tY, .own 6 (some 2) tI, .kp [6,7]] [] .d .d))))) (hr (.n [.own 6 (some 1) tY, .own 6 (some 2) tI, .kp [6,7]] [] .d .d))))))
noncomputable def s77 (k:Nat):SumT (mkE (e77 k)) 0 k (bodyOf Tryz.f77) h77 [.own 6 (some 1) tY, .own 6 (some 2) tI, .kp [6,7]] d104.St S104_1 S104_1 q0:=
 .pre 3 S77_2 (fun(x1,x2,x3) N R Z=>f65 k x1 fun x4=>bif !x4 then(R ((0,[],[]),1))else(f66 k x1 fun x7=>bif (x2.length:Int) !=x7 then(R ((0,[],[]),7))else(f42 k x1 x3 fun x8=>bif x8 !=0 then(R ((0,[],[]),x8))else(N (x2,x3,x1,(0,[],[]))))))
 (.leaf fun(x9,x10,x11,x12) N R Z=>bif x11.1==1 then(f103 k x9 fun x13 x14 x15=>R (x13,x15))else(f104 k x11 x9 x10 fun x16 x17=>R (x16,x17)))
noncomputable def f77 {α:Type} (k:Nat) (x1:DT5) (x2:(List Int)) (x3:(List Int)) (K:DT8→Int→Option α):Option α:=
  (s77 k).F (x1,x2,x3) (fun(x5,x6)=>K x5 x6) (fun(x5,x6)=>K x5 x6) fun z=>nomatch z
noncomputable def p77 (k:Nat):Spec:={ own:=[false,false,false],run:=fun a o K=>(d104.dec a o).bind fun x=>f77 k x.1 x.2.1 x.2.2 fun x5 x6=>K (o104 (x5,x6)) }
theorem i77 (k:Nat):Impl Tryz.prog glTab 77 (p77 k):=
  .of w0 (l:=e77 k) ⟨i42 k,i65 k,i66 k,i103 k,i104 k,trivial⟩ (s77 k) (dA_ok (dS_ok T5) (dA_ok (dP_ok (.sl tY)) (d1_ok (dP_ok (.sl tI))))) _ fun(x5,x6) K=>K (o104 (x5,x6))
noncomputable def d46:Dec (DT2×Int×(List Int)):=dA (dR T2) (dA (dP tI) (d1 (dP (.sl tI))))
noncomputable def S46_1:DT8→St:=fun x1=>stC [(6, .ptr 0 0 0)] [.B (.cn (pI x1.1) (.cn (.sl 1 none none) (.cn (.sl 2 none none) .e0))), .L tY (x1.2.1:List Int), .L tI (x1.2.2:List Int)]
noncomputable def e46 (k:Nat):List (Nat×List Nat×Spec):=[(76,[],p76 k),(77,[],p77 k)]
noncomputable def h46:H:=(hr (hr (hb (hr (hl (hr (.n [.own 6 (some 1) tY, .shr 6 (some 1), .own 6 (some 2) tI, .kp [6]] [] .d .d)))) (hr (hb (hr (hl (hr (.n [.own 6 (some 1) tY, .shr 6 (some 1), .own 6 (some 2) tI, .kp [6]] [] .d .d)))) (hr (.n [.own 6 (some 1) tY, .shr 6 (some 1), .own 6 (some 2) tI, .kp [6]] [] .d .d)))))))
noncomputable def s46 (k:Nat):SumT (mkE (e46 k)) 0 k (bodyOf Tryz.f46) h46 [.own 6 (some 1) tY, .shr 6 (some 1), .own 6 (some 2) tI, .kp [6]] d46.St S46_1 S46_1 q0:=
 .leaf fun(x1,x2,x3) N R Z=>f76 k x1 x2 fun x4=>bif x4.2.2 then(R (3,[],[]))else(f77 k (x1.2.2.2.2.2.2.1,x1.2.2.2.2.2.2.2.1,x1.2.2.2.2.2.2.2.2.1,x1.2.2.2.2.2.2.2.2.2.1) x4.2.1 x3 fun x6 x7=>bif x6.1==2 then(R (2,[],[]))else(if 0≤(0:Int)∧(0:Int)≤x1.2.2.2.2.2.2.2.1∧x1.2.2.2.2.2.2.2.1≤(x6.2.1.length:Int)then(if x1.2.2.2.2.2.2.2.1≤x1.2.2.2.2.2.2.2.1∧x1.2.2.2.2.2.2.2.1≤((x6.2.1.length:Nat):Int)then(R (x6.1,x6.2.1.take (x1.2.2.2.2.2.2.2.1.toNat),x6.2.2))else none)else none))
noncomputable def f46 {α:Type} (k:Nat) (x1:DT2) (x2:Int) (x3:(List Int)) (K:DT8→Option α):Option α:=
  (s46 k).F (x1,x2,x3) (fun x5=>K x5) (fun x5=>K x5) fun z=>nomatch z
noncomputable def o46:DT8→FRes:=fun x1=>{ ret:= .agg (.cn (pI x1.1) (.cn (.sl 0 none none) (.cn (.sl 1 none none) .e0))),objs:=[.L tY (x1.2.1:List Int), .L tI (x1.2.2:List Int)] }
noncomputable def p46 (k:Nat):Spec:={ own:=[false,false,false],run:=fun a o K=>(d46.dec a o).bind fun x=>f46 k x.1 x.2.1 x.2.2 fun x5=>K (o46 x5) }
theorem i46 (k:Nat):Impl Tryz.prog glTab 46 (p46 k):=
  .of w0 (l:=e46 k) ⟨i76 k,i77 k,trivial⟩ (s46 k) (dA_ok (dR_ok T2) (dA_ok (dP_ok tI) (d1_ok (dP_ok (.sl tI))))) _ fun x5 K=>K (o46 x5)
noncomputable def d135w:Dec ((List Int)):=d1 (dO tY)
noncomputable def S135w_2:((List Int)×Int×Int)→St:=fun(x1,x2,x3)=>stC [(0, .sl 0 none none),(2,pI x2),(3,pI x3)] [.L tY (x1:List Int)]
noncomputable def e135w (k:Nat):List (Nat×List Nat×Spec):=[]
noncomputable def h135w:H:=(.n [] [.kp [0,2,3]] .d (.n [] [.kp [0]] (.n [.kp [0,2,3]] [.kp [0,2,3]] (hl (hr (hr (.n [.kp [0]] [] .d .d)))) .d) .d))
noncomputable def s135w (k:Nat):SumT (mkE (e135w k)) 1 k (bodyOf Tryz.f135) h135w [.kp [0]] d135w.St S119_1 S119_1 q0:=
 .pre 1 S135w_2 (fun x1 N R Z=>N (x1,0,w64 (((x1.length:Nat):Int)-1)))
 (.blockP (.loop S135w_2 (fun x=>x)
 (.leaf fun(x5,x6,x7) N R Z=>bif decide (x6<x7)then(if 0≤x7∧x7<(x5.length:Int)then(if 0≤x6∧x6<(x5.length:Int)then(if 0≤x6∧x6<(x5.length:Int)then(if 0≤x7∧x7<((x5.set (x6.toNat) (x5.getD (x7.toNat) (0:Int))).length:Int)then(N ((x5.set (x6.toNat) (x5.getD (x7.toNat) (0:Int))).set (x7.toNat) (x5.getD (x6.toNat) (0:Int)),w64 (x6+1),w64 (x7-1)))else none)else none)else none)else none)else(Z (.inl x5)))))
noncomputable def f135w {α:Type} (k:Nat) (x1:(List Int)) (K:(List Int)→Option α):Option α:=
  (s135w k).F x1 (fun x8=>K x8) (fun x8=>K x8) fun z=>nomatch z
noncomputable def p135w (k:Nat):Spec:={ own:=[true],run:=fun a o K=>(d135w.dec a o).bind fun x=>f135w k x fun x8=>K (o158 x8) }
theorem i135w (k:Nat):Impl Tryz.prog glTab 135 (p135w k):=
  .of w0 (l:=e135w k) trivial (s135w k) (d1_ok (dO_ok tY)) _ fun x8 K=>K (o158 x8)
noncomputable def S197_1:((List Int))→St:=fun x1=>stC [(4, .p (.sl tY) (x1:List Int))] []
noncomputable def e197 (k:Nat):List (Nat×List Nat×Spec):=[]
noncomputable def h197:H:=(.n [] [.kp [0,1]] .d (hb (.n [] [.kp [0]] (.n [.kp [0,1]] [.kp [0,1]] (hl (hr (hr (.n [.kp [0]] [] .d .d)))) .d) .d) (hr (.n [.kp [4]] [] .d .d))))
noncomputable def s197 (k:Nat):SumT (mkE (e197 k)) 0 k (bodyOf Tryz.f197) h197 [.kp [4]] d121.St S197_1 S197_1 q0:=
 .pre 1 S121_5 (fun(x1,x2) N R Z=>N (x1,x2))
 (.seq S79_5
 (.block (.loop S121_5 (fun x=>x)
  (.leaf fun(x5,x6) N R Z=>bif decide ((x5.length:Int)>0)then(if 0≤w64 ((x5.length:Int)-1)∧w64 ((x5.length:Int)-1)<(x5.length:Int)then(bif (x5.getD ((w64 ((x5.length:Int)-1)).toNat) (0:Int))==x6 then(if 0≤(0:Int)∧(0:Int)≤w64 ((x5.length:Int)-1)∧w64 ((x5.length:Int)-1)≤(x5.length:Int)then(N (x5.take ((w64 ((x5.length:Int)-1)).toNat),x6))else none)else(Z (.inl x5)))else none)else(Z (.inl x5)))))
 (.leaf fun x7 N R Z=>R x7))
noncomputable def f197 {α:Type} (k:Nat) (x1:(List Int)) (x2:Int) (K:(List Int)→Option α):Option α:=
  (s197 k).F (x1,x2) (fun x8=>K x8) (fun x8=>K x8) fun z=>nomatch z
noncomputable def o197:((List Int))→FRes:=fun x1=>{ ret:= .p (.sl tY) (x1:List Int),objs:=[] }
noncomputable def p197 (k:Nat):Spec:={ own:=[false,false],run:=fun a o K=>(d121.dec a o).bind fun x=>f197 k x.1 x.2 fun x8=>K (o197 x8) }
theorem i197 (k:Nat):Impl Tryz.prog glTab 197 (p197 k):=
  .of w0 (l:=e197 k) trivial (s197 k) (dA_ok (dP_ok (.sl tY)) (d1_ok (dP_ok tY))) _ fun x8 K=>K (o197 x8)
noncomputable def d183:Dec ((List Int)×ByteArray):=dA (dP (.sl tY)) (d1 (dP .str))
noncomputable def e183 (k:Nat):List (Nat×List Nat×Spec):=[(197,[],p197 k)]
noncomputable def h183:H:=(hr (hb (hr (hl (hr (.n [.kp [4]] [] .d .d)))) (hl (hr (hl (hr (.n [.kp [4]] [] .d .d)))))))
noncomputable def s183 (k:Nat):SumT (mkE (e183 k)) 0 k (bodyOf Tryz.f183) h183 [.kp [4]] d183.St S197_1 S197_1 q0:=
 .leaf fun(x1,x2) N R Z=>bif (x1.length:Int)==0 then(R x1)else(bif x2.toList==(⟨#[]⟩:ByteArray).toList then(R x1)else(bif (x2.size:Int)==1 then(if 0≤(0:Int)∧0<(x2.size:Int)then(bif decide (byteAt x2 0<128)then(if 0≤(0:Int)∧0<(x2.size:Int)then(f197 k x1 (byteAt x2 0) fun x4=>R x4)else none)else none)else none)else none))
noncomputable def f183 {α:Type} (k:Nat) (x1:(List Int)) (x2:ByteArray) (K:(List Int)→Option α):Option α:=
  (s183 k).F (x1,x2) (fun x3=>K x3) (fun x3=>K x3) fun z=>nomatch z
noncomputable def p183 (k:Nat):Spec:={ own:=[false,false],run:=fun a o K=>(d183.dec a o).bind fun x=>f183 k x.1 x.2 fun x3=>K (o197 x3) }
theorem i183 (k:Nat):Impl Tryz.prog glTab 183 (p183 k):=
  .of w0 (l:=e183 k) ⟨i197 k,trivial⟩ (s183 k) (dA_ok (dP_ok (.sl tY)) (d1_ok (dP_ok .str))) _ fun x3 K=>K (o197 x3)
noncomputable def S167_1:((List Int))→St:=fun x1=>stC [(2, .p (.sl tY) (x1:List Int))] []
noncomputable def e167 (k:Nat):List (Nat×List Nat×Spec):=[(183,[],p183 k)]
noncomputable def h167:H:=(hr (hr (.n [.kp [2]] [] .d .d)))
noncomputable def s167 (k:Nat):SumT (mkE (e167 k)) 0 k (bodyOf Tryz.f167) h167 [.kp [2]] d79.St S167_1 S167_1 q0:=
 .leaf fun x1 N R Z=>f183 k x1 (⟨#[0]⟩) fun x2=>R x2
noncomputable def f167 {α:Type} (k:Nat) (x1:(List Int)) (K:(List Int)→Option α):Option α:=
  (s167 k).F x1 (fun x3=>K x3) (fun x3=>K x3) fun z=>nomatch z
noncomputable def p167 (k:Nat):Spec:={ own:=[false],run:=fun a o K=>(d79.dec a o).bind fun x=>f167 k x fun x3=>K (o197 x3) }
theorem i167 (k:Nat):Impl Tryz.prog glTab 167 (p167 k):=
  .of w0 (l:=e167 k) ⟨i183 k,trivial⟩ (s167 k) (d1_ok (dP_ok (.sl tY))) _ fun x3 K=>K (o197 x3)
noncomputable def e137 (k:Nat):List (Nat×List Nat×Spec):=[(63,[],cloneS tY 1 k),(167,[],p167 k)]
noncomputable def h137:H:=(hr (hr (.n [.kp [2]] [] .d .d)))
noncomputable def s137 (k:Nat):SumT (mkE (e137 k)) 0 k (bodyOf Tryz.f137) h137 [.kp [2]] d79.St S149_1 S149_1 q0:=
 .leaf fun x1 N R Z=>f167 k x1 fun x2=>cloneF 1 k x2 fun x3=>R x3
noncomputable def f137 {α:Type} (k:Nat) (x1:(List Int)) (K:(List Int)→Option α):Option α:=
  (s137 k).F x1 (fun x4=>K x4) (fun x4=>K x4) fun z=>nomatch z
noncomputable def p137 (k:Nat):Spec:={ own:=[false],run:=fun a o K=>(d79.dec a o).bind fun x=>f137 k x fun x4=>K (o119 x4) }
theorem i137 (k:Nat):Impl Tryz.prog glTab 137 (p137 k):=
  .of w0 (l:=e137 k) ⟨i63 k,i167 k,trivial⟩ (s137 k) (d1_ok (dP_ok (.sl tY))) _ fun x4 K=>K (o119 x4)
noncomputable def e165 (k:Nat):List (Nat×List Nat×Spec):=[]
noncomputable def h165:H:=(hr (hr (hr (.n [.kp [2]] [] .d .d))))
noncomputable def s165 (k:Nat):SumT (mkE (e165 k)) 0 k (bodyOf Tryz.f165) h165 [.kp [2]] d79.St S37_1 S37_1 q0:=
 .leaf fun x1 N R Z=>bif decide ((x1.length:Int)≤255)then(bif (x1.length:Int)==0 then(R true)else(if 0≤w64 ((x1.length:Int)-1)∧w64 ((x1.length:Int)-1)<(x1.length:Int)then(R ((x1.getD ((w64 ((x1.length:Int)-1)).toNat) (0:Int)) !=0))else none))else(R false)
noncomputable def f165 {α:Type} (k:Nat) (x1:(List Int)) (K:Bool→Option α):Option α:=
  (s165 k).F x1 (fun x2=>K x2) (fun x2=>K x2) fun z=>nomatch z
noncomputable def p165 (k:Nat):Spec:={ own:=[false],run:=fun a o K=>(d79.dec a o).bind fun x=>f165 k x fun x2=>K (o37 x2) }
theorem i165 (k:Nat):Impl Tryz.prog glTab 165 (p165 k):=
  .of w0 (l:=e165 k) trivial (s165 k) (d1_ok (dP_ok (.sl tY))) _ fun x2 K=>K (o37 x2)
noncomputable def d182w:Dec ((List Int)×(List Int)×Int×Int):=dA (dO tY) (dA (dP (.sl tY)) (dA (dP tY) (d1 (dP tI))))
noncomputable def S182w_2:((List Int)×Int×Int×(List Int)×Int×Int)→St:=fun(x1,x2,x3,x4,x5,x6)=>stC [(0, .sl 0 none none),(2,pY x2),(3,pI x3),(10, .p (.sl tY) (x4:List Int)),(11,pI x5),(12,pI x6)] [.L tY (x1:List Int)]
noncomputable def e182w (k:Nat):List (Nat×List Nat×Spec):=[(146,[],p146 k)]
noncomputable def h182w:H:=(.n [] [.kp [0,2,3,10,11,12]] .d (.n [] [.kp [0]] (.n [.kp [0,2,3,10,11,12]] [.kp [0,2,3,10,11,12]] (hr (hl (hr (.n [.kp [0]] [] .d .d)))) .d) .d))
noncomputable def s182w (k:Nat):SumT (mkE (e182w k)) 1 k (bodyOf Tryz.f182) h182w [.kp [0]] d182w.St S119_1 S119_1 q0:=
 .pre 1 S182w_2 (fun(x1,x2,x3,x4) N R Z=>N (x1,x3,x4,x2,(x2.length:Int),0))
 (.blockP (.loop S182w_2 (fun x=>x)
 (.leaf fun(x11,x12,x13,x14,x15,x16) N R Z=>bif decide (x16<x15)then(if 0≤x16∧x16<(x14.length:Int)then(if 0≤w64 (x13+x16)∧w64 (x13+x16)<(x11.length:Int)then(f146 k x12 (x14.getD (x16.toNat) (0:Int)) fun x17=>if 0≤w64 (x13+x16)∧w64 (x13+x16)<(x11.length:Int)then(N (x11.set ((w64 (x13+x16)).toNat) (bitI .xor .u8 (x11.getD ((w64 (x13+x16)).toNat) (0:Int)) x17),x12,x13,x14,x15,w64 (x16+1)))else none)else none)else none)else(Z (.inl x11)))))
noncomputable def f182w {α:Type} (k:Nat) (x1:(List Int)) (x2:(List Int)) (x3:Int) (x4:Int) (K:(List Int)→Option α):Option α:=
  (s182w k).F (x1,x2,x3,x4) (fun x18=>K x18) (fun x18=>K x18) fun z=>nomatch z
noncomputable def p182w (k:Nat):Spec:={ own:=[true,false,false,false],run:=fun a o K=>(d182w.dec a o).bind fun x=>f182w k x.1 x.2.1 x.2.2.1 x.2.2.2 fun x18=>K (o158 x18) }
theorem i182w (k:Nat):Impl Tryz.prog glTab 182 (p182w k):=
  .of w0 (l:=e182w k) ⟨i146 k,trivial⟩ (s182w k) (dA_ok (dO_ok tY) (dA_ok (dP_ok (.sl tY)) (dA_ok (dP_ok tY) (d1_ok (dP_ok tI))))) _ fun x18 K=>K (o158 x18)
noncomputable def S168_1:((List Int)×Int)→St:=fun(x1,x2)=>stC [(4, .sl 0 none none),(5,pI x2)] [.L tY (x1:List Int)]
noncomputable def S168_2:((List Int)×(List Int)×Bool)→St:=fun(x1,x2,x3)=>stC [(0, .p (.sl tY) (x1:List Int)),(1, .p (.sl tY) (x2:List Int)),(9,pB x3)] []
noncomputable def S168_3:((List Int)×(List Int)×(List Int)×Int×Int)→St:=fun(x1,x2,x3,x4,x5)=>stC [(1, .p (.sl tY) (x1:List Int)),(6, .sl 0 none none),(42, .p (.sl tY) (x3:List Int)),(43,pI x4),(44,pI x5)] [.L tY (x2:List Int)]
noncomputable def S168_5:((List Int))→St:=fun x1=>stC [(6, .sl 0 none none)] [.L tY (x1:List Int)]
noncomputable def S168_6:((List Int)×(List Int)×(List Int))→St:=fun(x1,x2,x3)=>stC [(0, .p (.sl tY) (x1:List Int)),(1, .p (.sl tY) (x2:List Int)),(6, .sl 0 none none)] [.L tY (x3:List Int)]
noncomputable def S168_7:((List Int)×(List Int))→St:=fun(x1,x2)=>stC [(0, .p (.sl tY) (x1:List Int)),(1, .p (.sl tY) (x2:List Int))] []
noncomputable def e168 (k:Nat):List (Nat×List Nat×Spec):=[(165,[],p165 k),(182,[],p182w k)]
noncomputable def h168:H:=(.n [] [.kp [0,1]] .d (hb (.n [] [.kp [0,1]] (.n [] [.kp [0,1,9]] .d (hb (hr (.n [.own 4 none tY, .kp [4,5]] [] .d .d)) (hr (hb (hr (.n [.own 4 none tY, .kp [4,5]] [] .d .d)) (hr (hl (hr (.n [.own 4 none tY, .kp [4,5]] [] .d .d)))))))) .d) (.n [] [.kp [0,1,6]] .d (.n [] [.kp [6]] (.n [] [.kp [1,6,42,43,44]] .d (.n [] [.kp [6]] (.n [.kp [1,6,42,43,44]] [.kp [1,6,42,43,44]] (hr (hl (hr (.n [.kp [6]] [] .d .d)))) .d) .d)) (hr (.n [.own 4 none tY, .kp [4,5]] [] .d .d))))))
noncomputable def s168 (k:Nat):SumT (mkE (e168 k)) 0 k (bodyOf Tryz.f168) h168 [.own 4 none tY, .kp [4,5]] d120.St S168_1 S168_1 q0:=
 .pre 1 S168_7 (fun(x1,x2) N R Z=>N (x1,x2))
 (.seq S168_7
 (.block (.pre 1 S168_2 (fun(x3,x4) N R Z=>f165 k x3 fun x5=>bif !x5 then(N (x3,x4,true))else(f165 k x4 fun x9=>N (x3,x4,!x9)))
  (.leaf fun(x6,x7,x8) N R Z=>bif x8 then(R ([],1))else(bif (x6.length:Int)==0 then(R ([],0))else(bif (x7.length:Int)==0 then(R ([],0))else(bif decide (w64 ((w64 ((x6.length:Int)+(x7.length:Int)))-1)>255)then(R ([],3))else(N (x6,x7))))))))
 (.pre 1 S168_6 (fun(x12,x13) N R Z=>if 0≤w64 ((w64 ((x12.length:Int)+(x13.length:Int)))-1)∧w64 ((w64 ((x12.length:Int)+(x13.length:Int)))-1)≤w64 ((w64 ((x12.length:Int)+(x13.length:Int)))-1)∧(w64 ((w64 ((x12.length:Int)+(x13.length:Int)))-1))*1≤room∧w64 ((w64 ((x12.length:Int)+(x13.length:Int)))-1)<9223372036854775808 then(N (x12,x13,List.replicate ((w64 ((w64 ((x12.length:Int)+(x13.length:Int)))-1)).toNat) (0:Int)))else none)
 (.seq S168_5
 (.pre 1 S168_3 (fun(x14,x15,x16) N R Z=>N (x15,x16,x14,(x14.length:Int),0))
  (.blockP (.loop S168_3 (fun x=>x)
  (.leaf fun(x22,x23,x24,x25,x26) N R Z=>bif decide (x26<x25)then(if 0≤x26∧x26<(x24.length:Int)then(f182w k x23 x22 (x24.getD (x26.toNat) (0:Int)) x26 fun x27=>N (x22,x27,x24,x25,w64 (x26+1)))else none)else(Z (.inl x23))))))
 (.leaf fun x28 N R Z=>R (x28,0)))))
noncomputable def f168 {α:Type} (k:Nat) (x1:(List Int)) (x2:(List Int)) (K:(List Int)→Int→Option α):Option α:=
  (s168 k).F (x1,x2) (fun(x10,x11)=>K x10 x11) (fun(x10,x11)=>K x10 x11) fun z=>nomatch z
noncomputable def o168:((List Int)×Int)→FRes:=fun(x1,x2)=>{ ret:= .tup (.cn (.sl 0 none none) (.cn (pI x2) .e0)),objs:=[.L tY (x1:List Int)] }
noncomputable def p168 (k:Nat):Spec:={ own:=[false,false],run:=fun a o K=>(d120.dec a o).bind fun x=>f168 k x.1 x.2 fun x10 x11=>K (o168 (x10,x11)) }
theorem i168 (k:Nat):Impl Tryz.prog glTab 168 (p168 k):=
  .of w0 (l:=e168 k) ⟨i165 k,i182w k,trivial⟩ (s168 k) (dA_ok (dP_ok (.sl tY)) (d1_ok (dP_ok (.sl tY)))) _ fun(x10,x11) K=>K (o168 (x10,x11))
noncomputable def S138_2:((List Int)×Int×Int)→St:=fun(x1,x2,x3)=>stC [(3, .sl 0 none none),(6,pI x2),(7,pI x3)] [.L tY (x1:List Int)]
noncomputable def S138_5:(Int×(List Int))→St:=fun(x1,x2)=>stC [(0,pI x1),(3, .sl 0 none none)] [.L tY (x2:List Int)]
noncomputable def e138 (k:Nat):List (Nat×List Nat×Spec):=[(145,[],p145 k),(168,[],p168 k)]
noncomputable def h138:H:=(hr (.n [] [.kp [0,3]] .d (.n [] [.kp [3]] (.n [] [.kp [3,6,7]] .d (.n [] [.kp [3]] (.n [.kp [3,6,7]] [.kp [3,6,7]] (hr (hl (hr (.n [.kp [3]] [] .d .d)))) .d) .d)) (hr (.n [.kp [2]] [] .d .d)))))
noncomputable def s138 (k:Nat):SumT (mkE (e138 k)) 0 k (bodyOf Tryz.f138) h138 [.kp [2]] d80.St S149_1 S149_1 q0:=
 .pre 2 S138_5 (fun x1 N R Z=>N (x1,[1]))
 (.seq S119_6
 (.pre 1 S138_2 (fun(x2,x3) N R Z=>N (x3,x2,0))
  (.blockP (.loop S138_2 (fun x=>x)
  (.leaf fun(x7,x8,x9) N R Z=>bif decide (x9<x8)then(f145 k x9 fun x10=>f168 k x7 [x10,1] fun x11 x12=>N (x11,x8,w64 (x9+1)))else(Z (.inl x7))))))
 (.leaf fun x13 N R Z=>R x13))
noncomputable def f138 {α:Type} (k:Nat) (x1:Int) (K:(List Int)→Option α):Option α:=
  (s138 k).F x1 (fun x14=>K x14) (fun x14=>K x14) fun z=>nomatch z
noncomputable def p138 (k:Nat):Spec:={ own:=[false],run:=fun a o K=>(d80.dec a o).bind fun x=>f138 k x fun x14=>K (o119 x14) }
theorem i138 (k:Nat):Impl Tryz.prog glTab 138 (p138 k):=
  .of w0 (l:=e138 k) ⟨i145 k,i168 k,trivial⟩ (s138 k) (d1_ok (dP_ok tI)) _ fun x14 K=>K (o119 x14)
noncomputable def S166_1:((List Int)×(List Int))→St:=fun(x1,x2)=>stC [(4, .sl 0 none none),(5, .p (.sl tY) (x2:List Int))] [.L tY (x1:List Int)]
noncomputable def S166_2:((List Int)×(List Int)×Int×(List Int)×Int)→St:=fun(x1,x2,x3,x4,x5)=>stC [(1, .p (.sl tY) (x1:List Int)),(6, .sl 0 none none),(7,pY x3),(9, .sl 1 none none),(10,pI x5)] [.L tY (x2:List Int), .L tY (x4:List Int)]
noncomputable def S166_4:((List Int)×(List Int))→St:=fun(x1,x2)=>stC [(6, .sl 0 none none),(9, .sl 1 none none)] [.L tY (x1:List Int), .L tY (x2:List Int)]
noncomputable def S166_5:((List Int)×(List Int)×(List Int)×Int×(List Int))→St:=fun(x1,x2,x3,x4,x5)=>stC [(0, .p (.sl tY) (x1:List Int)),(1, .p (.sl tY) (x2:List Int)),(6, .sl 0 none none),(7,pY x4),(9, .sl 1 none none)] [.L tY (x3:List Int), .L tY (x5:List Int)]
noncomputable def e166 (k:Nat):List (Nat×List Nat×Spec):=[(63,[],cloneS tY 1 k),(146,[],p146 k),(151,[],p151 k),(167,[],p167 k),(182,[],p182w k)]
noncomputable def h166:H:=(hr (hr (hb (hr (hl (hr (.n [.own 4 none tY, .frz 5 none, .kp [4,5]] [] .d .d)))) (hr (.n [] [.kp [0,1,6,7,9]] .d (.n [] [.kp [6,9]] (.n [] [.kp [1,6,7,9,10]] .d (.n [] [.kp [6,9]] (.n [.shr 6 none, .kp [1,6,7,9,10]] [.shr 6 none, .kp [1,6,7,9,10]] (hl (hr (hr (.n [.kp [6,9]] [] .d .d)))) .d) .d)) (hr (.n [.own 4 none tY, .frz 5 none, .kp [4,5]] [] .d .d))))))))
noncomputable def s166 (k:Nat):SumT (mkE (e166 k)) 0 k (bodyOf Tryz.f166) h166 [.own 4 none tY, .frz 5 none, .kp [4,5]] d120.St S166_1 S166_1 q0:=
 .pre 5 S166_5 (fun(x1,x2) N R Z=>cloneF 1 k x1 fun x3=>bif decide ((x1.length:Int)<(x2.length:Int))then(R ([],x3))else(if 0≤w64 ((x2.length:Int)-1)∧w64 ((x2.length:Int)-1)<(x2.length:Int)then(f151 k (x2.getD ((w64 ((x2.length:Int)-1)).toNat) (0:Int)) fun x6 x7=>if 0≤w64 ((w64 ((x1.length:Int)-(x2.length:Int)))+1)∧w64 ((w64 ((x1.length:Int)-(x2.length:Int)))+1)≤w64 ((w64 ((x1.length:Int)-(x2.length:Int)))+1)∧(w64 ((w64 ((x1.length:Int)-(x2.length:Int)))+1))*1≤room∧w64 ((w64 ((x1.length:Int)-(x2.length:Int)))+1)<9223372036854775808 then(N (x1,x2,x3,x6,List.replicate ((w64 ((w64 ((x1.length:Int)-(x2.length:Int)))+1)).toNat) (0:Int)))else none)else none))
 (.seq S166_4
 (.pre 1 S166_2 (fun(x8,x9,x10,x11,x12) N R Z=>N (x9,x10,x11,x12,w64 ((x8.length:Int)-(x9.length:Int))))
  (.blockP (.loop S166_2 (fun x=>x)
  (.leaf fun(x18,x19,x20,x21,x22) N R Z=>bif decide (x22≥0)then(if 0≤w64 ((w64 (x22+(x18.length:Int)))-1)∧w64 ((w64 (x22+(x18.length:Int)))-1)<(x19.length:Int)then(f146 k (x19.getD ((w64 ((w64 (x22+(x18.length:Int)))-1)).toNat) (0:Int)) x20 fun x23=>if 0≤x22∧x22<(x21.length:Int)then(if 0≤x22∧x22<((x21.set (x22.toNat) x23).length:Int)then(f182w k x19 x18 ((x21.set (x22.toNat) x23).getD (x22.toNat) (0:Int)) x22 fun x24=>if 0≤(0:Int)∧(0:Int)≤w64 ((w64 (x22+(x18.length:Int)))-1)∧w64 ((w64 (x22+(x18.length:Int)))-1)≤(x24.length:Int)then(N (x18,x24.take ((w64 ((w64 (x22+(x18.length:Int)))-1)).toNat),x20,x21.set (x22.toNat) x23,w64 (x22-1)))else none)else none)else none)else none)else(Z (.inl (x19,x21)))))))
 (.leaf fun(x25,x26) N R Z=>f167 k x25 fun x27=>R (x26,x27)))
noncomputable def f166 {α:Type} (k:Nat) (x1:(List Int)) (x2:(List Int)) (K:(List Int)→(List Int)→Option α):Option α:=
  (s166 k).F (x1,x2) (fun(x4,x5)=>K x4 x5) (fun(x4,x5)=>K x4 x5) fun z=>nomatch z
noncomputable def o166:((List Int)×(List Int))→FRes:=fun(x1,x2)=>{ ret:= .tup (.cn (.sl 0 none none) (.cn (.p (.sl tY) (x2:List Int)) .e0)),objs:=[.L tY (x1:List Int)] }
noncomputable def p166 (k:Nat):Spec:={ own:=[false,false],run:=fun a o K=>(d120.dec a o).bind fun x=>f166 k x.1 x.2 fun x4 x5=>K (o166 (x4,x5)) }
theorem i166 (k:Nat):Impl Tryz.prog glTab 166 (p166 k):=
  .of w0 (l:=e166 k) ⟨i63 k,i146 k,i151 k,i167 k,i182w k,trivial⟩ (s166 k) (dA_ok (dP_ok (.sl tY)) (d1_ok (dP_ok (.sl tY)))) _ fun(x4,x5) K=>K (o166 (x4,x5))
noncomputable def S136_1:((List Int)×(List Int)×Int)→St:=fun(x1,x2,x3)=>stC [(4, .sl 0 none none),(5, .p (.sl tY) (x2:List Int)),(6,pI x3)] [.L tY (x1:List Int)]
noncomputable def e136 (k:Nat):List (Nat×List Nat×Spec):=[(165,[],p165 k),(166,[],p166 k)]
noncomputable def h136:H:=(hr (hb (hl (hr (hb (hr (.n [.own 4 none tY, .dat 5 none tY, .kp [4,5,6]] [] .d .d)) (hr (hl (hr (.n [.own 4 none tY, .dat 5 none tY, .kp [4,5,6]] [] .d .d))))))) (hr (hr (.n [.own 4 none tY, .dat 5 none tY, .kp [4,5,6]] [] .d .d)))))
noncomputable def s136 (k:Nat):SumT (mkE (e136 k)) 0 k (bodyOf Tryz.f136) h136 [.own 4 none tY, .dat 5 none tY, .kp [4,5,6]] d120.St S136_1 S136_1 q0:=
 .leaf fun(x1,x2) N R Z=>f165 k x1 fun x3=>bif !x3 then(R ([],[],1))else(f165 k x2 fun x7=>bif !x7 then(R ([],[],1))else(bif (x2.length:Int)==0 then(R ([],[],4))else(f166 k x1 x2 fun x8 x9=>R (x8,x9,0))))
noncomputable def f136 {α:Type} (k:Nat) (x1:(List Int)) (x2:(List Int)) (K:(List Int)→(List Int)→Int→Option α):Option α:=
  (s136 k).F (x1,x2) (fun(x4,x5,x6)=>K x4 x5 x6) (fun(x4,x5,x6)=>K x4 x5 x6) fun z=>nomatch z
noncomputable def o136:((List Int)×(List Int)×Int)→FRes:=fun(x1,x2,x3)=>{ ret:= .tup (.cn (.sl 0 none none) (.cn (.p (.sl tY) (x2:List Int)) (.cn (pI x3) .e0))),objs:=[.L tY (x1:List Int)] }
noncomputable def p136 (k:Nat):Spec:={ own:=[false,false],run:=fun a o K=>(d120.dec a o).bind fun x=>f136 k x.1 x.2 fun x4 x5 x6=>K (o136 (x4,x5,x6)) }
theorem i136 (k:Nat):Impl Tryz.prog glTab 136 (p136 k):=
  .of w0 (l:=e136 k) ⟨i165 k,i166 k,trivial⟩ (s136 k) (dA_ok (dP_ok (.sl tY)) (d1_ok (dP_ok (.sl tY)))) _ fun(x4,x5,x6) K=>K (o136 (x4,x5,x6))
noncomputable def d113:Dec (DT5×(List Int)):=dA (dS T5) (d1 (dP (.sl tY)))
noncomputable def S113_2:((List Int)×(List Int)×Int×Int)→St:=fun(x1,x2,x3,x4)=>stC [(6, .sl 0 none none),(42, .p (.sl tY) (x2:List Int)),(43,pI x3),(44,pI x4)] [.L tY (x1:List Int)]
noncomputable def S113_5:((List Int)×(List Int))→St:=fun(x1,x2)=>stC [(6, .sl 0 none none),(9, .p (.sl tY) (x2:List Int))] [.L tY (x1:List Int)]
noncomputable def S113_6:(DT5×(List Int)×(List Int))→St:=fun(x1,x2,x3)=>stC [(2, .ptr 0 0 0),(6, .sl 1 none none),(7, .sl 2 none none)] [.B (toC T5 x1), .L tY (x2:List Int), .L tY (x3:List Int)]
noncomputable def e113 (k:Nat):List (Nat×List Nat×Spec):=[(63,[],cloneS tY 1 k),(122,[],p122 k),(135,[],p135w k),(136,[],p136 k),(137,[],p137 k),(138,[],p138 k)]
noncomputable def h113:H:=(hr (hb (hl (hr (hb (hr (.n [.own 4 none tY, .kp [4,5]] [] .d .d)) (hr (hl (hr (.n [.own 4 none tY, .kp [4,5]] [] .d .d))))))) (hr (.n [] [.kp [2,6,7]] .d (.n [] [.kp [2,6,7]] .d (.n [] [.kp [6,9]] .d (.n [] [.kp [6]] (.n [] [.kp [6,42,43,44]] .d (.n [] [.kp [6]] (.n [.kp [6,42,43,44]] [.kp [6,42,43,44]] (hr (hl (hr (.n [.kp [6]] [] .d .d)))) .d) .d)) (hr (.n [.own 4 none tY, .kp [4,5]] [] .d .d)))))))))
noncomputable def s113 (k:Nat):SumT (mkE (e113 k)) 0 k (bodyOf Tryz.f113) h113 [.own 4 none tY, .kp [4,5]] d113.St S168_1 S168_1 q0:=
 .pre 4 S113_6 (fun(x1,x2) N R Z=>f122 k x1 fun x3=>bif !x3 then(R ([],1))else(bif (x2.length:Int) !=x1.2.1 then(R ([],7))else(cloneF 1 k x2 fun x6=>if 0≤x1.2.2.1∧x1.2.2.1*1≤room∧x1.2.2.1<9223372036854775808 then(if(x6.length+(List.replicate (x1.2.2.1.toNat) (0:Int)).length)*1≤room then(cloneF 1 k (x6++(List.replicate (x1.2.2.1.toNat) (0:Int))) fun x7=>N (x1,x6++(List.replicate (x1.2.2.1.toNat) (0:Int)),x7))else none)else none)))
 (.pre 1 S113_6 (fun(x8,x9,x10) N R Z=>f135w k x10 fun x11=>N (x8,x9,x11))
 (.pre 1 S113_5 (fun(x12,x13,x14) N R Z=>f137 k x14 fun x15=>f138 k x12.2.2.1 fun x16=>f136 k x15 x16 fun x17 x18 x19=>N (x13,x18))
 (.seq S168_5
 (.pre 1 S113_2 (fun(x20,x21) N R Z=>N (x20,x21,(x21.length:Int),0))
  (.blockP (.loop S113_2 (fun x=>x)
  (.leaf fun(x26,x27,x28,x29) N R Z=>bif decide (x29<x28)then(if 0≤x29∧x29<(x27.length:Int)then(if 0≤w64 ((w64 (((x26.length:Nat):Int)-1))-x29)∧w64 ((w64 (((x26.length:Nat):Int)-1))-x29)<(x26.length:Int)then(N (x26.set ((w64 ((w64 (((x26.length:Nat):Int)-1))-x29)).toNat) (x27.getD (x29.toNat) (0:Int)),x27,x28,w64 (x29+1)))else none)else none)else(Z (.inl x26))))))
 (.leaf fun x30 N R Z=>R (x30,0)))))
noncomputable def f113 {α:Type} (k:Nat) (x1:DT5) (x2:(List Int)) (K:(List Int)→Int→Option α):Option α:=
  (s113 k).F (x1,x2) (fun(x4,x5)=>K x4 x5) (fun(x4,x5)=>K x4 x5) fun z=>nomatch z
noncomputable def p113 (k:Nat):Spec:={ own:=[false,false],run:=fun a o K=>(d113.dec a o).bind fun x=>f113 k x.1 x.2 fun x4 x5=>K (o168 (x4,x5)) }
theorem i113 (k:Nat):Impl Tryz.prog glTab 113 (p113 k):=
  .of w0 (l:=e113 k) ⟨i63 k,i122 k,i135w k,i136 k,i137 k,i138 k,trivial⟩ (s113 k) (dA_ok (dS_ok T5) (d1_ok (dP_ok (.sl tY)))) _ fun(x4,x5) K=>K (o168 (x4,x5))
noncomputable def e114 (k:Nat):List (Nat×List Nat×Spec):=[(119,[],p119 k),(120,[],p120 k)]
noncomputable def h114:H:=(hr (hb (hr (hl (hr (.n [.kp [2,3]] [] .d .d)))) (hr (.n [.kp [2,3]] [] .d .d))))
noncomputable def s114 (k:Nat):SumT (mkE (e114 k)) 0 k (bodyOf Tryz.f114) h114 [.kp [2,3]] d79.St S151_1 S151_1 q0:=
 .leaf fun x1 N R Z=>bif (x1.length:Int) !=8 then(R (0,7))else(f119 k fun x4=>f120 k x1 x4 fun x5=>R (x5,0))
noncomputable def f114 {α:Type} (k:Nat) (x1:(List Int)) (K:Int→Int→Option α):Option α:=
  (s114 k).F x1 (fun(x2,x3)=>K x2 x3) (fun(x2,x3)=>K x2 x3) fun z=>nomatch z
noncomputable def p114 (k:Nat):Spec:={ own:=[false],run:=fun a o K=>(d79.dec a o).bind fun x=>f114 k x fun x2 x3=>K (o151 (x2,x3)) }
theorem i114 (k:Nat):Impl Tryz.prog glTab 114 (p114 k):=
  .of w0 (l:=e114 k) ⟨i119 k,i120 k,trivial⟩ (s114 k) (d1_ok (dP_ok (.sl tY))) _ fun(x2,x3) K=>K (o151 (x2,x3))
noncomputable def S98_2:((List Int)×Int)→St:=fun(x1,x2)=>stC [(1, .p (.sl tY) (x1:List Int)),(6,pY x2)] []
noncomputable def e98 (k:Nat):List (Nat×List Nat×Spec):=[(63,[],cloneS tY 1 k),(65,[],p65 k),(113,[],p113 k),(114,[],p114 k)]
noncomputable def h98:H:=(hr (hb (hr (hl (hr (.n [.own 4 none tY, .kp [4,5]] [] .d .d)))) (hr (.n [] [.kp [1,6]] (hr (hl (hr (.n [.own 4 none tY, .kp [4,5]] [] .d .d)))) (hr (.n [.own 4 none tY, .kp [4,5]] [] .d .d))))))
noncomputable def s98 (k:Nat):SumT (mkE (e98 k)) 0 k (bodyOf Tryz.f98) h98 [.own 4 none tY, .kp [4,5]] d113.St S168_1 S168_1 q0:=
 .pre 4 S98_2 (fun(x1,x2) N R Z=>bif x1.1 !=1 then(f113 k x1 x2 fun x3 x4=>R (x3,x4))else(f65 k x1 fun x7=>bif !x7 then(f113 k x1 x2 fun x8 x9=>R (x8,x9))else(f114 k x2 fun x10 x11=>bif x11 !=0 then(R ([],x11))else(N (x2,x10)))))
 (.leaf fun(x12,x13) N R Z=>cloneF 1 k x12 fun x14=>if(x14.length+[x13].length)*1≤room then(R (x14++[x13],0))else none)
noncomputable def f98 {α:Type} (k:Nat) (x1:DT5) (x2:(List Int)) (K:(List Int)→Int→Option α):Option α:=
  (s98 k).F (x1,x2) (fun(x5,x6)=>K x5 x6) (fun(x5,x6)=>K x5 x6) fun z=>nomatch z
noncomputable def p98 (k:Nat):Spec:={ own:=[false,false],run:=fun a o K=>(d113.dec a o).bind fun x=>f98 k x.1 x.2 fun x5 x6=>K (o168 (x5,x6)) }
theorem i98 (k:Nat):Impl Tryz.prog glTab 98 (p98 k):=
  .of w0 (l:=e98 k) ⟨i63 k,i65 k,i113 k,i114 k,trivial⟩ (s98 k) (dA_ok (dS_ok T5) (d1_ok (dP_ok (.sl tY)))) _ fun(x5,x6) K=>K (o168 (x5,x6))
theorem i116 (k:Nat):Impl Tryz.prog glTab 116 (deleteS T0 k):=delete_impl glTab k
theorem i117 (k:Nat):Impl Tryz.prog glTab 117 (insertS T0 40 k):=insert_impl glTab k
noncomputable def d99w:Dec (DT2×DT0):=dA (dB T2 [false,false,false,false,false,false,false,false,false,false,true,true]) (d1 (dS T0))
noncomputable def S99w_1:DT2→St:=fun x1=>stC [(0, .ptr 0 0 0)] [.B (.cn (pI x1.1) (.cn (pI x1.2.1) (.cn (pI x1.2.2.1) (.cn (pI x1.2.2.2.1) (.cn (pI x1.2.2.2.2.1) (.cn (pI x1.2.2.2.2.2.1) (.cn (pI x1.2.2.2.2.2.2.1) (.cn (pI x1.2.2.2.2.2.2.2.1) (.cn (pI x1.2.2.2.2.2.2.2.2.1) (.cn (pI x1.2.2.2.2.2.2.2.2.2.1) (.cn (.sl 1 none none) (.cn (.sl 2 none none) .e0)))))))))))), .L T0 (x1.2.2.2.2.2.2.2.2.2.2.1:List DT0), .L T1 (x1.2.2.2.2.2.2.2.2.2.2.2:List DT1)]
noncomputable def S99w_2:(DT2×DT0×Int×Bool×Bool)→St:=fun(x1,x2,x3,x4,x5)=>stC [(0, .ptr 0 0 0),(3, .ptr 1 0 0),(4,pI x3),(5,pB x4),(13,pB x5)] [.B (.cn (pI x1.1) (.cn (pI x1.2.1) (.cn (pI x1.2.2.1) (.cn (pI x1.2.2.2.1) (.cn (pI x1.2.2.2.2.1) (.cn (pI x1.2.2.2.2.2.1) (.cn (pI x1.2.2.2.2.2.2.1) (.cn (pI x1.2.2.2.2.2.2.2.1) (.cn (pI x1.2.2.2.2.2.2.2.2.1) (.cn (pI x1.2.2.2.2.2.2.2.2.2.1) (.cn (.sl 2 none none) (.cn (.sl 3 none none) .e0)))))))))))), .B (toC T0 x2), .L T0 (x1.2.2.2.2.2.2.2.2.2.2.1:List DT0), .L T1 (x1.2.2.2.2.2.2.2.2.2.2.2:List DT1)]
noncomputable def S99w_3:(DT2×DT0×Int×Bool)→St:=fun(x1,x2,x3,x4)=>stC [(0, .ptr 0 0 0),(3, .ptr 1 0 0),(4,pI x3),(5,pB x4)] [.B (.cn (pI x1.1) (.cn (pI x1.2.1) (.cn (pI x1.2.2.1) (.cn (pI x1.2.2.2.1) (.cn (pI x1.2.2.2.2.1) (.cn (pI x1.2.2.2.2.2.1) (.cn (pI x1.2.2.2.2.2.2.1) (.cn (pI x1.2.2.2.2.2.2.2.1) (.cn (pI x1.2.2.2.2.2.2.2.2.1) (.cn (pI x1.2.2.2.2.2.2.2.2.2.1) (.cn (.sl 2 none none) (.cn (.sl 3 none none) .e0)))))))))))), .B (toC T0 x2), .L T0 (x1.2.2.2.2.2.2.2.2.2.2.1:List DT0), .L T1 (x1.2.2.2.2.2.2.2.2.2.2.2:List DT1)]
noncomputable def e99w (k:Nat):List (Nat×List Nat×Spec):=[(67,[],p67 k),(115,[],p115 k),(116,[],deleteS T0 k),(117,[],insertS T0 40 k)]
noncomputable def h99w:H:=(hr (.n [] [.kp [0,3,4,5]] .d (.n [] [.kp [0]] (.n [] [.kp [0,3,4,5,13]] .d .d) .d)))
noncomputable def s99w (k:Nat):SumT (mkE (e99w k)) 1 k (bodyOf Tryz.f99) h99w [.kp [0]] d99w.St S99w_1 S99w_1 q0:=
 .pre 2 S99w_3 (fun(x1,x2) N R Z=>f115 k x1 x2.1 fun x3 x4=>N (x1,x2,x3,x4))
 (.blockP (.pre 1 S99w_2 (fun(x5,x6,x7,x8) N R Z=>bif x8 then(f67 k x6 fun x9=>N (x5,x6,x7,x8,x9))else(N (x5,x6,x7,x8,false)))
 (.leaf fun(x10,x11,x12,x13,x14) N R Z=>bif x14 then(deleteF k x10.2.2.2.2.2.2.2.2.2.2.1 x12 (w64 (x12+1)) fun x15=>N (x10.1,x10.2.1,x10.2.2.1,x10.2.2.2.1,x10.2.2.2.2.1,x10.2.2.2.2.2.1,x10.2.2.2.2.2.2.1,x10.2.2.2.2.2.2.2.1,x10.2.2.2.2.2.2.2.2.1,x10.2.2.2.2.2.2.2.2.2.1,x15,x10.2.2.2.2.2.2.2.2.2.2.2))else(bif x13 then(if 0≤x12∧x12<(x10.2.2.2.2.2.2.2.2.2.2.1.length:Int)then(N (x10.1,x10.2.1,x10.2.2.1,x10.2.2.2.1,x10.2.2.2.2.1,x10.2.2.2.2.2.1,x10.2.2.2.2.2.2.1,x10.2.2.2.2.2.2.2.1,x10.2.2.2.2.2.2.2.2.1,x10.2.2.2.2.2.2.2.2.2.1,x10.2.2.2.2.2.2.2.2.2.2.1.set (x12.toNat) x11,x10.2.2.2.2.2.2.2.2.2.2.2))else none)else(f67 k x11 fun x17=>bif !x17 then(insertF 40 k x10.2.2.2.2.2.2.2.2.2.2.1 x12 [x11] fun x18=>N (x10.1,x10.2.1,x10.2.2.1,x10.2.2.2.1,x10.2.2.2.2.1,x10.2.2.2.2.2.1,x10.2.2.2.2.2.2.1,x10.2.2.2.2.2.2.2.1,x10.2.2.2.2.2.2.2.2.1,x10.2.2.2.2.2.2.2.2.2.1,x18,x10.2.2.2.2.2.2.2.2.2.2.2))else(N x10))))))
noncomputable def f99w {α:Type} (k:Nat) (x1:DT2) (x2:DT0) (K:DT2→Option α):Option α:=
  (s99w k).F (x1,x2) (fun x16=>K x16) (fun x16=>K x16) fun z=>nomatch z
noncomputable def o99w:DT2→FRes:=fun x1=>{ ret:= .tup (.e0),objs:=[.B (.cn (pI x1.1) (.cn (pI x1.2.1) (.cn (pI x1.2.2.1) (.cn (pI x1.2.2.2.1) (.cn (pI x1.2.2.2.2.1) (.cn (pI x1.2.2.2.2.2.1) (.cn (pI x1.2.2.2.2.2.2.1) (.cn (pI x1.2.2.2.2.2.2.2.1) (.cn (pI x1.2.2.2.2.2.2.2.2.1) (.cn (pI x1.2.2.2.2.2.2.2.2.2.1) (.cn (.sl 1 none none) (.cn (.sl 2 none none) .e0)))))))))))), .L T0 (x1.2.2.2.2.2.2.2.2.2.2.1:List DT0), .L T1 (x1.2.2.2.2.2.2.2.2.2.2.2:List DT1)] }
noncomputable def p99w (k:Nat):Spec:={ own:=[true,false],run:=fun a o K=>(d99w.dec a o).bind fun x=>f99w k x.1 x.2 fun x16=>K (o99w x16) }
theorem i99w (k:Nat):Impl Tryz.prog glTab 99 (p99w k):=
  .of w0 (l:=e99w k) ⟨i67 k,i115 k,i116 k,i117 k,trivial⟩ (s99w k) (dA_ok (dB_ok T2 [false,false,false,false,false,false,false,false,false,false,true,true]) (d1_ok (dS_ok T0))) _ fun x16 K=>K (o99w x16)
noncomputable def d74ww:Dec (DT2×Int×(List Int)):=dA (dB T2 [false,false,false,false,false,false,false,false,false,false,true,true]) (dA (dP tI) (d1 (dP (.sl tY))))
noncomputable def e74ww (k:Nat):List (Nat×List Nat×Spec):=[(98,[],p98 k),(99,[],p99w k)]
noncomputable def h74ww:H:= .d
noncomputable def s74ww (k:Nat):SumT (mkE (e74ww k)) 1 k (bodyOf Tryz.f74) h74ww [.kp [0]] d74ww.St S99w_1 S99w_1 q0:=
 .leaf fun(x1,x2,x3) N R Z=>f98 k (x1.2.2.2.2.2.2.1,x1.2.2.2.2.2.2.2.1,x1.2.2.2.2.2.2.2.2.1,x1.2.2.2.2.2.2.2.2.2.1) x3 fun x4 x5=>f99w k x1 (x2,x4,false) fun x6=>N x6
noncomputable def f74ww {α:Type} (k:Nat) (x1:DT2) (x2:Int) (x3:(List Int)) (K:DT2→Option α):Option α:=
  (s74ww k).F (x1,x2,x3) (fun x7=>K x7) (fun x7=>K x7) fun z=>nomatch z
noncomputable def p74ww (k:Nat):Spec:={ own:=[true,false,false],run:=fun a o K=>(d74ww.dec a o).bind fun x=>f74ww k x.1 x.2.1 x.2.2 fun x7=>K (o99w x7) }
theorem i74ww (k:Nat):Impl Tryz.prog glTab 74 (p74ww k):=
  .of w0 (l:=e74ww k) ⟨i98 k,i99w k,trivial⟩ (s74ww k) (dA_ok (dB_ok T2 [false,false,false,false,false,false,false,false,false,false,true,true]) (dA_ok (dP_ok tI) (d1_ok (dP_ok (.sl tY))))) _ fun x7 K=>K (o99w x7)
noncomputable def d75w:Dec (DT2×Int):=dA (dB T2 [false,false,false,false,false,false,false,false,false,false,true,true]) (d1 (dP tI))
noncomputable def e75w (k:Nat):List (Nat×List Nat×Spec):=[(99,[],p99w k),(100,[],p100 k)]
noncomputable def h75w:H:= .d
noncomputable def s75w (k:Nat):SumT (mkE (e75w k)) 1 k (bodyOf Tryz.f75) h75w [.kp [0]] d75w.St S99w_1 S99w_1 q0:=
 .leaf fun(x1,x2) N R Z=>f100 k x1 x2 fun x3=>f99w k x1 (x3.1,x3.2.1,true) fun x4=>N x4
noncomputable def f75w {α:Type} (k:Nat) (x1:DT2) (x2:Int) (K:DT2→Option α):Option α:=
  (s75w k).F (x1,x2) (fun x5=>K x5) (fun x5=>K x5) fun z=>nomatch z
noncomputable def p75w (k:Nat):Spec:={ own:=[true,false],run:=fun a o K=>(d75w.dec a o).bind fun x=>f75w k x.1 x.2 fun x5=>K (o99w x5) }
theorem i75w (k:Nat):Impl Tryz.prog glTab 75 (p75w k):=
  .of w0 (l:=e75w k) ⟨i99w k,i100 k,trivial⟩ (s75w k) (dA_ok (dB_ok T2 [false,false,false,false,false,false,false,false,false,false,true,true]) (d1_ok (dP_ok tI))) _ fun x5 K=>K (o99w x5)
noncomputable def d43w:Dec (DT2×Int×(List Int)):=dA (dB T2 [false,false,false,false,false,false,false,false,false,false,true,true]) (dA (dP tI) (d1 (dP (.sl tI))))
noncomputable def S43w_1:(DT2×DT8)→St:=fun(x1,x2)=>stC [(0, .ptr 0 0 0),(6, .ptr 1 0 0)] [.B (.cn (pI x1.1) (.cn (pI x1.2.1) (.cn (pI x1.2.2.1) (.cn (pI x1.2.2.2.1) (.cn (pI x1.2.2.2.2.1) (.cn (pI x1.2.2.2.2.2.1) (.cn (pI x1.2.2.2.2.2.2.1) (.cn (pI x1.2.2.2.2.2.2.2.1) (.cn (pI x1.2.2.2.2.2.2.2.2.1) (.cn (pI x1.2.2.2.2.2.2.2.2.2.1) (.cn (.sl 2 none none) (.cn (.sl 3 none none) .e0)))))))))))), .B (.cn (pI x2.1) (.cn (.p (.sl tY) (x2.2.1:List Int)) (.cn (.sl 4 none none) .e0))), .L T0 (x1.2.2.2.2.2.2.2.2.2.2.1:List DT0), .L T1 (x1.2.2.2.2.2.2.2.2.2.2.2:List DT1), .L tI (x2.2.2:List Int)]
noncomputable def e43w (k:Nat):List (Nat×List Nat×Spec):=[(46,[],p46 k),(74,[],p74ww k),(75,[],p75w k)]
noncomputable def h43w:H:=(hr (hr (hr (hr (.n [.frz 6 (some 1), .kp [0,6]] [] .d .d)))))
noncomputable def s43w (k:Nat):SumT (mkE (e43w k)) 1 k (bodyOf Tryz.f43) h43w [.frz 6 (some 1), .kp [0,6]] d43w.St S43w_1 S43w_1 q0:=
 .leaf fun(x1,x2,x3) N R Z=>f46 k x1 x2 x3 fun x4=>bif x4.1==1 then(f74ww k x1 x2 x4.2.1 fun x5=>R (x5,x4))else(bif x4.1==2 then(f75w k x1 x2 fun x8=>R (x8,x4))else(R (x1,x4)))
noncomputable def f43w {α:Type} (k:Nat) (x1:DT2) (x2:Int) (x3:(List Int)) (K:DT2→DT8→Option α):Option α:=
  (s43w k).F (x1,x2,x3) (fun(x6,x7)=>K x6 x7) (fun(x6,x7)=>K x6 x7) fun z=>nomatch z
noncomputable def o43w:(DT2×DT8)→FRes:=fun(x1,x2)=>{ ret:= .agg (.cn (pI x2.1) (.cn (.p (.sl tY) (x2.2.1:List Int)) (.cn (.sl 1 none none) .e0))),objs:=[.B (.cn (pI x1.1) (.cn (pI x1.2.1) (.cn (pI x1.2.2.1) (.cn (pI x1.2.2.2.1) (.cn (pI x1.2.2.2.2.1) (.cn (pI x1.2.2.2.2.2.1) (.cn (pI x1.2.2.2.2.2.2.1) (.cn (pI x1.2.2.2.2.2.2.2.1) (.cn (pI x1.2.2.2.2.2.2.2.2.1) (.cn (pI x1.2.2.2.2.2.2.2.2.2.1) (.cn (.sl 2 none none) (.cn (.sl 3 none none) .e0)))))))))))), .L tI (x2.2.2:List Int), .L T0 (x1.2.2.2.2.2.2.2.2.2.2.1:List DT0), .L T1 (x1.2.2.2.2.2.2.2.2.2.2.2:List DT1)] }
noncomputable def p43w (k:Nat):Spec:={ own:=[true,false,false],run:=fun a o K=>(d43w.dec a o).bind fun x=>f43w k x.1 x.2.1 x.2.2 fun x6 x7=>K (o43w (x6,x7)) }
theorem i43w (k:Nat):Impl Tryz.prog glTab 43 (p43w k):=
  .of w0 (l:=e43w k) ⟨i46 k,i74ww k,i75w k,trivial⟩ (s43w k) (dA_ok (dB_ok T2 [false,false,false,false,false,false,false,false,false,false,true,true]) (dA_ok (dP_ok tI) (d1_ok (dP_ok (.sl tI))))) _ fun(x6,x7) K=>K (o43w (x6,x7))
end Go.Proofs.YtkeiedikiiccpaaGreatDoor.Am
