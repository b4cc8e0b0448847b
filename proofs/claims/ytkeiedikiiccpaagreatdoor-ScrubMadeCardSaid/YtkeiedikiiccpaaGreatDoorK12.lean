/- A part of the proof of ScrubMade: lemmas. No conditions beyond those of each lemma. -/
import Derived.Test.YtkeiedikiiccpaaGreatDoorK11
set_option linter.all false
namespace Go.Proofs.YtkeiedikiiccpaaGreatDoor.Am
open Go
set_option maxRecDepth 100000
noncomputable def d27:Dec (DT2×Int×Int×(List Int)):=dA (dS T2) (dA (dP tI) (dA (dP tI) (d1 (dP (.sl tI)))))
noncomputable def S27_1:(DT2×Int×(List DT6)×Int)→St:=fun(x1,x2,x3,x4)=>stC [(8, .ptr 0 0 0),(9,pI x2),(10, .sl 1 none none),(11,pI x4)] [.B (.cn (pI x1.1) (.cn (pI x1.2.1) (.cn (pI x1.2.2.1) (.cn (pI x1.2.2.2.1) (.cn (pI x1.2.2.2.2.1) (.cn (pI x1.2.2.2.2.2.1) (.cn (pI x1.2.2.2.2.2.2.1) (.cn (pI x1.2.2.2.2.2.2.2.1) (.cn (pI x1.2.2.2.2.2.2.2.2.1) (.cn (pI x1.2.2.2.2.2.2.2.2.2.1) (.cn (.sl 2 none none) (.cn (.sl 3 none none) .e0)))))))))))), .L T6 (x3:List DT6), .L T0 (x1.2.2.2.2.2.2.2.2.2.2.1:List DT0), .L T1 (x1.2.2.2.2.2.2.2.2.2.2.2:List DT1)]
noncomputable def S27_2:(Int×(List Int)×DT2×DT2×Int×(List DT6)×Int×Int)→St:=fun(x1,x2,x3,x4,x5,x6,x7,x8)=>stC [(1,pI x1),(3, .p (.sl tI) (x2:List Int)),(8, .ptr 0 0 0),(12, .ptr 1 0 0),(13,pI x5),(15, .sl 2 none none),(55,pI x7),(56,pI x8)] [.B (.cn (pI x3.1) (.cn (pI x3.2.1) (.cn (pI x3.2.2.1) (.cn (pI x3.2.2.2.1) (.cn (pI x3.2.2.2.2.1) (.cn (pI x3.2.2.2.2.2.1) (.cn (pI x3.2.2.2.2.2.2.1) (.cn (pI x3.2.2.2.2.2.2.2.1) (.cn (pI x3.2.2.2.2.2.2.2.2.1) (.cn (pI x3.2.2.2.2.2.2.2.2.2.1) (.cn (.sl 3 none none) (.cn (.sl 4 none none) .e0)))))))))))), .B (.cn (pI x4.1) (.cn (pI x4.2.1) (.cn (pI x4.2.2.1) (.cn (pI x4.2.2.2.1) (.cn (pI x4.2.2.2.2.1) (.cn (pI x4.2.2.2.2.2.1) (.cn (pI x4.2.2.2.2.2.2.1) (.cn (pI x4.2.2.2.2.2.2.2.1) (.cn (pI x4.2.2.2.2.2.2.2.2.1) (.cn (pI x4.2.2.2.2.2.2.2.2.2.1) (.cn (.sl 5 none none) (.cn (.sl 6 none none) .e0)))))))))))), .L T6 (x6:List DT6), .L T0 (x3.2.2.2.2.2.2.2.2.2.2.1:List DT0), .L T1 (x3.2.2.2.2.2.2.2.2.2.2.2:List DT1), .L T0 (x4.2.2.2.2.2.2.2.2.2.2.1:List DT0), .L T1 (x4.2.2.2.2.2.2.2.2.2.2.2:List DT1)]
noncomputable def S27_4:(Int×DT2×DT2×(List DT6))→St:=fun(x1,x2,x3,x4)=>stC [(1,pI x1),(8, .ptr 0 0 0),(12, .ptr 1 0 0),(15, .sl 2 none none)] [.B (.cn (pI x2.1) (.cn (pI x2.2.1) (.cn (pI x2.2.2.1) (.cn (pI x2.2.2.2.1) (.cn (pI x2.2.2.2.2.1) (.cn (pI x2.2.2.2.2.2.1) (.cn (pI x2.2.2.2.2.2.2.1) (.cn (pI x2.2.2.2.2.2.2.2.1) (.cn (pI x2.2.2.2.2.2.2.2.2.1) (.cn (pI x2.2.2.2.2.2.2.2.2.2.1) (.cn (.sl 3 none none) (.cn (.sl 4 none none) .e0)))))))))))), .B (.cn (pI x3.1) (.cn (pI x3.2.1) (.cn (pI x3.2.2.1) (.cn (pI x3.2.2.2.1) (.cn (pI x3.2.2.2.2.1) (.cn (pI x3.2.2.2.2.2.1) (.cn (pI x3.2.2.2.2.2.2.1) (.cn (pI x3.2.2.2.2.2.2.2.1) (.cn (pI x3.2.2.2.2.2.2.2.2.1) (.cn (pI x3.2.2.2.2.2.2.2.2.2.1) (.cn (.sl 5 none none) (.cn (.sl 6 none none) .e0)))))))))))), .L T6 (x4:List DT6), .L T0 (x2.2.2.2.2.2.2.2.2.2.2.1:List DT0), .L T1 (x2.2.2.2.2.2.2.2.2.2.2.2:List DT1), .L T0 (x3.2.2.2.2.2.2.2.2.2.2.1:List DT0), .L T1 (x3.2.2.2.2.2.2.2.2.2.2.2:List DT1)]
noncomputable def S27_5:(Int×Int×(List Int)×DT2×DT2×Int×(List DT6))→St:=fun(x1,x2,x3,x4,x5,x6,x7)=>stC [(1,pI x1),(2,pI x2),(3, .p (.sl tI) (x3:List Int)),(8, .ptr 0 0 0),(12, .ptr 1 0 0),(13,pI x6),(15, .sl 2 none none)] [.B (.cn (pI x4.1) (.cn (pI x4.2.1) (.cn (pI x4.2.2.1) (.cn (pI x4.2.2.2.1) (.cn (pI x4.2.2.2.2.1) (.cn (pI x4.2.2.2.2.2.1) (.cn (pI x4.2.2.2.2.2.2.1) (.cn (pI x4.2.2.2.2.2.2.2.1) (.cn (pI x4.2.2.2.2.2.2.2.2.1) (.cn (pI x4.2.2.2.2.2.2.2.2.2.1) (.cn (.sl 3 none none) (.cn (.sl 4 none none) .e0)))))))))))), .B (.cn (pI x5.1) (.cn (pI x5.2.1) (.cn (pI x5.2.2.1) (.cn (pI x5.2.2.2.1) (.cn (pI x5.2.2.2.2.1) (.cn (pI x5.2.2.2.2.2.1) (.cn (pI x5.2.2.2.2.2.2.1) (.cn (pI x5.2.2.2.2.2.2.2.1) (.cn (pI x5.2.2.2.2.2.2.2.2.1) (.cn (pI x5.2.2.2.2.2.2.2.2.2.1) (.cn (.sl 5 none none) (.cn (.sl 6 none none) .e0)))))))))))), .L T6 (x7:List DT6), .L T0 (x4.2.2.2.2.2.2.2.2.2.2.1:List DT0), .L T1 (x4.2.2.2.2.2.2.2.2.2.2.2:List DT1), .L T0 (x5.2.2.2.2.2.2.2.2.2.2.1:List DT0), .L T1 (x5.2.2.2.2.2.2.2.2.2.2.2:List DT1)]
noncomputable def S27_6:(Int×Int×(List Int)×DT2×DT2×DT2×Int)→St:=fun(x1,x2,x3,x4,x5,x6,x7)=>stC [(1,pI x1),(2,pI x2),(3, .p (.sl tI) (x3:List Int)),(4, .ptr 0 0 0),(8, .ptr 1 0 0),(12, .ptr 2 0 0),(13,pI x7)] [.B (toC T2 x4), .B (.cn (pI x5.1) (.cn (pI x5.2.1) (.cn (pI x5.2.2.1) (.cn (pI x5.2.2.2.1) (.cn (pI x5.2.2.2.2.1) (.cn (pI x5.2.2.2.2.2.1) (.cn (pI x5.2.2.2.2.2.2.1) (.cn (pI x5.2.2.2.2.2.2.2.1) (.cn (pI x5.2.2.2.2.2.2.2.2.1) (.cn (pI x5.2.2.2.2.2.2.2.2.2.1) (.cn (.sl 3 none none) (.cn (.sl 4 none none) .e0)))))))))))), .B (.cn (pI x6.1) (.cn (pI x6.2.1) (.cn (pI x6.2.2.1) (.cn (pI x6.2.2.2.1) (.cn (pI x6.2.2.2.2.1) (.cn (pI x6.2.2.2.2.2.1) (.cn (pI x6.2.2.2.2.2.2.1) (.cn (pI x6.2.2.2.2.2.2.2.1) (.cn (pI x6.2.2.2.2.2.2.2.2.1) (.cn (pI x6.2.2.2.2.2.2.2.2.2.1) (.cn (.sl 5 none none) (.cn (.sl 6 none none) .e0)))))))))))), .L T0 (x5.2.2.2.2.2.2.2.2.2.2.1:List DT0), .L T1 (x5.2.2.2.2.2.2.2.2.2.2.2:List DT1), .L T0 (x6.2.2.2.2.2.2.2.2.2.2.1:List DT0), .L T1 (x6.2.2.2.2.2.2.2.2.2.2.2:List DT1)]
noncomputable def e27 (k:Nat):List (Nat×List Nat×Spec):=[(39,[],p39 k),(40,[],p40 k),(41,[],p41 k),(42,[],p42 k),(43,[],p43w k)]
noncomputable def h27:H:=(hr (hr (.n [] [.own 8 (some 10) T0, .own 8 (some 11) T1, .kp [1,2,3,4,8,12,13]] (hl (hr (hb (hr (.n [.own 10 none T6, .kp [8,9,10,11]] [] .d .d)) (hr (hl (hr (.n [.own 10 none T6, .kp [8,9,10,11]] [] .d .d))))))) (hb (hr (hr (hl (hr (.n [.own 10 none T6, .kp [8,9,10,11]] [] .d .d))))) (.n [] [.own 15 none T6, .kp [1,2,3,8,12,13,15]] .d (.n [] [.kp [1,8,12,15]] (.n [] [.kp [1,3,8,12,13,15,55,56]] .d (.n [] [.kp [1,8,12,15]] (.n [.kp [1,3,8,12,13,15,55,56]] [.kp [1,3,8,12,13,15,55,56]] (hr (hl (hr (.n [.kp [1,8,12,15]] [] .d .d)))) .d) .d)) (hr (.n [.own 10 none T6, .kp [8,9,10,11]] [] .d .d))))))))
noncomputable def s27 (k:Nat):SumT (mkE (e27 k)) 0 k (bodyOf Tryz.f27) h27 [.own 10 none T6, .kp [8,9,10,11]] d27.St S27_1 S27_1 q0:=
 .pre 3 S27_6 (fun(x1,x2,x3,x4) N R Z=>f39 k x1 fun x5=>f41 k (x1.1,x1.2.1,x1.2.2.1,x1.2.2.2.1,x1.2.2.2.2.1,x1.2.2.2.2.2.1) fun x6=>f40 k x1 fun x7=>bif !x7 then(R (x5,x2,[],1))else(bif decide (x2<0)then(R (x5,x2,[],2))else(bif decide (x2≥x6)then(R (x5,x2,[],2))else(bif decide (x3<0)then(R (x5,x2,[],2))else(bif decide (x3>4096)then(R (x5,x2,[],2))else(N (x2,x3,x4,x1,(0,0,0,0,0,0,0,0,0,0,[],[]),x5,x6)))))))
 (.pre 2 S27_5 (fun(x12,x13,x14,x15,x16,x17,x18) N R Z=>f42 k (x15.2.2.2.2.2.2.1,x15.2.2.2.2.2.2.2.1,x15.2.2.2.2.2.2.2.2.1,x15.2.2.2.2.2.2.2.2.2.1) x14 fun x19=>bif x19 !=0 then(R (x17,x12,[],x19))else(N (x12,x13,x14,x16,x17,x18,[])))
 (.seq S27_4
 (.pre 1 S27_2 (fun(x20,x21,x22,x23,x24,x25,x26) N R Z=>N (x20,x22,x23,x24,x25,x26,x21,0))
  (.blockP (.loop S27_2 (fun x=>x)
  (.leaf fun(x35,x36,x37,x38,x39,x40,x41,x42) N R Z=>bif decide (x42<x41)then(f43w k x38 x35 x36 fun x43 x44=>bif x44.1==1 then(if(x40.length+[(x35,x44.1,x44.2.1,x44.2.2)].length)*64≤room then(if x39=0 then none else(N (Int.tmod (w64 (x35+1)) x39,x36,x37,x43,x39,x40++[(x35,x44.1,x44.2.1,x44.2.2)],x41,w64 (x42+1))))else none)else(bif x44.1==2 then(if(x40.length+[(x35,x44.1,x44.2.1,x44.2.2)].length)*64≤room then(if x39=0 then none else(N (Int.tmod (w64 (x35+1)) x39,x36,x37,x43,x39,x40++[(x35,x44.1,x44.2.1,x44.2.2)],x41,w64 (x42+1))))else none)else(if x39=0 then none else(N (Int.tmod (w64 (x35+1)) x39,x36,x37,x43,x39,x40,x41,w64 (x42+1))))))else(Z (.inl (x35,x37,x38,x40)))))))
 (.leaf fun(x45,x46,x47,x48) N R Z=>R (x47,x45,x48,0))))
noncomputable def f27 {α:Type} (k:Nat) (x1:DT2) (x2:Int) (x3:Int) (x4:(List Int)) (K:DT2→Int→(List DT6)→Int→Option α):Option α:=
  (s27 k).F (x1,x2,x3,x4) (fun(x8,x9,x10,x11)=>K x8 x9 x10 x11) (fun(x8,x9,x10,x11)=>K x8 x9 x10 x11) fun z=>nomatch z
noncomputable def o27:(DT2×Int×(List DT6)×Int)→FRes:=fun(x1,x2,x3,x4)=>{ ret:= .tup (.cn (.agg (.cn (pI x1.1) (.cn (pI x1.2.1) (.cn (pI x1.2.2.1) (.cn (pI x1.2.2.2.1) (.cn (pI x1.2.2.2.2.1) (.cn (pI x1.2.2.2.2.2.1) (.cn (pI x1.2.2.2.2.2.2.1) (.cn (pI x1.2.2.2.2.2.2.2.1) (.cn (pI x1.2.2.2.2.2.2.2.2.1) (.cn (pI x1.2.2.2.2.2.2.2.2.2.1) (.cn (.sl 0 none none) (.cn (.sl 1 none none) .e0))))))))))))) (.cn (pI x2) (.cn (.sl 2 none none) (.cn (pI x4) .e0)))),objs:=[.L T0 (x1.2.2.2.2.2.2.2.2.2.2.1:List DT0), .L T1 (x1.2.2.2.2.2.2.2.2.2.2.2:List DT1), .L T6 (x3:List DT6)] }
noncomputable def p27 (k:Nat):Spec:={ own:=[false,false,false,false],run:=fun a o K=>(d27.dec a o).bind fun x=>f27 k x.1 x.2.1 x.2.2.1 x.2.2.2 fun x8 x9 x10 x11=>K (o27 (x8,x9,x10,x11)) }
theorem i27 (k:Nat):Impl Tryz.prog glTab 27 (p27 k):=
  .of w0 (l:=e27 k) ⟨i39 k,i40 k,i41 k,i42 k,i43w k,trivial⟩ (s27 k) (dA_ok (dS_ok T2) (dA_ok (dP_ok tI) (dA_ok (dP_ok tI) (d1_ok (dP_ok (.sl tI)))))) _ fun(x8,x9,x10,x11) K=>K (o27 (x8,x9,x10,x11))
noncomputable def d25:Dec (DT2×(List Int)):=dA (dS T2) (d1 (dP (.sl tI)))
noncomputable def S25_1:(DT2×(List DT6)×Int)→St:=fun(x1,x2,x3)=>stC [(4, .ptr 0 0 0),(5, .sl 1 none none),(6,pI x3)] [.B (.cn (pI x1.1) (.cn (pI x1.2.1) (.cn (pI x1.2.2.1) (.cn (pI x1.2.2.2.1) (.cn (pI x1.2.2.2.2.1) (.cn (pI x1.2.2.2.2.2.1) (.cn (pI x1.2.2.2.2.2.2.1) (.cn (pI x1.2.2.2.2.2.2.2.1) (.cn (pI x1.2.2.2.2.2.2.2.2.1) (.cn (pI x1.2.2.2.2.2.2.2.2.2.1) (.cn (.sl 2 none none) (.cn (.sl 3 none none) .e0)))))))))))), .L T6 (x2:List DT6), .L T0 (x1.2.2.2.2.2.2.2.2.2.2.1:List DT0), .L T1 (x1.2.2.2.2.2.2.2.2.2.2.2:List DT1)]
noncomputable def e25 (k:Nat):List (Nat×List Nat×Spec):=[(27,[],p27 k),(41,[],p41 k)]
noncomputable def h25:H:=(hr (hr (hr (.n [.kp [4,5,6]] [] .d .d))))
noncomputable def s25 (k:Nat):SumT (mkE (e25 k)) 0 k (bodyOf Tryz.f25) h25 [.kp [4,5,6]] d25.St S25_1 S25_1 q0:=
 .leaf fun(x1,x2) N R Z=>f41 k (x1.1,x1.2.1,x1.2.2.1,x1.2.2.2.1,x1.2.2.2.2.1,x1.2.2.2.2.2.1) fun x3=>f27 k x1 0 x3 x2 fun x4 x5 x6 x7=>R (x4,x6,x7)
noncomputable def f25 {α:Type} (k:Nat) (x1:DT2) (x2:(List Int)) (K:DT2→(List DT6)→Int→Option α):Option α:=
  (s25 k).F (x1,x2) (fun(x8,x9,x10)=>K x8 x9 x10) (fun(x8,x9,x10)=>K x8 x9 x10) fun z=>nomatch z
noncomputable def o25:(DT2×(List DT6)×Int)→FRes:=fun(x1,x2,x3)=>{ ret:= .tup (.cn (.agg (.cn (pI x1.1) (.cn (pI x1.2.1) (.cn (pI x1.2.2.1) (.cn (pI x1.2.2.2.1) (.cn (pI x1.2.2.2.2.1) (.cn (pI x1.2.2.2.2.2.1) (.cn (pI x1.2.2.2.2.2.2.1) (.cn (pI x1.2.2.2.2.2.2.2.1) (.cn (pI x1.2.2.2.2.2.2.2.2.1) (.cn (pI x1.2.2.2.2.2.2.2.2.2.1) (.cn (.sl 0 none none) (.cn (.sl 1 none none) .e0))))))))))))) (.cn (.sl 2 none none) (.cn (pI x3) .e0))),objs:=[.L T0 (x1.2.2.2.2.2.2.2.2.2.2.1:List DT0), .L T1 (x1.2.2.2.2.2.2.2.2.2.2.2:List DT1), .L T6 (x2:List DT6)] }
noncomputable def p25 (k:Nat):Spec:={ own:=[false,false],run:=fun a o K=>(d25.dec a o).bind fun x=>f25 k x.1 x.2 fun x8 x9 x10=>K (o25 (x8,x9,x10)) }
theorem i25 (k:Nat):Impl Tryz.prog glTab 25 (p25 k):=
  .of w0 (l:=e25 k) ⟨i27 k,i41 k,trivial⟩ (s25 k) (dA_ok (dS_ok T2) (d1_ok (dP_ok (.sl tI)))) _ fun(x8,x9,x10) K=>K (o25 (x8,x9,x10))
noncomputable def S7_1:Bool→St:=fun x1=>stC [(0,pB x1)] []
noncomputable def S7_2:(DT2×(List DT6)×Int)→St:=fun(x1,x2,x3)=>stC [(3, .ptr 0 0 0),(4, .sl 1 none none),(5,pI x3)] [.B (.cn (pI x1.1) (.cn (pI x1.2.1) (.cn (pI x1.2.2.1) (.cn (pI x1.2.2.2.1) (.cn (pI x1.2.2.2.2.1) (.cn (pI x1.2.2.2.2.2.1) (.cn (pI x1.2.2.2.2.2.2.1) (.cn (pI x1.2.2.2.2.2.2.2.1) (.cn (pI x1.2.2.2.2.2.2.2.2.1) (.cn (pI x1.2.2.2.2.2.2.2.2.2.1) (.cn (.sl 2 none none) (.cn (.sl 3 none none) .e0)))))))))))), .L T6 (x2:List DT6), .L T0 (x1.2.2.2.2.2.2.2.2.2.2.1:List DT0), .L T1 (x1.2.2.2.2.2.2.2.2.2.2.2:List DT1)]
noncomputable def e7 (k:Nat):List (Nat×List Nat×Spec):=[(23,[],p23 k),(24,[],p24 k),(25,[],p25 k)]
noncomputable def h7:H:=(hr (hr (hr (.n [] [.kp [3,4,5]] .d (hr (hr (.n [.kp [0]] [] .d .d)))))))
noncomputable def s7 (k:Nat):SumT (mkE (e7 k)) 0 k (bodyOf Tryz.f7) h7 [.kp [0]] d119.St S7_1 S7_1 q0:=
 .pre 4 S7_2 (fun() N R Z=>f23 k (0,0,0,0,1,0) (1,8,1,1) fun x1 x2=>f24 k x1 (1,0,0,0,0,0,0,3,4,0,false) fun x3 x4=>f25 k x3 [] fun x5 x6 x7=>N (x5,x6,x7))
 (.leaf fun(x8,x9,x10) N R Z=>f25 k x8 [] fun x11 x12 x13=>bif x10==0 then(bif x13==0 then(bif ((x9.length:Nat):Int)==1 then(if 0≤(0:Int)∧0<(x9.length:Int)then(bif ((x9.getD 0 zT6).1)==0 then(if 0≤(0:Int)∧0<(x9.length:Int)then(bif ((x9.getD 0 zT6).2.1)==1 then(bif ((x12.length:Nat):Int)==0 then(R (((x11.2.2.2.2.2.2.2.2.2.2.1.length:Nat):Int)==0))else(R false))else(R false))else none)else(R false))else none)else(R false))else(R false))else(R false))
noncomputable def f7 {α:Type} (k:Nat) (K:Bool→Option α):Option α:=
  (s7 k).F () (fun x14=>K x14) (fun x14=>K x14) fun z=>nomatch z
noncomputable def p7 (k:Nat):Spec:={ own:=[],run:=fun a o K=>(d119.dec a o).bind fun x=>f7 k fun x14=>K (o37 x14) }
theorem i7 (k:Nat):Impl Tryz.prog glTab 7 (p7 k):=
  .of w0 (l:=e7 k) ⟨i23 k,i24 k,i25 k,trivial⟩ (s7 k) (dN_ok) _ fun x14 K=>K (o37 x14)
noncomputable def d18:Dec (DT2×Int×(List Int)):=dA (dS T2) (dA (dP tI) (d1 (dP (.sl tI))))
noncomputable def S18_1:(DT2×DT8×Int)→St:=fun(x1,x2,x3)=>stC [(6, .ptr 0 0 0),(7, .ptr 1 0 0),(8,pI x3)] [.B (.cn (pI x1.1) (.cn (pI x1.2.1) (.cn (pI x1.2.2.1) (.cn (pI x1.2.2.2.1) (.cn (pI x1.2.2.2.2.1) (.cn (pI x1.2.2.2.2.2.1) (.cn (pI x1.2.2.2.2.2.2.1) (.cn (pI x1.2.2.2.2.2.2.2.1) (.cn (pI x1.2.2.2.2.2.2.2.2.1) (.cn (pI x1.2.2.2.2.2.2.2.2.2.1) (.cn (.sl 2 none none) (.cn (.sl 3 none none) .e0)))))))))))), .B (.cn (pI x2.1) (.cn (.p (.sl tY) (x2.2.1:List Int)) (.cn (.sl 4 none none) .e0))), .L T0 (x1.2.2.2.2.2.2.2.2.2.2.1:List DT0), .L T1 (x1.2.2.2.2.2.2.2.2.2.2.2:List DT1), .L tI (x2.2.2:List Int)]
noncomputable def S18_2:(Int×(List Int)×DT2×DT2×DT8×DT2)→St:=fun(x1,x2,x3,x4,x5,x6)=>stC [(1,pI x1),(2, .p (.sl tI) (x2:List Int)),(3, .ptr 0 0 0),(6, .ptr 1 0 0),(7, .ptr 2 0 0),(9, .ptr 3 0 0)] [.B (toC T2 x3), .B (.cn (pI x4.1) (.cn (pI x4.2.1) (.cn (pI x4.2.2.1) (.cn (pI x4.2.2.2.1) (.cn (pI x4.2.2.2.2.1) (.cn (pI x4.2.2.2.2.2.1) (.cn (pI x4.2.2.2.2.2.2.1) (.cn (pI x4.2.2.2.2.2.2.2.1) (.cn (pI x4.2.2.2.2.2.2.2.2.1) (.cn (pI x4.2.2.2.2.2.2.2.2.2.1) (.cn (.sl 4 none none) (.cn (.sl 5 none none) .e0)))))))))))), .B (.cn (pI x5.1) (.cn (.sl 6 none none) (.cn (.sl 7 none none) .e0))), .B (.cn (pI x6.1) (.cn (pI x6.2.1) (.cn (pI x6.2.2.1) (.cn (pI x6.2.2.2.1) (.cn (pI x6.2.2.2.2.1) (.cn (pI x6.2.2.2.2.2.1) (.cn (pI x6.2.2.2.2.2.2.1) (.cn (pI x6.2.2.2.2.2.2.2.1) (.cn (pI x6.2.2.2.2.2.2.2.2.1) (.cn (pI x6.2.2.2.2.2.2.2.2.2.1) (.cn (.sl 8 none none) (.cn (.sl 9 none none) .e0)))))))))))), .L T0 (x4.2.2.2.2.2.2.2.2.2.2.1:List DT0), .L T1 (x4.2.2.2.2.2.2.2.2.2.2.2:List DT1), .L tY (x5.2.1:List Int), .L tI (x5.2.2:List Int), .L T0 (x6.2.2.2.2.2.2.2.2.2.2.1:List DT0), .L T1 (x6.2.2.2.2.2.2.2.2.2.2.2:List DT1)]
noncomputable def e18 (k:Nat):List (Nat×List Nat×Spec):=[(39,[],p39 k),(40,[],p40 k),(41,[],p41 k),(42,[],p42 k),(43,[],p43w k)]
noncomputable def h18:H:=(hr (hr (.n [] [.own 6 (some 10) T0, .own 6 (some 11) T1, .own 7 (some 1) tY, .own 7 (some 2) tI, .kp [1,2,3,6,7,9]] (hl (hr (hb (hr (.n [.dat 7 (some 1) tY, .own 7 (some 2) tI, .kp [6,7,8]] [] .d .d)) (hr (hl (hr (.n [.dat 7 (some 1) tY, .own 7 (some 2) tI, .kp [6,7,8]] [] .d .d))))))) (hb (hr (hr (hl (hr (.n [.dat 7 (some 1) tY, .own 7 (some 2) tI, .kp [6,7,8]] [] .d .d))))) (hr (hr (.n [.dat 7 (some 1) tY, .own 7 (some 2) tI, .kp [6,7,8]] [] .d .d)))))))
noncomputable def s18 (k:Nat):SumT (mkE (e18 k)) 0 k (bodyOf Tryz.f18) h18 [.dat 7 (some 1) tY, .own 7 (some 2) tI, .kp [6,7,8]] d18.St S18_1 S18_1 q0:=
 .pre 3 S18_2 (fun(x1,x2,x3) N R Z=>f39 k x1 fun x4=>f40 k x1 fun x5=>bif !x5 then(R (x4,(0,[],[]),1))else(bif decide (x2<0)then(R (x4,(0,[],[]),2))else(f41 k (x1.1,x1.2.1,x1.2.2.1,x1.2.2.2.1,x1.2.2.2.2.1,x1.2.2.2.2.2.1) fun x9=>bif decide (x2≥x9)then(R (x4,(0,[],[]),2))else(N (x2,x3,x1,(0,0,0,0,0,0,0,0,0,0,[],[]),(0,[],[]),x4)))))
 (.leaf fun(x10,x11,x12,x13,x14,x15) N R Z=>f42 k (x12.2.2.2.2.2.2.1,x12.2.2.2.2.2.2.2.1,x12.2.2.2.2.2.2.2.2.1,x12.2.2.2.2.2.2.2.2.2.1) x11 fun x16=>bif x16 !=0 then(R (x15,(0,[],[]),x16))else(f43w k x15 x10 x11 fun x17 x18=>R (x17,x18,0)))
noncomputable def f18 {α:Type} (k:Nat) (x1:DT2) (x2:Int) (x3:(List Int)) (K:DT2→DT8→Int→Option α):Option α:=
  (s18 k).F (x1,x2,x3) (fun(x6,x7,x8)=>K x6 x7 x8) (fun(x6,x7,x8)=>K x6 x7 x8) fun z=>nomatch z
noncomputable def o18:(DT2×DT8×Int)→FRes:=fun(x1,x2,x3)=>{ ret:= .tup (.cn (.agg (.cn (pI x1.1) (.cn (pI x1.2.1) (.cn (pI x1.2.2.1) (.cn (pI x1.2.2.2.1) (.cn (pI x1.2.2.2.2.1) (.cn (pI x1.2.2.2.2.2.1) (.cn (pI x1.2.2.2.2.2.2.1) (.cn (pI x1.2.2.2.2.2.2.2.1) (.cn (pI x1.2.2.2.2.2.2.2.2.1) (.cn (pI x1.2.2.2.2.2.2.2.2.2.1) (.cn (.sl 0 none none) (.cn (.sl 1 none none) .e0))))))))))))) (.cn (.agg (.cn (pI x2.1) (.cn (.p (.sl tY) (x2.2.1:List Int)) (.cn (.sl 2 none none) .e0)))) (.cn (pI x3) .e0))),objs:=[.L T0 (x1.2.2.2.2.2.2.2.2.2.2.1:List DT0), .L T1 (x1.2.2.2.2.2.2.2.2.2.2.2:List DT1), .L tI (x2.2.2:List Int)] }
noncomputable def p18 (k:Nat):Spec:={ own:=[false,false,false],run:=fun a o K=>(d18.dec a o).bind fun x=>f18 k x.1 x.2.1 x.2.2 fun x6 x7 x8=>K (o18 (x6,x7,x8)) }
theorem i18 (k:Nat):Impl Tryz.prog glTab 18 (p18 k):=
  .of w0 (l:=e18 k) ⟨i39 k,i40 k,i41 k,i42 k,i43w k,trivial⟩ (s18 k) (dA_ok (dS_ok T2) (dA_ok (dP_ok tI) (d1_ok (dP_ok (.sl tI))))) _ fun(x6,x7,x8) K=>K (o18 (x6,x7,x8))
noncomputable def S57_1:(DT0×Int)→St:=fun(x1,x2)=>stC [(4, .ptr 0 0 0),(5,pI x2)] [.B (.cn (pI x1.1) (.cn (.sl 1 none none) (.cn (pB x1.2.2) .e0))), .L tY (x1.2.1:List Int)]
noncomputable def e57 (k:Nat):List (Nat×List Nat×Spec):=[(13,[],p13 k),(47,[],p47 k),(51,[],p51 k)]
noncomputable def h57:H:=(hr (hb (hr (hl (hr (.n [.own 4 (some 1) tY, .kp [4,5]] [] .d .d)))) (hb (hr (hl (hr (.n [.own 4 (some 1) tY, .kp [4,5]] [] .d .d)))) (hr (.n [.own 4 (some 1) tY, .kp [4,5]] [] .d .d)))))
noncomputable def s57 (k:Nat):SumT (mkE (e57 k)) 0 k (bodyOf Tryz.f57) h57 [.own 4 (some 1) tY, .kp [4,5]] d51.St S57_1 S57_1 q0:=
 .leaf fun(x1,x2) N R Z=>f47 k x1 fun x3=>bif !x3 then(R ((0,[],false),1))else(bif decide (x2<0)then(R ((0,[],false),2))else(f13 k (x1.1,x1.2.1,x1.2.2.1,x1.2.2.2.1,x1.2.2.2.2.1,x1.2.2.2.2.2.1) fun x6=>bif decide (x2≥x6)then(R ((0,[],false),2))else(f51 k x1 x2 fun x7=>R (x7,0))))
noncomputable def f57 {α:Type} (k:Nat) (x1:DT2) (x2:Int) (K:DT0→Int→Option α):Option α:=
  (s57 k).F (x1,x2) (fun(x4,x5)=>K x4 x5) (fun(x4,x5)=>K x4 x5) fun z=>nomatch z
noncomputable def o57:(DT0×Int)→FRes:=fun(x1,x2)=>{ ret:= .tup (.cn (.agg (.cn (pI x1.1) (.cn (.sl 0 none none) (.cn (pB x1.2.2) .e0)))) (.cn (pI x2) .e0)),objs:=[.L tY (x1.2.1:List Int)] }
noncomputable def p57 (k:Nat):Spec:={ own:=[false,false],run:=fun a o K=>(d51.dec a o).bind fun x=>f57 k x.1 x.2 fun x4 x5=>K (o57 (x4,x5)) }
theorem i57 (k:Nat):Impl Tryz.prog glTab 57 (p57 k):=
  .of w0 (l:=e57 k) ⟨i13 k,i47 k,i51 k,trivial⟩ (s57 k) (dA_ok (dS_ok T2) (d1_ok (dP_ok tI))) _ fun(x4,x5) K=>K (o57 (x4,x5))
noncomputable def S88_2:(DT2×DT0×DT0×DT4×Int)→St:=fun(x1,x2,x3,x4,x5)=>stC [(2, .ptr 0 0 0),(4, .ptr 1 0 0),(5, .ptr 2 0 0),(6, .ptr 3 0 0),(8,pI x5)] [.B (toC T2 x1), .B (.cn (pI x2.1) (.cn (.sl 4 none none) (.cn (pB x2.2.2) .e0))), .B (.cn (pI x3.1) (.cn (.sl 5 none none) (.cn (pB x3.2.2) .e0))), .B (toC T4 x4), .L tY (x2.2.1:List Int), .L tY (x3.2.1:List Int)]
noncomputable def S88_5:(DT2×DT0×DT0×DT4)→St:=fun(x1,x2,x3,x4)=>stC [(2, .ptr 0 0 0),(4, .ptr 1 0 0),(5, .ptr 2 0 0),(6, .ptr 3 0 0)] [.B (toC T2 x1), .B (.cn (pI x2.1) (.cn (.sl 4 none none) (.cn (pB x2.2.2) .e0))), .B (.cn (pI x3.1) (.cn (.sl 5 none none) (.cn (pB x3.2.2) .e0))), .B (toC T4 x4), .L tY (x2.2.1:List Int), .L tY (x3.2.1:List Int)]
noncomputable def e88 (k:Nat):List (Nat×List Nat×Spec):=[(51,[],p51 k),(83,[],p83 k),(84,[],p84 k)]
noncomputable def h88:H:=(hr (hr (.n [] [.own 4 (some 1) tY, .kp [2,4,5,6]] .d (.n [] [.kp [4,5]] (.n [] [.kp [2,4,5,6,8]] .d (.n [] [.kp [4,5]] (.n [.kp [2,4,5,6,8]] [.kp [2,4,5,6,8]] (hl (hr (hr (.n [.kp [4,5]] [] .d .d)))) .d) .d)) (hr (.n [.kp [4]] [] .d .d))))))
noncomputable def s88 (k:Nat):SumT (mkE (e88 k)) 0 k (bodyOf Tryz.f88) h88 [.kp [4]] d51.St S51_1 S51_1 q0:=
 .pre 3 S88_5 (fun(x1,x2) N R Z=>f51 k x1 x2 fun x3=>f83 k (x1.1,x1.2.1,x1.2.2.1,x1.2.2.2.1,x1.2.2.2.2.1,x1.2.2.2.2.2.1) x2 fun x4 x5=>N (x1,(0,[],false),x3,x4))
 (.seq S76_4
 (.pre 1 S88_2 (fun(x6,x7,x8,x9) N R Z=>N (x6,x7,x8,x9,0))
  (.blockP (.loop S88_2 (fun x=>x)
  (.leaf fun(x15,x16,x17,x18,x19) N R Z=>bif decide (x19<(x15.2.2.2.2.2.2.2.2.2.2.2.length:Int))then(if 0≤x19∧x19<(x15.2.2.2.2.2.2.2.2.2.2.2.length:Int)then(f84 k (x15.2.2.2.2.2.2.2.2.2.2.2.getD (x19.toNat) zT1) x18 fun x20=>bif x20 then(if 0≤(x15.2.2.2.2.2.2.2.2.2.2.2.getD (x19.toNat) zT1).2.2.2.2.2.2.2.1∧(x15.2.2.2.2.2.2.2.2.2.2.2.getD (x19.toNat) zT1).2.2.2.2.2.2.2.1<(x17.2.1.length:Int)then(if 0≤(x15.2.2.2.2.2.2.2.2.2.2.2.getD (x19.toNat) zT1).2.2.2.2.2.2.2.1∧(x15.2.2.2.2.2.2.2.2.2.2.2.getD (x19.toNat) zT1).2.2.2.2.2.2.2.1<(x17.2.1.length:Int)then(N (x15,x16,(x17.1,x17.2.1.set (((x15.2.2.2.2.2.2.2.2.2.2.2.getD (x19.toNat) zT1).2.2.2.2.2.2.2.1).toNat) (bitI .or .u8 (bitI .andNot .u8 (x17.2.1.getD (((x15.2.2.2.2.2.2.2.2.2.2.2.getD (x19.toNat) zT1).2.2.2.2.2.2.2.1).toNat) (0:Int)) ((x15.2.2.2.2.2.2.2.2.2.2.2.getD (x19.toNat) zT1).2.2.2.2.2.2.2.2.1)) ((x15.2.2.2.2.2.2.2.2.2.2.2.getD (x19.toNat) zT1).2.2.2.2.2.2.2.2.2.1)),x17.2.2),x18,w64 (x19+1)))else none)else none)else(N (x15,x16,x17,x18,w64 (x19+1))))else none)else(Z (.inl (x16,x17)))))))
 (.leaf fun(x21,x22) N R Z=>R x22))
noncomputable def f88 {α:Type} (k:Nat) (x1:DT2) (x2:Int) (K:DT0→Option α):Option α:=
  (s88 k).F (x1,x2) (fun x23=>K x23) (fun x23=>K x23) fun z=>nomatch z
noncomputable def p88 (k:Nat):Spec:={ own:=[false,false],run:=fun a o K=>(d51.dec a o).bind fun x=>f88 k x.1 x.2 fun x23=>K (o51 x23) }
theorem i88 (k:Nat):Impl Tryz.prog glTab 88 (p88 k):=
  .of w0 (l:=e88 k) ⟨i51 k,i83 k,i84 k,trivial⟩ (s88 k) (dA_ok (dS_ok T2) (d1_ok (dP_ok tI))) _ fun x23 K=>K (o51 x23)
noncomputable def e85 (k:Nat):List (Nat×List Nat×Spec):=[(57,[],p57 k),(88,[],p88 k)]
noncomputable def h85:H:=(hr (hb (hr (hr (hl (hr (.n [.own 4 (some 1) tY, .kp [4,5]] [] .d .d))))) (hr (.n [.own 4 (some 1) tY, .kp [4,5]] [] .d .d))))
noncomputable def s85 (k:Nat):SumT (mkE (e85 k)) 0 k (bodyOf Tryz.f85) h85 [.own 4 (some 1) tY, .kp [4,5]] d51.St S57_1 S57_1 q0:=
 .leaf fun(x1,x2) N R Z=>f57 k x1 x2 fun x3 x4=>bif x4 !=0 then(R ((0,[],false),x4))else(f88 k x1 x2 fun x7=>R (x7,0))
noncomputable def f85 {α:Type} (k:Nat) (x1:DT2) (x2:Int) (K:DT0→Int→Option α):Option α:=
  (s85 k).F (x1,x2) (fun(x5,x6)=>K x5 x6) (fun(x5,x6)=>K x5 x6) fun z=>nomatch z
noncomputable def p85 (k:Nat):Spec:={ own:=[false,false],run:=fun a o K=>(d51.dec a o).bind fun x=>f85 k x.1 x.2 fun x5 x6=>K (o57 (x5,x6)) }
theorem i85 (k:Nat):Impl Tryz.prog glTab 85 (p85 k):=
  .of w0 (l:=e85 k) ⟨i57 k,i88 k,trivial⟩ (s85 k) (dA_ok (dS_ok T2) (d1_ok (dP_ok tI))) _ fun(x5,x6) K=>K (o57 (x5,x6))
noncomputable def S86_2:((List Int)×DT5×Int×Int)→St:=fun(x1,x2,x3,x4)=>stC [(1, .p (.sl tI) (x1:List Int)),(2, .ptr 0 0 0),(5,pI x3),(6,pI x4)] [.B (toC T5 x2)]
noncomputable def S86_4:((List Int)×DT5×Int)→St:=fun(x1,x2,x3)=>stC [(1, .p (.sl tI) (x1:List Int)),(2, .ptr 0 0 0),(7,pI x3)] [.B (toC T5 x2)]
noncomputable def S86_6:((List Int)×DT5)→St:=fun(x1,x2)=>stC [(1, .p (.sl tI) (x1:List Int)),(2, .ptr 0 0 0)] [.B (toC T5 x2)]
noncomputable def S86_8:((List Int)×DT5×Int)→St:=fun(x1,x2,x3)=>stC [(1, .p (.sl tI) (x1:List Int)),(2, .ptr 0 0 0),(5,pI x3)] [.B (toC T5 x2)]
noncomputable def e86 (k:Nat):List (Nat×List Nat×Spec):=[]
noncomputable def h86:H:=(hr (.n [] [.kp [1,2,5]] .d (.n [] [.kp [1,2]] (.n [] [.kp [1,2,5,6]] .d (.n [] [.kp [1,2]] (.n [.kp [1,2,5,6]] [.kp [1,2,5,6]] (hb (hr (hr (.n [.kp [1,2]] [] .d .d))) (hl (hl (hr (hl (hr (.n [.kp [4]] [] .d .d))))))) .d) .d)) (.n [] [.kp [1,2]] (.n [] [.kp [1,2,7]] .d (.n [] [.kp [1,2]] (.n [.kp [1,2,7]] [.kp [1,2,7]] (hb (hr (hr (.n [.kp [1,2]] [] .d .d))) (hl (hl (hr (hl (hr (.n [.kp [4]] [] .d .d))))))) .d) .d)) (hb (hr (hl (hr (.n [.kp [4]] [] .d .d)))) (hr (.n [.kp [4]] [] .d .d)))))))
noncomputable def s86 (k:Nat):SumT (mkE (e86 k)) 0 k (bodyOf Tryz.f86) h86 [.kp [4]] d42.St S37_4 S37_4 q0:=
 .pre 2 S86_8 (fun(x1,x2) N R Z=>N (x2,x1,w64 (x1.2.1+x1.2.2.1)))
 (.seq S86_6
 (.pre 1 S86_2 (fun(x3,x4,x5) N R Z=>N (x3,x4,x5,0))
  (.blockP (.loop S86_2 (fun x=>x)
  (.leaf fun(x10,x11,x12,x13) N R Z=>bif decide (x13<(x10.length:Int))then(if 0≤x13∧x13<(x10.length:Int)then(bif decide (x10.getD (x13.toNat) (0:Int)<0)then(R 2)else(if 0≤x13∧x13<(x10.length:Int)then(bif decide (x10.getD (x13.toNat) (0:Int)≥x12)then(R 2)else(N (x10,x11,x12,w64 (x13+1))))else none))else none)else(Z (.inl (x10,x11)))))))
 (.seq S86_6
 (.pre 1 S86_4 (fun(x15,x16) N R Z=>N (x15,x16,1))
  (.blockP (.loop S86_4 (fun x=>x)
  (.leaf fun(x20,x21,x22) N R Z=>bif decide (x22<(x20.length:Int))then(if 0≤x22∧x22<(x20.length:Int)then(if 0≤w64 (x22-1)∧w64 (x22-1)<(x20.length:Int)then(bif decide (x20.getD (x22.toNat) (0:Int)≤x20.getD ((w64 (x22-1)).toNat) (0:Int))then(R 17)else(N (x20,x21,w64 (x22+1))))else none)else none)else(Z (.inl (x20,x21)))))))
 (.leaf fun(x23,x24) N R Z=>bif decide ((x23.length:Int)>x24.2.2.1)then(R 3)else(bif x24.1==1 then(bif decide ((x23.length:Int)>0)then(R 3)else(R 0))else(R 0)))))
noncomputable def f86 {α:Type} (k:Nat) (x1:DT5) (x2:(List Int)) (K:Int→Option α):Option α:=
  (s86 k).F (x1,x2) (fun x14=>K x14) (fun x14=>K x14) fun z=>nomatch z
noncomputable def p86 (k:Nat):Spec:={ own:=[false,false],run:=fun a o K=>(d42.dec a o).bind fun x=>f86 k x.1 x.2 fun x14=>K (o16 x14) }
theorem i86 (k:Nat):Impl Tryz.prog glTab 86 (p86 k):=
  .of w0 (l:=e86 k) trivial (s86 k) (dA_ok (dS_ok T5) (d1_ok (dP_ok (.sl tI)))) _ fun x14 K=>K (o16 x14)
noncomputable def e106 (k:Nat):List (Nat×List Nat×Spec):=[(78,[],p78 k)]
noncomputable def h106:H:=(hr (hr (.n [.kp [2]] [] .d .d)))
noncomputable def s106 (k:Nat):SumT (mkE (e106 k)) 0 k (bodyOf Tryz.f106) h106 [.kp [2]] d78.St S37_1 S37_1 q0:=
 .leaf fun x1 N R Z=>bif x1.1==2 then(f78 k x1 fun x2=>R x2)else(R false)
noncomputable def f106 {α:Type} (k:Nat) (x1:DT5) (K:Bool→Option α):Option α:=
  (s106 k).F x1 (fun x3=>K x3) (fun x3=>K x3) fun z=>nomatch z
noncomputable def p106 (k:Nat):Spec:={ own:=[false],run:=fun a o K=>(d78.dec a o).bind fun x=>f106 k x fun x3=>K (o37 x3) }
theorem i106 (k:Nat):Impl Tryz.prog glTab 106 (p106 k):=
  .of w0 (l:=e106 k) ⟨i78 k,trivial⟩ (s106 k) (d1_ok (dS_ok T5)) _ fun x3 K=>K (o37 x3)
noncomputable def S159_2:((List Int)×DT5×Int×Int)→St:=fun(x1,x2,x3,x4)=>stC [(2, .p (.sl tI) (x1:List Int)),(3, .ptr 0 0 0),(7,pI x3),(8,pI x4)] [.B (toC T5 x2)]
noncomputable def S159_4:((List Int)×DT5×Int)→St:=fun(x1,x2,x3)=>stC [(2, .p (.sl tI) (x1:List Int)),(3, .ptr 0 0 0),(9,pI x3)] [.B (toC T5 x2)]
noncomputable def S159_6:((List Int)×DT5)→St:=fun(x1,x2)=>stC [(2, .p (.sl tI) (x1:List Int)),(3, .ptr 0 0 0)] [.B (toC T5 x2)]
noncomputable def S159_8:((List Int)×DT5×Int)→St:=fun(x1,x2,x3)=>stC [(2, .p (.sl tI) (x1:List Int)),(3, .ptr 0 0 0),(7,pI x3)] [.B (toC T5 x2)]
noncomputable def e159 (k:Nat):List (Nat×List Nat×Spec):=[(106,[],p106 k)]
noncomputable def h159:H:=(hr (hr (hb (hr (hl (hr (.n [.kp [6]] [] .d .d)))) (.n [] [.kp [2,3,7]] (hr (hl (hr (.n [.kp [6]] [] .d .d)))) (.n [] [.kp [2,3]] (.n [] [.kp [2,3,7,8]] .d (.n [] [.kp [2,3]] (.n [.kp [2,3,7,8]] [.kp [2,3,7,8]] (hb (hr (hr (.n [.kp [2,3]] [] .d .d))) (hl (hl (hr (hl (hr (.n [.kp [6]] [] .d .d))))))) .d) .d)) (.n [] [.kp [2,3]] (.n [] [.kp [2,3,9]] .d (.n [] [.kp [2,3]] (.n [.kp [2,3,9]] [.kp [2,3,9]] (hb (hr (hr (.n [.kp [2,3]] [] .d .d))) (hl (hl (hr (hl (hr (.n [.kp [6]] [] .d .d))))))) .d) .d)) (hb (hr (hl (hr (.n [.kp [6]] [] .d .d)))) (hr (.n [.kp [6]] [] .d .d)))))))))
noncomputable def s159 (k:Nat):SumT (mkE (e159 k)) 0 k (bodyOf Tryz.f159) h159 [.kp [6]] d104.St S123_1 S123_1 q0:=
 .pre 4 S159_8 (fun(x1,x2,x3) N R Z=>f106 k x1 fun x4=>bif !x4 then(R 1)else(bif (x2.length:Int) !=(w64 (x1.2.1+x1.2.2.1))then(R 7)else(N (x3,x1,w64 (x1.2.1+x1.2.2.1)))))
 (.seq S159_6
 (.pre 1 S159_2 (fun(x6,x7,x8) N R Z=>N (x6,x7,x8,0))
  (.blockP (.loop S159_2 (fun x=>x)
  (.leaf fun(x13,x14,x15,x16) N R Z=>bif decide (x16<(x13.length:Int))then(if 0≤x16∧x16<(x13.length:Int)then(bif decide (x13.getD (x16.toNat) (0:Int)<0)then(R 2)else(if 0≤x16∧x16<(x13.length:Int)then(bif decide (x13.getD (x16.toNat) (0:Int)≥x15)then(R 2)else(N (x13,x14,x15,w64 (x16+1))))else none))else none)else(Z (.inl (x13,x14)))))))
 (.seq S159_6
 (.pre 1 S159_4 (fun(x17,x18) N R Z=>N (x17,x18,1))
  (.blockP (.loop S159_4 (fun x=>x)
  (.leaf fun(x22,x23,x24) N R Z=>bif decide (x24<(x22.length:Int))then(if 0≤x24∧x24<(x22.length:Int)then(if 0≤w64 (x24-1)∧w64 (x24-1)<(x22.length:Int)then(bif decide (x22.getD (x24.toNat) (0:Int)≤x22.getD ((w64 (x24-1)).toNat) (0:Int))then(R 17)else(N (x22,x23,w64 (x24+1))))else none)else none)else(Z (.inl (x22,x23)))))))
 (.leaf fun(x25,x26) N R Z=>bif decide ((x25.length:Int)>x26.2.2.1)then(R 3)else(R 0))))
noncomputable def f159 {α:Type} (k:Nat) (x1:DT5) (x2:(List Int)) (x3:(List Int)) (K:Int→Option α):Option α:=
  (s159 k).F (x1,x2,x3) (fun x5=>K x5) (fun x5=>K x5) fun z=>nomatch z
noncomputable def p159 (k:Nat):Spec:={ own:=[false,false,false],run:=fun a o K=>(d104.dec a o).bind fun x=>f159 k x.1 x.2.1 x.2.2 fun x5=>K (o16 x5) }
theorem i159 (k:Nat):Impl Tryz.prog glTab 159 (p159 k):=
  .of w0 (l:=e159 k) ⟨i106 k,trivial⟩ (s159 k) (dA_ok (dS_ok T5) (dA_ok (dP_ok (.sl tY)) (d1_ok (dP_ok (.sl tI))))) _ fun x5 K=>K (o16 x5)
noncomputable def S131_2:(Int×Int×Int×Int)→St:=fun(x1,x2,x3,x4)=>stC [(1,pY x1),(5,pI x2),(6,pI x3),(7,pI x4)] []
noncomputable def S131_4:Int→St:=fun x1=>stC [(5,pI x1)] []
noncomputable def S131_5:(Int×Int×Int)→St:=fun(x1,x2,x3)=>stC [(1,pY x1),(5,pI x2),(6,pI x3)] []
noncomputable def e131 (k:Nat):List (Nat×List Nat×Spec):=[]
noncomputable def h131:H:=(hr (hr (.n [] [.kp [1,5,6]] .d (.n [] [.kp [5]] (.n [] [.kp [1,5,6,7]] .d (.n [] [.kp [5]] (.n [.kp [1,5,6,7]] [.kp [1,5,6,7]] (hl (hr (hr (.n [.kp [5]] [] .d .d)))) .d) .d)) (hr (.n [.kp [4]] [] .d .d))))))
noncomputable def s131 (k:Nat):SumT (mkE (e131 k)) 0 k (bodyOf Tryz.f131) h131 [.kp [4]] d146.St S146_1 S146_1 q0:=
 .pre 3 S131_5 (fun(x1,x2) N R Z=>N (x2,0,w64 x1))
 (.seq S131_4
 (.pre 1 S131_2 (fun(x3,x4,x5) N R Z=>N (x3,x4,x5,0))
  (.blockP (.loop S131_2 (fun x=>x)
  (.leaf fun(x10,x11,x12,x13) N R Z=>bif decide (x13<8)then(if 0≤wu64 x13 then(bif (bitI .and .u8 (Int.fdiv x10 (2^(min (wu64 x13).toNat 8))) 1)==1 then(bif decide (w64 (x12*2^1)≥256)then(N (x10,bitI .xor .i64 x11 x12,bitI .xor .i64 (w64 (x12*2^1)) 285,w64 (x13+1)))else(N (x10,bitI .xor .i64 x11 x12,w64 (x12*2^1),w64 (x13+1))))else(bif decide (w64 (x12*2^1)≥256)then(N (x10,x11,bitI .xor .i64 (w64 (x12*2^1)) 285,w64 (x13+1)))else(N (x10,x11,w64 (x12*2^1),w64 (x13+1)))))else none)else(Z (.inl x11))))))
 (.leaf fun x14 N R Z=>R (w8 x14)))
noncomputable def f131 {α:Type} (k:Nat) (x1:Int) (x2:Int) (K:Int→Option α):Option α:=
  (s131 k).F (x1,x2) (fun x15=>K x15) (fun x15=>K x15) fun z=>nomatch z
noncomputable def p131 (k:Nat):Spec:={ own:=[false,false],run:=fun a o K=>(d146.dec a o).bind fun x=>f131 k x.1 x.2 fun x15=>K (o175 x15) }
theorem i131 (k:Nat):Impl Tryz.prog glTab 131 (p131 k):=
  .of w0 (l:=e131 k) trivial (s131 k) (dA_ok (dP_ok tY) (d1_ok (dP_ok tY))) _ fun x15 K=>K (o175 x15)
noncomputable def S132_2:(Int×Int×Int)→St:=fun(x1,x2,x3)=>stC [(0,pY x1),(1,pI x2),(6,pY x3)] []
noncomputable def S132_3:Int→St:=fun x1=>stC [(6,pY x1)] []
noncomputable def e132 (k:Nat):List (Nat×List Nat×Spec):=[(131,[],p131 k)]
noncomputable def h132:H:=(hr (hb (hr (hl (hb (hr (hl (hr (.n [.kp [4,5]] [] .d .d)))) (hb (hr (hl (hr (.n [.kp [4,5]] [] .d .d)))) (hr (.n [.kp [4,5]] [] .d .d)))))) (hr (hr (.n [] [.kp [0,1,6]] .d (hb (.n [] [.kp [6]] (.n [.kp [0,1,6]] [.kp [0,1,6]] (hl (hr (hr (.n [.kp [6]] [] .d .d)))) .d) .d) (hr (.n [.kp [4,5]] [] .d .d))))))))
noncomputable def s132 (k:Nat):SumT (mkE (e132 k)) 0 k (bodyOf Tryz.f132) h132 [.kp [4,5]] d173.St S176_1 S176_1 q0:=
 .pre 5 S132_2 (fun(x1,x2) N R Z=>bif x1==0 then(bif decide (x2<0)then(R (0,4))else(bif x2==0 then(R (1,0))else(R (0,0))))else(bif decide (Int.tmod x2 255<0)then(N (x1,w64 ((Int.tmod x2 255)+255),1))else(N (x1,Int.tmod x2 255,1))))
 (.seq S132_3
 (.block (.loop S132_2 (fun x=>x)
  (.leaf fun(x8,x9,x10) N R Z=>bif decide (x9>0)then(f131 k x10 x8 fun x11=>N (x8,w64 (x9-1),x11))else(Z (.inl x10)))))
 (.leaf fun x12 N R Z=>R (x12,0)))
noncomputable def f132 {α:Type} (k:Nat) (x1:Int) (x2:Int) (K:Int→Int→Option α):Option α:=
  (s132 k).F (x1,x2) (fun(x3,x4)=>K x3 x4) (fun(x3,x4)=>K x3 x4) fun z=>nomatch z
noncomputable def p132 (k:Nat):Spec:={ own:=[false,false],run:=fun a o K=>(d173.dec a o).bind fun x=>f132 k x.1 x.2 fun x3 x4=>K (o151 (x3,x4)) }
theorem i132 (k:Nat):Impl Tryz.prog glTab 132 (p132 k):=
  .of w0 (l:=e132 k) ⟨i131 k,trivial⟩ (s132 k) (dA_ok (dP_ok tY) (d1_ok (dP_ok tI))) _ fun(x3,x4) K=>K (o151 (x3,x4))
noncomputable def e108 (k:Nat):List (Nat×List Nat×Spec):=[(132,[],p132 k)]
noncomputable def h108:H:=(hr (hr (hr (.n [.kp [2]] [] .d .d))))
noncomputable def s108 (k:Nat):SumT (mkE (e108 k)) 0 k (bodyOf Tryz.f108) h108 [.kp [2]] d80.St S175_1 S175_1 q0:=
 .leaf fun x1 N R Z=>f132 k 2 x1 fun x2 x3=>R x2
noncomputable def f108 {α:Type} (k:Nat) (x1:Int) (K:Int→Option α):Option α:=
  (s108 k).F x1 (fun x4=>K x4) (fun x4=>K x4) fun z=>nomatch z
noncomputable def p108 (k:Nat):Spec:={ own:=[false],run:=fun a o K=>(d80.dec a o).bind fun x=>f108 k x fun x4=>K (o175 x4) }
theorem i108 (k:Nat):Impl Tryz.prog glTab 108 (p108 k):=
  .of w0 (l:=e108 k) ⟨i132 k,trivial⟩ (s108 k) (d1_ok (dP_ok tI)) _ fun x4 K=>K (o175 x4)
noncomputable def S160_2:((List Int)×DT5×(List Int)×Int×Int×Int×Int)→St:=fun(x1,x2,x3,x4,x5,x6,x7)=>stC [(1, .p (.sl tY) (x1:List Int)),(2, .ptr 0 0 0),(6, .sl 1 none none),(7,pI x4),(8,pY x5),(9,pY x6),(10,pI x7)] [.B (toC T5 x2), .L tY (x3:List Int)]
noncomputable def S160_4:((List Int)×DT5×(List Int)×Int×Int)→St:=fun(x1,x2,x3,x4,x5)=>stC [(1, .p (.sl tY) (x1:List Int)),(2, .ptr 0 0 0),(6, .sl 1 none none),(7,pI x4),(9,pY x5)] [.B (toC T5 x2), .L tY (x3:List Int)]
noncomputable def S160_5:((List Int)×DT5×(List Int)×Int×Int×Int)→St:=fun(x1,x2,x3,x4,x5,x6)=>stC [(1, .p (.sl tY) (x1:List Int)),(2, .ptr 0 0 0),(6, .sl 1 none none),(7,pI x4),(8,pY x5),(9,pY x6)] [.B (toC T5 x2), .L tY (x3:List Int)]
noncomputable def S160_6:((List Int)×DT5×(List Int)×Int)→St:=fun(x1,x2,x3,x4)=>stC [(1, .p (.sl tY) (x1:List Int)),(2, .ptr 0 0 0),(6, .sl 1 none none),(7,pI x4)] [.B (toC T5 x2), .L tY (x3:List Int)]
noncomputable def S160_11:((List Int)×DT5×(List Int))→St:=fun(x1,x2,x3)=>stC [(1, .p (.sl tY) (x1:List Int)),(2, .ptr 0 0 0),(6, .sl 1 none none)] [.B (toC T5 x2), .L tY (x3:List Int)]
noncomputable def e160 (k:Nat):List (Nat×List Nat×Spec):=[(106,[],p106 k),(108,[],p108 k),(131,[],p131 k)]
noncomputable def h160:H:=(hr (hb (hr (hl (hr (.n [.own 4 none tY, .kp [4,5]] [] .d .d)))) (hb (hr (hl (hr (.n [.own 4 none tY, .kp [4,5]] [] .d .d)))) (.n [] [.own 6 none tY, .kp [1,2,6]] .d (.n [] [.kp [6]] (.n [] [.kp [1,2,6,7]] .d (.n [] [.kp [6]] (.n [.kp [1,2,6,7]] [.kp [1,2,6,7]] (.n [] [.kp [1,2,6,7]] (hr (hr (.n [.kp [6]] [] .d .d))) (hl (.n [] [.kp [1,2,6,7]] (hr (.n [] [.kp [1,2,6,7,8,9]] .d (.n [] [.kp [1,2,6,7,9]] (.n [] [.kp [1,2,6,7,8,9,10]] .d (.n [] [.kp [1,2,6,7,9]] (.n [.kp [1,2,6,7,8,9,10]] [.kp [1,2,6,7,8,9,10]] (hl (hr (hr (.n [.kp [1,2,6,7,9]] [] .d .d)))) .d) .d)) .d))) .d))) .d) .d)) (hr (.n [.own 4 none tY, .kp [4,5]] [] .d .d)))))))
noncomputable def s160 (k:Nat):SumT (mkE (e160 k)) 0 k (bodyOf Tryz.f160) h160 [.own 4 none tY, .kp [4,5]] d113.St S168_1 S168_1 q0:=
 .pre 4 S160_11 (fun(x1,x2) N R Z=>f106 k x1 fun x3=>bif !x3 then(R ([],1))else(bif (x2.length:Int) !=(w64 (x1.2.1+x1.2.2.1))then(R ([],7))else(N (x2,x1,[]))))
 (.seq S168_5
 (.pre 1 S160_6 (fun(x6,x7,x8) N R Z=>N (x6,x7,x8,0))
  (.blockP (.loop S160_6 (fun x=>x)
  (.pre 1 S160_6 (fun(x13,x14,x15,x16) N R Z=>bif decide (x16<x14.2.2.1)then(N (x13,x14,x15,x16))else(Z (.inl x15)))
  (.seq S160_6
  (.block (.pre 2 S160_5 (fun(x17,x18,x19,x20) N R Z=>f108 k x20 fun x22=>N (x17,x18,x19,x20,x22,0))
   (.seq S160_4
   (.pre 1 S160_2 (fun(x23,x24,x25,x26,x27,x28) N R Z=>N (x23,x24,x25,x26,x27,x28,0))
    (.blockP (.loop S160_2 (fun x=>x)
    (.leaf fun(x36,x37,x38,x39,x40,x41,x42) N R Z=>bif decide (x42<(x36.length:Int))then(f131 k x41 x40 fun x43=>if 0≤x42∧x42<(x36.length:Int)then(N (x36,x37,x38,x39,x40,bitI .xor .u8 x43 (x36.getD (x42.toNat) (0:Int)),w64 (x42+1)))else none)else(Z (.inl (x36,x37,x38,x39,x41)))))))
   (.leaf fun(x44,x45,x46,x47,x48) N R Z=>if(x46.length+[x48].length)*1≤room then(N (x44,x45,x46++[x48],x47))else none))))
  (.leaf fun(x49,x50,x51,x52) N R Z=>N (x49,x50,x51,w64 (x52+1))))))))
 (.leaf fun x21 N R Z=>R (x21,0)))
noncomputable def f160 {α:Type} (k:Nat) (x1:DT5) (x2:(List Int)) (K:(List Int)→Int→Option α):Option α:=
  (s160 k).F (x1,x2) (fun(x4,x5)=>K x4 x5) (fun(x4,x5)=>K x4 x5) fun z=>nomatch z
noncomputable def p160 (k:Nat):Spec:={ own:=[false,false],run:=fun a o K=>(d113.dec a o).bind fun x=>f160 k x.1 x.2 fun x4 x5=>K (o168 (x4,x5)) }
theorem i160 (k:Nat):Impl Tryz.prog glTab 160 (p160 k):=
  .of w0 (l:=e160 k) ⟨i106 k,i108 k,i131 k,trivial⟩ (s160 k) (dA_ok (dS_ok T5) (d1_ok (dP_ok (.sl tY)))) _ fun(x4,x5) K=>K (o168 (x4,x5))
noncomputable def S133_2:(Int×Int×Int)→St:=fun(x1,x2,x3)=>stC [(0,pY x1),(4,pY x2),(5,pI x3)] []
noncomputable def S133_5:(Int×Int)→St:=fun(x1,x2)=>stC [(0,pY x1),(4,pY x2)] []
noncomputable def e133 (k:Nat):List (Nat×List Nat×Spec):=[(131,[],p131 k)]
noncomputable def h133:H:=(hr (hb (hr (hl (hr (.n [.kp [2,3]] [] .d .d)))) (.n [] [.kp [0,4]] .d (.n [] [.kp [4]] (.n [] [.kp [0,4,5]] .d (.n [] [.kp [4]] (.n [.kp [0,4,5]] [.kp [0,4,5]] (hl (hr (hr (.n [.kp [4]] [] .d .d)))) .d) .d)) (hr (.n [.kp [2,3]] [] .d .d))))))
noncomputable def s133 (k:Nat):SumT (mkE (e133 k)) 0 k (bodyOf Tryz.f133) h133 [.kp [2,3]] d175.St S151_1 S151_1 q0:=
 .pre 3 S133_5 (fun x1 N R Z=>bif x1==0 then(R (0,4))else(N (x1,1)))
 (.seq S146_1
 (.pre 1 S133_2 (fun(x4,x5) N R Z=>N (x4,x5,0))
  (.blockP (.loop S133_2 (fun x=>x)
  (.leaf fun(x9,x10,x11) N R Z=>bif decide (x11<254)then(f131 k x10 x9 fun x12=>N (x9,x12,w64 (x11+1)))else(Z (.inl x10))))))
 (.leaf fun x13 N R Z=>R (x13,0)))
noncomputable def f133 {α:Type} (k:Nat) (x1:Int) (K:Int→Int→Option α):Option α:=
  (s133 k).F x1 (fun(x2,x3)=>K x2 x3) (fun(x2,x3)=>K x2 x3) fun z=>nomatch z
noncomputable def p133 (k:Nat):Spec:={ own:=[false],run:=fun a o K=>(d175.dec a o).bind fun x=>f133 k x fun x2 x3=>K (o151 (x2,x3)) }
theorem i133 (k:Nat):Impl Tryz.prog glTab 133 (p133 k):=
  .of w0 (l:=e133 k) ⟨i131 k,trivial⟩ (s133 k) (d1_ok (dP_ok tY)) _ fun(x2,x3) K=>K (o151 (x2,x3))
noncomputable def d181w:Dec ((List (List Int))×Int):=dA (dNR tY) (d1 (dP tI))
noncomputable def S181w_1:((List (List Int))×(List Int)×Bool)→St:=fun(x1,x2,x3)=>stC [(0, .sl 0 none none),(4, .sl 1 none none),(5,pB x3)] [.N tY none (x1:List (List Int)) 0 none, .L tY (x2:List Int)]
noncomputable def S181w_2:((List (List Int))×Int×Int×Int×Int)→St:=fun(x1,x2,x3,x4,x5)=>stC [(0, .sl 0 none none),(1,pI x2),(6,pI x3),(7,pI x4),(8,pI x5)] [.N tY none (x1:List (List Int)) 0 none]
noncomputable def S181w_3:((List (List Int))×Int×Int×Int×Int×Int)→St:=fun(x1,x2,x3,x4,x5,x6)=>stC [(0, .sl 0 none none),(1,pI x2),(6,pI x3),(7,pI x4),(9,pY x5),(11,pI x6)] [.N tY none (x1:List (List Int)) 0 none]
noncomputable def S181w_5:((List (List Int))×Int×Int×Int×Int×Int×Int)→St:=fun(x1,x2,x3,x4,x5,x6,x7)=>stC [(0, .sl 0 none none),(1,pI x2),(6,pI x3),(7,pI x4),(12,pI x5),(13,pY x6),(14,pI x7)] [.N tY none (x1:List (List Int)) 0 none]
noncomputable def S181w_7:((List (List Int))×Int×Int×Int×Int)→St:=fun(x1,x2,x3,x4,x5)=>stC [(0, .sl 0 none none),(1,pI x2),(6,pI x3),(7,pI x4),(12,pI x5)] [.N tY none (x1:List (List Int)) 0 none]
noncomputable def S181w_11:((List (List Int))×Int×Int×Int)→St:=fun(x1,x2,x3,x4)=>stC [(0, .sl 0 none none),(1,pI x2),(6,pI x3),(7,pI x4)] [.N tY none (x1:List (List Int)) 0 none]
noncomputable def S181w_13:((List (List Int))×Int×Int×Int×Int)→St:=fun(x1,x2,x3,x4,x5)=>stC [(0, .sl 0 none none),(1,pI x2),(6,pI x3),(7,pI x4),(9,pY x5)] [.N tY none (x1:List (List Int)) 0 none]
noncomputable def S181w_20:((List (List Int))×Int×(List Int)×Int)→St:=fun(x1,x2,x3,x4)=>stC [(0, .sl 0 none none),(1,pI x2),(15, .sl 1 none none),(16,pI x4)] [.N tY none (x1:List (List Int)) 0 none, .L tY (x3:List Int)]
noncomputable def S181w_22:((List (List Int))×Int×(List Int)×Int)→St:=fun(x1,x2,x3,x4)=>stC [(0, .sl 0 none none),(1,pI x2),(15, .sl 1 none none),(17,pI x4)] [.N tY none (x1:List (List Int)) 0 none, .L tY (x3:List Int)]
noncomputable def S181w_24:((List (List Int))×(List Int))→St:=fun(x1,x2)=>stC [(0, .sl 0 none none),(15, .sl 1 none none)] [.N tY none (x1:List (List Int)) 0 none, .L tY (x2:List Int)]
noncomputable def S181w_25:((List (List Int))×Int×(List Int))→St:=fun(x1,x2,x3)=>stC [(0, .sl 0 none none),(1,pI x2),(15, .sl 1 none none)] [.N tY none (x1:List (List Int)) 0 none, .L tY (x3:List Int)]
noncomputable def S181w_27:((List (List Int))×Int)→St:=fun(x1,x2)=>stC [(0, .sl 0 none none),(1,pI x2)] [.N tY none (x1:List (List Int)) 0 none]
noncomputable def S181w_28:((List (List Int))×Int×Int)→St:=fun(x1,x2,x3)=>stC [(0, .sl 0 none none),(1,pI x2),(6,pI x3)] [.N tY none (x1:List (List Int)) 0 none]
noncomputable def e181w (k:Nat):List (Nat×List Nat×Spec):=[(131,[],p131 k),(133,[],p133 k)]
noncomputable def h181w:H:=(hr (.n [] [.kp [0,1,6]] .d (.n [] [.kp [0,1]] (.n [] [.kp [0,1,6,7]] .d (.n [] [.kp [0,1]] (.n [.kp [0,1,6,7]] [.kp [0,1,6,7]] (.n [] [.kp [0,1,6,7]] (hr (hr (.n [.kp [0,1]] [] .d .d))) (hl (.n [] [.kp [0,1,6,7]] (.n [] [.kp [0,1,6,7,8]] .d (hb (.n [] [.kp [0,1,6,7,8]] (.n [.kp [0,1,6,7,8]] [.kp [0,1,6,7,8]] (hl (hr (hr (.n [.kp [0,1,6,7,8]] [] .d .d)))) .d) .d) (hb (hr (hl (hr (.n [.own 4 none tY, .kp [0,4,5]] [] .d .d)))) (hr (.n [] [.nrm 0 none, .kp [0,1,6,7,9]] .d (.n [] [.kp [0,1,6,7]] (.n [] [.kp [0,1,6,7,9,11]] .d (.n [] [.kp [0,1,6,7]] (.n [.kp [0,1,6,7,9,11]] [.kp [0,1,6,7,9,11]] (hl (hr (hr (.n [.kp [0,1,6,7]] [] .d .d)))) .d) .d)) (.n [] [.kp [0,1,6,7]] (.n [] [.kp [0,1,6,7,12]] .d (.n [] [.kp [0,1,6,7]] (.n [.kp [0,1,6,7,12]] [.kp [0,1,6,7,12]] (.n [] [.kp [0,1,6,7,12]] (hr (hr (.n [.kp [0,1,6,7]] [] .d .d))) (hl (.n [] [.kp [0,1,6,7,12]] (hb (hr (hl (.n [.kp [0,1,6,7,12]] [] .d .d))) (hr (.n [] [.kp [0,1,6,7,12,13,14]] .d (.n [] [.kp [0,1,6,7,12]] (.n [.kp [0,1,6,7,12,13,14]] [.kp [0,1,6,7,12,13,14]] (hl (hr (hr (.n [.kp [0,1,6,7,12]] [] .d .d)))) .d) .d)))) .d))) .d) .d)) .d))))))) .d))) .d) .d)) (.n [] [.own 15 none tY, .kp [0,1,15]] .d (.n [] [.kp [0,1,15]] (.n [] [.kp [0,1,15,16]] .d (.n [] [.kp [0,1,15]] (.n [.kp [0,1,15,16]] [.kp [0,1,15,16]] (hl (hr (hr (.n [.kp [0,1,15]] [] .d .d)))) .d) .d)) (.n [] [.kp [0,15]] (.n [] [.kp [0,1,15,17]] .d (.n [] [.kp [0,15]] (.n [.kp [0,1,15,17]] [.kp [0,1,15,17]] (hb (hr (hr (.n [.kp [0,15]] [] .d .d))) (hl (hl (hr (hl (hr (.n [.own 4 none tY, .kp [0,4,5]] [] .d .d))))))) .d) .d)) (hr (.n [.own 4 none tY, .kp [0,4,5]] [] .d .d))))))))
noncomputable def s181w (k:Nat):SumT (mkE (e181w k)) 1 k (bodyOf Tryz.f181) h181w [.own 4 none tY, .kp [0,4,5]] d181w.St S181w_1 S181w_1 q0:=
 .pre 2 S181w_28 (fun(x1,x2) N R Z=>N (x1,x2,0))
 (.seq S181w_27
 (.pre 1 S181w_11 (fun(x3,x4,x5) N R Z=>N (x3,x4,x5,0))
  (.blockP (.loop S181w_11 (fun x=>x)
  (.pre 1 S181w_11 (fun(x10,x11,x12,x13) N R Z=>bif decide (x13<x11)then(N (x10,x11,x12,x13))else(Z (.inl (x10,x11))))
  (.seq S181w_11
  (.block (.pre 1 S181w_2 (fun(x14,x15,x16,x17) N R Z=>N (x14,x15,x16,x17,x16))
   (.seq S181w_2
   (.block (.loop S181w_2 (fun x=>x)
    (.leaf fun(x25,x26,x27,x28,x29) N R Z=>bif decide (x29<(x25.length:Int))then(if 0≤x29∧x29<(x25.length:Int)then(if 0≤x28∧x28<((x25.getD (x29.toNat) []).length:Int)then(bif ((x25.getD (x29.toNat) []).getD (x28.toNat) (0:Int))==0 then(N (x25,x26,x27,x28,w64 (x29+1)))else(Z (.inl (x25,x26,x27,x28,x29))))else none)else none)else(Z (.inl (x25,x26,x27,x28,x29))))))
   (.pre 3 S181w_13 (fun(x30,x31,x32,x33,x34) N R Z=>bif x34==(x30.length:Int)then(R (x30,[],false))else(if 0≤x34∧x34<(x30.length:Int)then(if 0≤x32∧x32<(x30.length:Int)then(if 0≤x32∧x32<(x30.length:Int)then(if 0≤x34∧x34<(((List.range x30.length).set (x32.toNat) (x34.toNat)).length:Int)then(if 0≤x32∧x32<((((List.range x30.length).set (x32.toNat) (x34.toNat)).set (x34.toNat) (x32.toNat)).length:Int)then(if 0≤x33∧x33<((x30.getD ((((List.range x30.length).set (x32.toNat) (x34.toNat)).set (x34.toNat) (x32.toNat)).getD (x32.toNat) 0) []).length:Int)then(f133 k ((x30.getD ((((List.range x30.length).set (x32.toNat) (x34.toNat)).set (x34.toNat) (x32.toNat)).getD (x32.toNat) 0) []).getD (x33.toNat) (0:Int)) fun x38 x39=>if List.Nodup (((List.range x30.length).set (x32.toNat) (x34.toNat)).set (x34.toNat) (x32.toNat))∧List.all (((List.range x30.length).set (x32.toNat) (x34.toNat)).set (x34.toNat) (x32.toNat)) (fun i=>decide (i<x30.length))=true then(N ((((List.range x30.length).set (x32.toNat) (x34.toNat)).set (x34.toNat) (x32.toNat)).map (rowOf x30),x31,x32,x33,x38))else none)else none)else none)else none)else none)else none)else none))
   (.seq S181w_11
   (.pre 1 S181w_3 (fun(x40,x41,x42,x43,x44) N R Z=>N (x40,x41,x42,x43,x44,0))
    (.blockP (.loop S181w_3 (fun x=>x)
    (.leaf fun(x51,x52,x53,x54,x55,x56) N R Z=>bif decide (x56≤x52)then(if 0≤x53∧x53<(x51.length:Int)then(if 0≤x53∧x53<(x51.length:Int)then(if 0≤x56∧x56<((x51.getD (x53.toNat) []).length:Int)then(f131 k ((x51.getD (x53.toNat) []).getD (x56.toNat) (0:Int)) x55 fun x57=>if 0≤x56∧x56<((x51.getD (x53.toNat) []).length:Int)then(N (x51.set (x53.toNat) ((x51.getD (x53.toNat) []).set (x56.toNat) x57),x52,x53,x54,x55,w64 (x56+1)))else none)else none)else none)else none)else(Z (.inl (x51,x52,x53,x54)))))))
   (.seq S181w_11
   (.pre 1 S181w_7 (fun(x58,x59,x60,x61) N R Z=>N (x58,x59,x60,x61,0))
    (.blockP (.loop S181w_7 (fun x=>x)
    (.pre 1 S181w_7 (fun(x67,x68,x69,x70,x71) N R Z=>bif decide (x71<(x67.length:Int))then(N (x67,x68,x69,x70,x71))else(Z (.inl (x67,x68,x69,x70))))
    (.seq S181w_7
    (.block (.pre 3 S181w_5 (fun(x72,x73,x74,x75,x76) N R Z=>bif x76==x74 then(Z (.inl (x72,x73,x74,x75,x76)))else(if 0≤x76∧x76<(x72.length:Int)then(if 0≤x75∧x75<((x72.getD (x76.toNat) []).length:Int)then(bif ((x72.getD (x76.toNat) []).getD (x75.toNat) (0:Int))==0 then(Z (.inl (x72,x73,x74,x75,x76)))else(if 0≤x76∧x76<(x72.length:Int)then(if 0≤x75∧x75<((x72.getD (x76.toNat) []).length:Int)then(N (x72,x73,x74,x75,x76,(x72.getD (x76.toNat) []).getD (x75.toNat) (0:Int),0))else none)else none))else none)else none))
     (.blockP (.loop S181w_5 (fun x=>x)
     (.leaf fun(x93,x94,x95,x96,x97,x98,x99) N R Z=>bif decide (x99≤x94)then(if 0≤x97∧x97<(x93.length:Int)then(if 0≤x99∧x99<((x93.getD (x97.toNat) []).length:Int)then(if 0≤x95∧x95<(x93.length:Int)then(if 0≤x99∧x99<((x93.getD (x95.toNat) []).length:Int)then(f131 k x98 ((x93.getD (x95.toNat) []).getD (x99.toNat) (0:Int)) fun x100=>if 0≤x99∧x99<((x93.getD (x97.toNat) []).length:Int)then(N (x93.set (x97.toNat) ((x93.getD (x97.toNat) []).set (x99.toNat) (bitI .xor .u8 ((x93.getD (x97.toNat) []).getD (x99.toNat) (0:Int)) x100)),x94,x95,x96,x97,x98,w64 (x99+1)))else none)else none)else none)else none)else none)else(Z (.inl (x93,x94,x95,x96,x97))))))))
    (.leaf fun(x81,x82,x83,x84,x85) N R Z=>N (x81,x82,x83,x84,w64 (x85+1))))))))
   (.leaf fun(x77,x78,x79,x80) N R Z=>N (x77,x78,w64 (x79+1),x80))))))))
  (.leaf fun(x101,x102,x103,x104) N R Z=>N (x101,x102,x103,w64 (x104+1))))))))
 (.pre 1 S181w_25 (fun(x18,x19) N R Z=>N (x18,x19,[]))
 (.seq S181w_25
 (.pre 1 S181w_20 (fun(x105,x106,x107) N R Z=>N (x105,x106,x107,0))
  (.blockP (.loop S181w_20 (fun x=>x)
  (.leaf fun(x112,x113,x114,x115) N R Z=>bif decide (x115<x113)then(if 0≤x115∧x115<(x112.length:Int)then(if 0≤x113∧x113<((x112.getD (x115.toNat) []).length:Int)then(if(x114.length+[(x112.getD (x115.toNat) []).getD (x113.toNat) (0:Int)].length)*1≤room then(N (x112,x113,x114++[(x112.getD (x115.toNat) []).getD (x113.toNat) (0:Int)],w64 (x115+1)))else none)else none)else none)else(Z (.inl (x112,x113,x114)))))))
 (.seq S181w_24
 (.pre 1 S181w_22 (fun(x116,x117,x118) N R Z=>N (x116,x117,x118,x117))
  (.blockP (.loop S181w_22 (fun x=>x)
  (.leaf fun(x123,x124,x125,x126) N R Z=>bif decide (x126<(x123.length:Int))then(if 0≤x126∧x126<(x123.length:Int)then(if 0≤x124∧x124<((x123.getD (x126.toNat) []).length:Int)then(bif ((x123.getD (x126.toNat) []).getD (x124.toNat) (0:Int)) !=0 then(R (x123,[],false))else(N (x123,x124,x125,w64 (x126+1))))else none)else none)else(Z (.inl (x123,x125)))))))
 (.leaf fun(x127,x128) N R Z=>R (x127,x128,true))))))
noncomputable def f181w {α:Type} (k:Nat) (x1:(List (List Int))) (x2:Int) (K:(List (List Int))→(List Int)→Bool→Option α):Option α:=
  (s181w k).F (x1,x2) (fun(x35,x36,x37)=>K x35 x36 x37) (fun(x35,x36,x37)=>K x35 x36 x37) fun z=>nomatch z
noncomputable def o181w:((List (List Int))×(List Int)×Bool)→FRes:=fun(x1,x2,x3)=>{ ret:= .tup (.cn (.sl 1 none none) (.cn (pB x3) .e0)),objs:=[.N tY none (x1:List (List Int)) 0 none, .L tY (x2:List Int)] }
noncomputable def p181w (k:Nat):Spec:={ own:=[true,false],run:=fun a o K=>(d181w.dec a o).bind fun x=>f181w k x.1 x.2 fun x35 x36 x37=>K (o181w (x35,x36,x37)) }
theorem i181w (k:Nat):Impl Tryz.prog glTab 181 (p181w k):=
  .of w0 (l:=e181w k) ⟨i131 k,i133 k,trivial⟩ (s181w k) (dA_ok (dNR_ok tY) (d1_ok (dP_ok tI))) _ fun(x35,x36,x37) K=>K (o181w (x35,x36,x37))
noncomputable def d161:Dec (Int×(List Int)×Int):=dA (dP tI) (dA (dP (.sl tY)) (d1 (dP tI)))
noncomputable def S161_1:((List Int)×Bool)→St:=fun(x1,x2)=>stC [(6, .sl 0 none none),(7,pB x2)] [.L tI (x1:List Int)]
noncomputable def S161_2:(Int×(List Int)×Int×(List (List Int))×Int)→St:=fun(x1,x2,x3,x4,x5)=>stC [(0,pI x1),(1, .p (.sl tY) (x2:List Int)),(2,pI x3),(8, .sl 0 none none),(9,pI x5)] [.N tY none (x4:List (List Int)) 0 none]
noncomputable def S161_4:(Int×Int×(List Int)×(List Int)×Int×Int×Int×Int×Int)→St:=fun(x1,x2,x3,x4,x5,x6,x7,x8,x9)=>stC [(0,pI x1),(2,pI x2),(10, .sl 0 none none),(12, .sl 1 none none),(13,pI x5),(14,pY x6),(15,pY x7),(16,pY x8),(17,pI x9)] [.L tY (x3:List Int), .L tI (x4:List Int)]
noncomputable def S161_6:(Int×Int×(List Int)×(List Int)×Int×Int×Int)→St:=fun(x1,x2,x3,x4,x5,x6,x7)=>stC [(0,pI x1),(2,pI x2),(10, .sl 0 none none),(12, .sl 1 none none),(13,pI x5),(15,pY x6),(16,pY x7)] [.L tY (x3:List Int), .L tI (x4:List Int)]
noncomputable def S161_7:(Int×Int×(List Int)×(List Int)×Int×Int×Int×Int)→St:=fun(x1,x2,x3,x4,x5,x6,x7,x8)=>stC [(0,pI x1),(2,pI x2),(10, .sl 0 none none),(12, .sl 1 none none),(13,pI x5),(14,pY x6),(15,pY x7),(16,pY x8)] [.L tY (x3:List Int), .L tI (x4:List Int)]
noncomputable def S161_8:(Int×Int×(List Int)×(List Int)×Int)→St:=fun(x1,x2,x3,x4,x5)=>stC [(0,pI x1),(2,pI x2),(10, .sl 0 none none),(12, .sl 1 none none),(13,pI x5)] [.L tY (x3:List Int), .L tI (x4:List Int)]
noncomputable def S161_12:(Int×(List Int))→St:=fun(x1,x2)=>stC [(2,pI x1),(12, .sl 0 none none)] [.L tI (x2:List Int)]
noncomputable def S161_13:(Int×Int×(List Int)×(List Int))→St:=fun(x1,x2,x3,x4)=>stC [(0,pI x1),(2,pI x2),(10, .sl 0 none none),(12, .sl 1 none none)] [.L tY (x3:List Int), .L tI (x4:List Int)]
noncomputable def S161_14:(Int×Int×(List (List Int)))→St:=fun(x1,x2,x3)=>stC [(0,pI x1),(2,pI x2),(8, .sl 0 none none)] [.N tY none (x3:List (List Int)) 0 none]
noncomputable def S161_15:(Int×(List Int)×Int×(List (List Int)))→St:=fun(x1,x2,x3,x4)=>stC [(0,pI x1),(1, .p (.sl tY) (x2:List Int)),(2,pI x3),(8, .sl 0 none none)] [.N tY none (x4:List (List Int)) 0 none]
noncomputable def e161 (k:Nat):List (Nat×List Nat×Spec):=[(108,[],p108 k),(131,[],p131 k),(181,[],p181w k)]
noncomputable def h161:H:=(hr (.n [] [.own 8 none (.sl tY), .kp [0,1,2,8]] .d (.n [] [.kp [0,2,8]] (.n [] [.kp [0,1,2,8,9]] .d (.n [] [.kp [0,2,8]] (.n [.kp [0,1,2,8,9]] [.kp [0,1,2,8,9]] (hl (hr (hr (.n [.kp [0,2,8]] [] .d .d)))) .d) .d)) (hr (hb (hr (hl (hr (.n [.own 6 none tI, .kp [6,7]] [] .d .d)))) (.n [] [.own 12 none tI, .kp [0,2,10,12]] .d (.n [] [.kp [2,12]] (.n [] [.kp [0,2,10,12,13]] .d (.n [] [.kp [2,12]] (.n [.kp [0,2,10,12,13]] [.kp [0,2,10,12,13]] (.n [] [.kp [0,2,10,12,13]] (hr (hr (.n [.kp [2,12]] [] .d .d))) (hl (.n [] [.kp [0,2,10,12,13]] (hr (.n [] [.kp [0,2,10,12,13,14,15,16]] .d (.n [] [.kp [0,2,10,12,13,15,16]] (.n [] [.kp [0,2,10,12,13,14,15,16,17]] .d (.n [] [.kp [0,2,10,12,13,15,16]] (.n [.kp [0,2,10,12,13,14,15,16,17]] [.kp [0,2,10,12,13,14,15,16,17]] (hl (hr (hr (.n [.kp [0,2,10,12,13,15,16]] [] .d .d)))) .d) .d)) .d))) .d))) .d) .d)) (hr (.n [.own 6 none tI, .kp [6,7]] [] .d .d)))))))))
noncomputable def s161 (k:Nat):SumT (mkE (e161 k)) 0 k (bodyOf Tryz.f161) h161 [.own 6 none tI, .kp [6,7]] d161.St S161_1 S161_1 q0:=
 .pre 2 S161_15 (fun(x1,x2,x3) N R Z=>N (x1,x2,x3,[]))
 (.seq S161_14
 (.pre 1 S161_2 (fun(x4,x5,x6,x7) N R Z=>N (x4,x5,x6,x7,0))
  (.blockP (.loop S161_2 (fun x=>x)
  (.leaf fun(x13,x14,x15,x16,x17) N R Z=>bif decide (w64 (x17+x15)<(x14.length:Int))then(if 0≤x17∧x17≤w64 ((w64 (x17+x15))+1)∧w64 ((w64 (x17+x15))+1)≤(x14.length:Int)then(if((x14.take ((w64 ((w64 (x17+x15))+1)).toNat)).drop (x17.toNat)).length*1≤room then(if(x16.length+[(x14.take ((w64 ((w64 (x17+x15))+1)).toNat)).drop (x17.toNat)].length)*24≤room then(N (x13,x14,x15,x16++[(x14.take ((w64 ((w64 (x17+x15))+1)).toNat)).drop (x17.toNat)],w64 (x17+1)))else none)else none)else none)else(Z (.inl (x13,x15,x16)))))))
 (.pre 3 S161_13 (fun(x18,x19,x20) N R Z=>f181w k x20 x19 fun x21 x22 x23=>bif !x23 then(R ([],false))else(N (x18,x19,x22,[])))
 (.seq S161_12
 (.pre 1 S161_8 (fun(x26,x27,x28,x29) N R Z=>N (x26,x27,x28,x29,0))
  (.blockP (.loop S161_8 (fun x=>x)
  (.pre 1 S161_8 (fun(x35,x36,x37,x38,x39) N R Z=>bif decide (x39<x35)then(N (x35,x36,x37,x38,x39))else(Z (.inl (x36,x38))))
  (.seq S161_8
  (.block (.pre 2 S161_7 (fun(x40,x41,x42,x43,x44) N R Z=>f108 k (w64 ((w64 (x40-1))-x44)) fun x47=>N (x40,x41,x42,x43,x44,x47,0,1))
   (.seq S161_6
   (.pre 1 S161_4 (fun(x48,x49,x50,x51,x52,x53,x54,x55) N R Z=>N (x48,x49,x50,x51,x52,x53,x54,x55,0))
    (.blockP (.loop S161_4 (fun x=>x)
    (.leaf fun(x65,x66,x67,x68,x69,x70,x71,x72,x73) N R Z=>bif decide (x73<x66)then(if 0≤x73∧x73<(x67.length:Int)then(f131 k (x67.getD (x73.toNat) (0:Int)) x72 fun x74=>f131 k x72 x70 fun x75=>N (x65,x66,x67,x68,x69,x70,bitI .xor .u8 x71 x74,x75,w64 (x73+1)))else none)else(Z (.inl (x65,x66,x67,x68,x69,x71,x72)))))))
   (.leaf fun(x76,x77,x78,x79,x80,x81,x82) N R Z=>bif x81==x82 then(if(x79.length+[x80].length)*8≤room then(N (x76,x77,x78,x79++[x80],x80))else none)else(N (x76,x77,x78,x79,x80))))))
  (.leaf fun(x83,x84,x85,x86,x87) N R Z=>N (x83,x84,x85,x86,w64 (x87+1))))))))
 (.leaf fun(x45,x46) N R Z=>R (x46,((x46.length:Nat):Int)==x45)))))
noncomputable def f161 {α:Type} (k:Nat) (x1:Int) (x2:(List Int)) (x3:Int) (K:(List Int)→Bool→Option α):Option α:=
  (s161 k).F (x1,x2,x3) (fun(x24,x25)=>K x24 x25) (fun(x24,x25)=>K x24 x25) fun z=>nomatch z
noncomputable def p161 (k:Nat):Spec:={ own:=[false,false,false],run:=fun a o K=>(d161.dec a o).bind fun x=>f161 k x.1 x.2.1 x.2.2 fun x24 x25=>K (o126 (x24,x25)) }
theorem i161 (k:Nat):Impl Tryz.prog glTab 161 (p161 k):=
  .of w0 (l:=e161 k) ⟨i108 k,i131 k,i181w k,trivial⟩ (s161 k) (dA_ok (dP_ok tI) (dA_ok (dP_ok (.sl tY)) (d1_ok (dP_ok tI)))) _ fun(x24,x25) K=>K (o126 (x24,x25))
noncomputable def d162:Dec (Int×(List Int)×(List Int)):=dA (dP tI) (dA (dP (.sl tY)) (d1 (dP (.sl tI))))
noncomputable def S162_2:(Int×(List Int)×(List Int)×(List (List Int))×Int×(List Int)×Int)→St:=fun(x1,x2,x3,x4,x5,x6,x7)=>stC [(0,pI x1),(1, .p (.sl tY) (x2:List Int)),(2, .p (.sl tI) (x3:List Int)),(8, .sl 0 none none),(9,pI x5),(10, .sl 1 none none),(11,pI x7)] [.N tY none (x4:List (List Int)) 0 none, .L tY (x6:List Int)]
noncomputable def S162_4:(Int×(List Int)×(List Int)×(List (List Int))×Int×(List Int))→St:=fun(x1,x2,x3,x4,x5,x6)=>stC [(0,pI x1),(1, .p (.sl tY) (x2:List Int)),(2, .p (.sl tI) (x3:List Int)),(8, .sl 0 none none),(9,pI x5),(10, .sl 1 none none)] [.N tY none (x4:List (List Int)) 0 none, .L tY (x6:List Int)]
noncomputable def S162_6:(Int×(List Int)×(List Int)×(List (List Int))×Int)→St:=fun(x1,x2,x3,x4,x5)=>stC [(0,pI x1),(1, .p (.sl tY) (x2:List Int)),(2, .p (.sl tI) (x3:List Int)),(8, .sl 0 none none),(9,pI x5)] [.N tY none (x4:List (List Int)) 0 none]
noncomputable def S162_11:(Int×(List Int)×(List Int)×(List (List Int)))→St:=fun(x1,x2,x3,x4)=>stC [(0,pI x1),(1, .p (.sl tY) (x2:List Int)),(2, .p (.sl tI) (x3:List Int)),(8, .sl 0 none none)] [.N tY none (x4:List (List Int)) 0 none]
noncomputable def e162 (k:Nat):List (Nat×List Nat×Spec):=[(108,[],p108 k),(181,[],p181w k)]
noncomputable def h162:H:=(hr (.n [] [.own 8 none (.sl tY), .kp [0,1,2,8]] .d (.n [] [.kp [2,8]] (.n [] [.kp [0,1,2,8,9]] .d (.n [] [.kp [2,8]] (.n [.kp [0,1,2,8,9]] [.kp [0,1,2,8,9]] (.n [] [.kp [0,1,2,8,9]] (hr (hr (.n [.kp [2,8]] [] .d .d))) (hl (.n [] [.kp [0,1,2,8,9]] (.n [] [.own 10 none tY, .kp [0,1,2,8,9,10]] .d (.n [] [.kp [0,1,2,8,9,10]] (.n [] [.kp [0,1,2,8,9,10,11]] .d (.n [] [.kp [0,1,2,8,9,10]] (.n [.kp [0,1,2,8,9,10,11]] [.kp [0,1,2,8,9,10,11]] (hl (hr (hr (.n [.kp [0,1,2,8,9,10]] [] .d .d)))) .d) .d)) .d)) .d))) .d) .d)) (hr (.n [.kp [6,7]] [] .d .d)))))
noncomputable def s162 (k:Nat):SumT (mkE (e162 k)) 0 k (bodyOf Tryz.f162) h162 [.kp [6,7]] d162.St S127_1 S127_1 q0:=
 .pre 2 S162_11 (fun(x1,x2,x3) N R Z=>N (x1,x2,x3,[]))
 (.seq S127_27
 (.pre 1 S162_6 (fun(x4,x5,x6,x7) N R Z=>N (x4,x5,x6,x7,0))
  (.blockP (.loop S162_6 (fun x=>x)
  (.pre 1 S162_6 (fun(x13,x14,x15,x16,x17) N R Z=>bif decide (x17<(x14.length:Int))then(N (x13,x14,x15,x16,x17))else(Z (.inl (x15,x16))))
  (.seq S162_6
  (.block (.pre 1 S162_4 (fun(x18,x19,x20,x21,x22) N R Z=>N (x18,x19,x20,x21,x22,[]))
   (.seq S162_4
   (.pre 1 S162_2 (fun(x25,x26,x27,x28,x29,x30) N R Z=>N (x25,x26,x27,x28,x29,x30,0))
    (.blockP (.loop S162_2 (fun x=>x)
    (.leaf fun(x38,x39,x40,x41,x42,x43,x44) N R Z=>bif decide (x44<(x40.length:Int))then(if 0≤x44∧x44<(x40.length:Int)then(f108 k (w64 (x42*(w64 ((w64 (x38-1))-(x40.getD (x44.toNat) (0:Int)))))) fun x45=>if(x43.length+[x45].length)*1≤room then(N (x38,x39,x40,x41,x42,x43++[x45],w64 (x44+1)))else none)else none)else(Z (.inl (x38,x39,x40,x41,x42,x43)))))))
   (.leaf fun(x46,x47,x48,x49,x50,x51) N R Z=>if 0≤x50∧x50<(x47.length:Int)then(if(x51.length+[x47.getD (x50.toNat) (0:Int)].length)*1≤room then(if(x49.length+[x51++[x47.getD (x50.toNat) (0:Int)]].length)*24≤room then(N (x46,x47,x48,x49++[x51++[x47.getD (x50.toNat) (0:Int)]],x50))else none)else none)else none))))
  (.leaf fun(x52,x53,x54,x55,x56) N R Z=>N (x52,x53,x54,x55,w64 (x56+1))))))))
 (.leaf fun(x23,x24) N R Z=>f181w k x24 (x23.length:Int) fun x57 x58 x59=>R (x58,x59)))
noncomputable def f162 {α:Type} (k:Nat) (x1:Int) (x2:(List Int)) (x3:(List Int)) (K:(List Int)→Bool→Option α):Option α:=
  (s162 k).F (x1,x2,x3) (fun(x60,x61)=>K x60 x61) (fun(x60,x61)=>K x60 x61) fun z=>nomatch z
noncomputable def p162 (k:Nat):Spec:={ own:=[false,false,false],run:=fun a o K=>(d162.dec a o).bind fun x=>f162 k x.1 x.2.1 x.2.2 fun x60 x61=>K (o127 (x60,x61)) }
theorem i162 (k:Nat):Impl Tryz.prog glTab 162 (p162 k):=
  .of w0 (l:=e162 k) ⟨i108 k,i181w k,trivial⟩ (s162 k) (dA_ok (dP_ok tI) (dA_ok (dP_ok (.sl tY)) (d1_ok (dP_ok (.sl tI))))) _ fun(x60,x61) K=>K (o127 (x60,x61))
noncomputable def S128_2:((List Int)×(List Int)×DT5×DT8×Int×(List Int)×(List Int)×Int×Int×Int)→St:=fun(x1,x2,x3,x4,x5,x6,x7,x8,x9,x10)=>stC [(1, .p (.sl tY) (x1:List Int)),(2, .p (.sl tI) (x2:List Int)),(3, .ptr 0 0 0),(6, .ptr 1 0 0),(9,pI x5),(10, .sl 2 none none),(12, .sl 3 none none),(13,pI x8),(14,pY x9),(15,pI x10)] [.B (toC T5 x3), .B (.cn (pI x4.1) (.cn (.sl 4 none none) (.cn (.sl 5 none none) .e0))), .L tY (x6:List Int), .L tY (x7:List Int), .L tY (x4.2.1:List Int), .L tI (x4.2.2:List Int)]
noncomputable def S128_4:((List Int)×(List Int)×DT5×DT8×Int×(List Int)×(List Int)×Int)→St:=fun(x1,x2,x3,x4,x5,x6,x7,x8)=>stC [(1, .p (.sl tY) (x1:List Int)),(2, .p (.sl tI) (x2:List Int)),(3, .ptr 0 0 0),(6, .ptr 1 0 0),(9,pI x5),(10, .sl 2 none none),(12, .sl 3 none none),(13,pI x8)] [.B (toC T5 x3), .B (.cn (pI x4.1) (.cn (.sl 4 none none) (.cn (.sl 5 none none) .e0))), .L tY (x6:List Int), .L tY (x7:List Int), .L tY (x4.2.1:List Int), .L tI (x4.2.2:List Int)]
noncomputable def S128_5:((List Int)×(List Int)×DT5×DT8×Int×(List Int)×(List Int)×Int×Int)→St:=fun(x1,x2,x3,x4,x5,x6,x7,x8,x9)=>stC [(1, .p (.sl tY) (x1:List Int)),(2, .p (.sl tI) (x2:List Int)),(3, .ptr 0 0 0),(6, .ptr 1 0 0),(9,pI x5),(10, .sl 2 none none),(12, .sl 3 none none),(13,pI x8),(14,pY x9)] [.B (toC T5 x3), .B (.cn (pI x4.1) (.cn (.sl 4 none none) (.cn (.sl 5 none none) .e0))), .L tY (x6:List Int), .L tY (x7:List Int), .L tY (x4.2.1:List Int), .L tI (x4.2.2:List Int)]
noncomputable def S128_10:((List Int)×(List Int)×DT8×Int×(List Int)×(List Int)×Int×Int×(List Int)×(List Int)×Bool×Int×Int)→St:=fun(x1,x2,x3,x4,x5,x6,x7,x8,x9,x10,x11,x12,x13)=>stC [(1, .p (.sl tY) (x1:List Int)),(2, .p (.sl tI) (x2:List Int)),(6, .ptr 0 0 0),(9,pI x4),(10, .sl 1 none none),(12, .sl 2 none none),(16,pI x7),(17,pI x8),(18, .sl 3 none none),(20, .sl 4 none none),(21,pB x11),(22,pI x12),(23,pI x13)] [.B (.cn (pI x3.1) (.cn (.sl 5 none none) (.cn (.sl 6 none none) .e0))), .L tY (x5:List Int), .L tY (x6:List Int), .L tI (x9:List Int), .L tI (x10:List Int), .L tY (x3.2.1:List Int), .L tI (x3.2.2:List Int)]
noncomputable def S128_12:((List Int)×(List Int)×DT8×Int×(List Int)×(List Int)×Int×Int×(List Int)×(List Int)×Bool×Int)→St:=fun(x1,x2,x3,x4,x5,x6,x7,x8,x9,x10,x11,x12)=>stC [(1, .p (.sl tY) (x1:List Int)),(2, .p (.sl tI) (x2:List Int)),(6, .ptr 0 0 0),(9,pI x4),(10, .sl 1 none none),(12, .sl 2 none none),(16,pI x7),(17,pI x8),(18, .sl 3 none none),(20, .sl 4 none none),(21,pB x11),(22,pI x12)] [.B (.cn (pI x3.1) (.cn (.sl 5 none none) (.cn (.sl 6 none none) .e0))), .L tY (x5:List Int), .L tY (x6:List Int), .L tI (x9:List Int), .L tI (x10:List Int), .L tY (x3.2.1:List Int), .L tI (x3.2.2:List Int)]
noncomputable def S128_16:((List Int)×DT8×Int×(List Int)×(List Int)×(List Int)×Int)→St:=fun(x1,x2,x3,x4,x5,x6,x7)=>stC [(1, .p (.sl tY) (x1:List Int)),(6, .ptr 0 0 0),(9,pI x3),(20, .sl 1 none none),(24, .sl 2 none none),(25, .sl 3 none none),(26,pI x7)] [.B (.cn (pI x2.1) (.cn (.sl 4 none none) (.cn (.sl 5 none none) .e0))), .L tI (x4:List Int), .L tY (x5:List Int), .L tY (x6:List Int), .L tY (x2.2.1:List Int), .L tI (x2.2.2:List Int)]
noncomputable def S128_18:((List Int)×DT8×Int×(List Int)×Int×(List Int)×Int)→St:=fun(x1,x2,x3,x4,x5,x6,x7)=>stC [(1, .p (.sl tY) (x1:List Int)),(6, .ptr 0 0 0),(9,pI x3),(25, .sl 1 none none),(27, .ptr 2 0 0),(28,pI x7)] [.B (.cn (pI x2.1) (.cn (.sl 3 none none) (.cn (.sl 4 none none) .e0))), .L tY (x4:List Int), .B (.cn (pI x5) (.cn (.sl 1 none none) (.cn (.sl 5 none none) .e0))), .L tY (x2.2.1:List Int), .L tI (x2.2.2:List Int), .L tI (x6:List Int)]
noncomputable def S128_20:(DT8×DT8)→St:=fun(x1,x2)=>stC [(6, .ptr 0 0 0),(27, .ptr 1 0 0)] [.B (.cn (pI x1.1) (.cn (.sl 2 none none) (.cn (.sl 3 none none) .e0))), .B (.cn (pI x2.1) (.cn (.sl 4 none none) (.cn (.sl 5 none none) .e0))), .L tY (x1.2.1:List Int), .L tI (x1.2.2:List Int), .L tY (x2.2.1:List Int), .L tI (x2.2.2:List Int)]
noncomputable def S128_21:((List Int)×DT8×Int×(List Int)×Int×(List Int))→St:=fun(x1,x2,x3,x4,x5,x6)=>stC [(1, .p (.sl tY) (x1:List Int)),(6, .ptr 0 0 0),(9,pI x3),(25, .sl 1 none none),(27, .ptr 2 0 0)] [.B (.cn (pI x2.1) (.cn (.sl 3 none none) (.cn (.sl 4 none none) .e0))), .L tY (x4:List Int), .B (.cn (pI x5) (.cn (.sl 1 none none) (.cn (.sl 5 none none) .e0))), .L tY (x2.2.1:List Int), .L tI (x2.2.2:List Int), .L tI (x6:List Int)]
noncomputable def S128_22:((List Int)×DT8×Int×(List Int))→St:=fun(x1,x2,x3,x4)=>stC [(1, .p (.sl tY) (x1:List Int)),(6, .ptr 0 0 0),(9,pI x3),(25, .sl 1 none none)] [.B (.cn (pI x2.1) (.cn (.sl 2 none none) (.cn (.sl 3 none none) .e0))), .L tY (x4:List Int), .L tY (x2.2.1:List Int), .L tI (x2.2.2:List Int)]
noncomputable def S128_23:((List Int)×DT8×Int×(List Int)×(List Int)×(List Int))→St:=fun(x1,x2,x3,x4,x5,x6)=>stC [(1, .p (.sl tY) (x1:List Int)),(6, .ptr 0 0 0),(9,pI x3),(20, .sl 1 none none),(24, .sl 2 none none),(25, .sl 3 none none)] [.B (.cn (pI x2.1) (.cn (.sl 4 none none) (.cn (.sl 5 none none) .e0))), .L tI (x4:List Int), .L tY (x5:List Int), .L tY (x6:List Int), .L tY (x2.2.1:List Int), .L tI (x2.2.2:List Int)]
noncomputable def S128_24:((List Int)×(List Int)×DT8×Int×(List Int)×(List Int)×Int×Int×(List Int)×Bool)→St:=fun(x1,x2,x3,x4,x5,x6,x7,x8,x9,x10)=>stC [(1, .p (.sl tY) (x1:List Int)),(2, .p (.sl tI) (x2:List Int)),(6, .ptr 0 0 0),(9,pI x4),(10, .sl 1 none none),(12, .sl 2 none none),(16,pI x7),(17,pI x8),(20, .sl 3 none none),(21,pB x10)] [.B (.cn (pI x3.1) (.cn (.sl 4 none none) (.cn (.sl 5 none none) .e0))), .L tY (x5:List Int), .L tY (x6:List Int), .L tI (x9:List Int), .L tY (x3.2.1:List Int), .L tI (x3.2.2:List Int)]
noncomputable def S128_25:((List Int)×(List Int)×DT8×Int×(List Int)×(List Int)×Int×Int×(List Int)×(List Int)×Bool)→St:=fun(x1,x2,x3,x4,x5,x6,x7,x8,x9,x10,x11)=>stC [(1, .p (.sl tY) (x1:List Int)),(2, .p (.sl tI) (x2:List Int)),(6, .ptr 0 0 0),(9,pI x4),(10, .sl 1 none none),(12, .sl 2 none none),(16,pI x7),(17,pI x8),(18, .sl 3 none none),(20, .sl 4 none none),(21,pB x11)] [.B (.cn (pI x3.1) (.cn (.sl 5 none none) (.cn (.sl 6 none none) .e0))), .L tY (x5:List Int), .L tY (x6:List Int), .L tI (x9:List Int), .L tI (x10:List Int), .L tY (x3.2.1:List Int), .L tI (x3.2.2:List Int)]
noncomputable def S128_26:((List Int)×(List Int)×DT8×Int×(List Int)×(List Int)×Int×Int)→St:=fun(x1,x2,x3,x4,x5,x6,x7,x8)=>stC [(1, .p (.sl tY) (x1:List Int)),(2, .p (.sl tI) (x2:List Int)),(6, .ptr 0 0 0),(9,pI x4),(10, .sl 1 none none),(12, .sl 2 none none),(16,pI x7),(17,pI x8)] [.B (.cn (pI x3.1) (.cn (.sl 3 none none) (.cn (.sl 4 none none) .e0))), .L tY (x5:List Int), .L tY (x6:List Int), .L tY (x3.2.1:List Int), .L tI (x3.2.2:List Int)]
noncomputable def S128_31:((List Int)×(List Int)×DT8×Int×(List Int)×(List Int)×Int)→St:=fun(x1,x2,x3,x4,x5,x6,x7)=>stC [(1, .p (.sl tY) (x1:List Int)),(2, .p (.sl tI) (x2:List Int)),(6, .ptr 0 0 0),(9,pI x4),(10, .sl 1 none none),(12, .sl 2 none none),(16,pI x7)] [.B (.cn (pI x3.1) (.cn (.sl 3 none none) (.cn (.sl 4 none none) .e0))), .L tY (x5:List Int), .L tY (x6:List Int), .L tY (x3.2.1:List Int), .L tI (x3.2.2:List Int)]
noncomputable def S128_32:((List Int)×(List Int)×DT5×DT8×Int×(List Int)×(List Int))→St:=fun(x1,x2,x3,x4,x5,x6,x7)=>stC [(1, .p (.sl tY) (x1:List Int)),(2, .p (.sl tI) (x2:List Int)),(3, .ptr 0 0 0),(6, .ptr 1 0 0),(9,pI x5),(10, .sl 2 none none),(12, .sl 3 none none)] [.B (toC T5 x3), .B (.cn (pI x4.1) (.cn (.sl 4 none none) (.cn (.sl 5 none none) .e0))), .L tY (x6:List Int), .L tY (x7:List Int), .L tY (x4.2.1:List Int), .L tI (x4.2.2:List Int)]
noncomputable def e128 (k:Nat):List (Nat×List Nat×Spec):=[(108,[],p108 k),(131,[],p131 k),(159,[],p159 k),(160,[],p160 k),(161,[],p161 k),(162,[],p162 k)]
noncomputable def h128:H:=(hr (hb (hr (hr (hl (hr (.n [.own 6 (some 1) tY, .own 6 (some 2) tI, .kp [6,7]] [] .d .d))))) (hr (hr (.n [] [.own 6 (some 1) tY, .own 6 (some 2) tI, .kp [1,2,3,6,9,10,12]] .d (.n [] [.kp [1,2,3,6,9,10,12]] (.n [] [.kp [1,2,3,6,9,10,12,13]] .d (.n [] [.kp [1,2,3,6,9,10,12]] (.n [.kp [1,2,3,6,9,10,12,13]] [.kp [1,2,3,6,9,10,12,13]] (.n [] [.kp [1,2,3,6,9,10,12,13]] (hr (hr (.n [.kp [1,2,3,6,9,10,12]] [] .d .d))) (hl (.n [] [.shr 12 none, .kp [1,2,3,6,9,10,12,13]] (.n [] [.kp [1,2,3,6,9,10,12,13,14]] .d (.n [] [.kp [1,2,3,6,9,10,12,13]] (.n [] [.kp [1,2,3,6,9,10,12,13,14,15]] .d (.n [] [.kp [1,2,3,6,9,10,12,13]] (.n [.kp [1,2,3,6,9,10,12,13,14,15]] [.kp [1,2,3,6,9,10,12,13,14,15]] (hl (hr (hr (.n [.kp [1,2,3,6,9,10,12,13]] [] .d .d)))) .d) .d)) .d)) .d))) .d) .d)) (hr (.n [] [.kp [1,2,6,9,10,12,16]] .d (.n [] [.kp [6]] (.n [] [.kp [1,2,6,9,10,12,16,17]] .d (.n [] [.kp [6]] (.n [.kp [1,2,6,9,10,12,16,17]] [.kp [1,2,6,9,10,12,16,17]] (.n [] [.kp [1,2,6,9,10,12,16,17]] (hr (hr (.n [.kp [6]] [] .d .d))) (hl (.n [] [.kp [1,2,6,9,10,12,16,17]] (hr (hb (hr (hl (.n [.kp [1,2,6,9,10,12,16,17]] [] .d .d))) (hr (.n [] [.kp [1,2,6,9,10,12,16,17,18,20,21]] .d (.n [] [.kp [1,2,6,9,10,12,16,17,20,21]] (.n [] [.kp [1,2,6,9,10,12,16,17,18,20,21,22]] .d (.n [] [.kp [1,2,6,9,10,12,16,17,20,21]] (.n [.kp [1,2,6,9,10,12,16,17,18,20,21,22]] [.kp [1,2,6,9,10,12,16,17,18,20,21,22]] (.n [] [.kp [1,2,6,9,10,12,16,17,18,20,21,22]] (hr (hr (.n [.kp [1,2,6,9,10,12,16,17,20,21]] [] .d .d))) (hl (.n [] [.kp [1,2,6,9,10,12,16,17,18,20,21,22]] (.n [] [.kp [1,2,6,9,10,12,16,17,18,20,21,22,23]] .d (.n [] [.kp [1,2,6,9,10,12,16,17,18,20,21,22]] (.n [.kp [1,2,6,9,10,12,16,17,18,20,21,22,23]] [.kp [1,2,6,9,10,12,16,17,18,20,21,22,23]] (hl (hr (hr (.n [.kp [1,2,6,9,10,12,16,17,18,20,21,22]] [] .d .d)))) .d) .d)) .d))) .d) .d)) (hb (hr (hl (.n [.kp [1,2,6,9,10,12,16,17]] [] .d .d))) (hr (hb (hr (hl (.n [.kp [1,2,6,9,10,12,16,17]] [] .d .d))) (.n [] [.kp [1,6,9,20,24,25]] .d (.n [] [.kp [1,6,9,25]] (.n [] [.kp [1,6,9,20,24,25,26]] .d (.n [] [.kp [1,6,9,25]] (.n [.kp [1,6,9,20,24,25,26]] [.kp [1,6,9,20,24,25,26]] (hl (hr (hr (.n [.kp [1,6,9,25]] [] .d .d)))) .d) .d)) (.n [] [.own 27 (some 2) tI, .kp [1,6,9,25,27]] .d (.n [] [.kp [6,27]] (.n [] [.kp [1,6,9,25,27,28]] .d (.n [] [.kp [6,27]] (.n [.kp [1,6,9,25,27,28]] [.kp [1,6,9,25,27,28]] (hl (hr (hr (.n [.kp [6,27]] [] .d .d)))) .d) .d)) (hr (.n [.own 6 (some 1) tY, .own 6 (some 2) tI, .kp [6,7]] [] .d .d)))))))))))))) .d))) .d) .d)) (hr (.n [.own 6 (some 1) tY, .own 6 (some 2) tI, .kp [6,7]] [] .d .d)))))))))))
noncomputable def s128 (k:Nat):SumT (mkE (e128 k)) 0 k (bodyOf Tryz.f128) h128 [.own 6 (some 1) tY, .own 6 (some 2) tI, .kp [6,7]] d104.St S104_1 S104_1 q0:=
 .pre 5 S128_32 (fun(x1,x2,x3) N R Z=>f159 k x1 x2 x3 fun x4=>bif x4 !=0 then(R ((0,[],[]),x4))else(f160 k x1 x2 fun x7 x8=>if x7.length*1≤room then(N (x2,x3,x1,(0,[],[]),(x2.length:Int),x7,x7))else none))
 (.seq S128_32
 (.pre 1 S128_4 (fun(x9,x10,x11,x12,x13,x14,x15) N R Z=>N (x9,x10,x11,x12,x13,x14,x15,0))
  (.blockP (.loop S128_4 (fun x=>x)
  (.pre 1 S128_4 (fun(x24,x25,x26,x27,x28,x29,x30,x31) N R Z=>bif decide (x31<(x25.length:Int))then(N (x24,x25,x26,x27,x28,x29,x30,x31))else(Z (.inl (x24,x25,x26,x27,x28,x29,x30))))
  (.seq S128_4
  (.block (.pre 1 S128_5 (fun(x32,x33,x34,x35,x36,x37,x38,x39) N R Z=>if 0≤x39∧x39<(x33.length:Int)then(f108 k (w64 ((w64 (x36-1))-(x33.getD (x39.toNat) (0:Int)))) fun x47=>N (x32,x33,x34,x35,x36,x37,x38,x39,x47))else none)
   (.seq S128_4
   (.pre 1 S128_2 (fun(x48,x49,x50,x51,x52,x53,x54,x55,x56) N R Z=>N (x48,x49,x50,x51,x52,x53,x54,x55,x56,0))
    (.blockP (.loop S128_2 (fun x=>x)
    (.leaf fun(x67,x68,x69,x70,x71,x72,x73,x74,x75,x76) N R Z=>bif decide (w64 (x76+1)<((x73.length:Nat):Int))then(if 0≤w64 (x76+1)∧w64 (x76+1)<(x73.length:Int)then(if 0≤x76∧x76<(x73.length:Int)then(f131 k x75 (x73.getD (x76.toNat) (0:Int)) fun x77=>if 0≤x76∧x76<(x73.length:Int)then(N (x67,x68,x69,x70,x71,x72,x73.set (x76.toNat) (bitI .xor .u8 (x73.getD ((w64 (x76+1)).toNat) (0:Int)) x77),x74,x75,w64 (x76+1)))else none)else none)else none)else(Z (.inl (x67,x68,x69,x70,x71,x72,x73,x74)))))))
   (.leaf fun(x78,x79,x80,x81,x82,x83,x84,x85) N R Z=>if 0≤(0:Int)∧(0:Int)≤w64 (((x84.length:Nat):Int)-1)∧w64 (((x84.length:Nat):Int)-1)≤(x84.length:Int)then(N (x78,x79,x80,x81,x82,x83,x84.take ((w64 (((x84.length:Nat):Int)-1)).toNat),x85))else none))))
  (.leaf fun(x86,x87,x88,x89,x90,x91,x92,x93) N R Z=>N (x86,x87,x88,x89,x90,x91,x92,w64 (x93+1))))))))
 (.pre 2 S128_31 (fun(x40,x41,x42,x43,x44,x45,x46) N R Z=>bif decide (x42.2.2.2<w64 (Int.tdiv (w64 (x42.2.2.1-(x41.length:Int))) 2))then(N (x40,x41,x43,x44,x45,x46,x42.2.2.2))else(N (x40,x41,x43,x44,x45,x46,w64 (Int.tdiv (w64 (x42.2.2.1-(x41.length:Int))) 2))))
 (.seq S46_1
 (.pre 1 S128_26 (fun(x94,x95,x96,x97,x98,x99,x100) N R Z=>N (x94,x95,x96,x97,x98,x99,x100,0))
  (.blockP (.loop S128_26 (fun x=>x)
  (.pre 1 S128_26 (fun(x109,x110,x111,x112,x113,x114,x115,x116) N R Z=>bif decide (x116≤x115)then(N (x109,x110,x111,x112,x113,x114,x115,x116))else(Z (.inl x111)))
  (.seq S128_26
  (.block (.pre 4 S128_25 (fun(x117,x118,x119,x120,x121,x122,x123,x124) N R Z=>f161 k x120 x122 x124 fun x126 x127=>bif !x127 then(Z (.inl (x117,x118,x119,x120,x121,x122,x123,x124)))else(if x118.length*8≤room then(if(x118.length+x126.length)*8≤room then(N (x117,x118,x119,x120,x121,x122,x123,x124,x126,x118++x126,false))else none)else none))
   (.seq S128_24
   (.pre 1 S128_12 (fun(x136,x137,x138,x139,x140,x141,x142,x143,x144,x145,x146) N R Z=>N (x136,x137,x138,x139,x140,x141,x142,x143,x144,x145,x146,0))
    (.blockP (.loop S128_12 (fun x=>x)
    (.pre 1 S128_12 (fun(x159,x160,x161,x162,x163,x164,x165,x166,x167,x168,x169,x170) N R Z=>bif decide (x170<((x167.length:Nat):Int))then(N (x159,x160,x161,x162,x163,x164,x165,x166,x167,x168,x169,x170))else(Z (.inl (x159,x160,x161,x162,x163,x164,x165,x166,x168,x169))))
    (.seq S128_12
    (.block (.pre 1 S128_10 (fun(x171,x172,x173,x174,x175,x176,x177,x178,x179,x180,x181,x182) N R Z=>N (x171,x172,x173,x174,x175,x176,x177,x178,x179,x180,x181,x182,0))
     (.blockP (.loop S128_10 (fun x=>x)
     (.leaf fun(x206,x207,x208,x209,x210,x211,x212,x213,x214,x215,x216,x217,x218) N R Z=>bif decide (x218<(x207.length:Int))then(bif x216 then(N (x206,x207,x208,x209,x210,x211,x212,x213,x214,x215,true,x217,w64 (x218+1)))else(if 0≤x217∧x217<(x214.length:Int)then(if 0≤x218∧x218<(x207.length:Int)then(N (x206,x207,x208,x209,x210,x211,x212,x213,x214,x215,(x214.getD (x217.toNat) (0:Int))==(x207.getD (x218.toNat) (0:Int)),x217,w64 (x218+1)))else none)else none))else(Z (.inl (x206,x207,x208,x209,x210,x211,x212,x213,x214,x215,x216,x217))))))))
    (.leaf fun(x219,x220,x221,x222,x223,x224,x225,x226,x227,x228,x229,x230) N R Z=>N (x219,x220,x221,x222,x223,x224,x225,x226,x227,x228,x229,w64 (x230+1))))))))
   (.pre 4 S128_23 (fun(x183,x184,x185,x186,x187,x188,x189,x190,x191,x192) N R Z=>bif x192 then(Z (.inl (x183,x184,x185,x186,x187,x188,x189,x190)))else(f162 k x186 x187 x191 fun x231 x232=>bif !x232 then(Z (.inl (x183,x184,x185,x186,x187,x188,x189,x190)))else(if x183.length*1≤room then(N (x183,x185,x186,x191,x231,x183))else none)))
   (.seq S128_22
   (.pre 1 S128_16 (fun(x233,x234,x235,x236,x237,x238) N R Z=>N (x233,x234,x235,x236,x237,x238,0))
    (.blockP (.loop S128_16 (fun x=>x)
    (.leaf fun(x246,x247,x248,x249,x250,x251,x252) N R Z=>bif decide (x252<((x249.length:Nat):Int))then(if 0≤x252∧x252<(x249.length:Int)then(if 0≤x249.getD (x252.toNat) (0:Int)∧x249.getD (x252.toNat) (0:Int)<(x251.length:Int)then(if 0≤x252∧x252<(x250.length:Int)then(if 0≤x249.getD (x252.toNat) (0:Int)∧x249.getD (x252.toNat) (0:Int)<(x251.length:Int)then(N (x246,x247,x248,x249,x250,x251.set ((x249.getD (x252.toNat) (0:Int)).toNat) (bitI .xor .u8 (x251.getD ((x249.getD (x252.toNat) (0:Int)).toNat) (0:Int)) (x250.getD (x252.toNat) (0:Int))),w64 (x252+1)))else none)else none)else none)else none)else(Z (.inl (x246,x247,x248,x251)))))))
   (.pre 1 S128_21 (fun(x253,x254,x255,x256) N R Z=>N (x253,x254,x255,x256,0,[]))
   (.seq S128_20
   (.pre 1 S128_18 (fun(x257,x258,x259,x260,x261,x262) N R Z=>N (x257,x258,x259,x260,x261,x262,0))
    (.blockP (.loop S128_18 (fun x=>x)
    (.leaf fun(x270,x271,x272,x273,x274,x275,x276) N R Z=>bif decide (x276<x272)then(if 0≤x276∧x276<(x273.length:Int)then(if 0≤x276∧x276<(x270.length:Int)then(bif (x273.getD (x276.toNat) (0:Int)) !=(x270.getD (x276.toNat) (0:Int))then(if(x275.length+[x276].length)*8≤room then(N (x270,x271,x272,x273,1,x275++[x276],w64 (x276+1)))else none)else(N (x270,x271,x272,x273,x274,x275,w64 (x276+1))))else none)else none)else(Z (.inl (x271,(x274,x273,x275))))))))
   (.leaf fun(x277,x278) N R Z=>R (x278,0)))))))))
  (.leaf fun(x128,x129,x130,x131,x132,x133,x134,x135) N R Z=>N (x128,x129,x130,x131,x132,x133,x134,w64 (x135+1))))))))
 (.leaf fun x125 N R Z=>R ((2,[],[]),0)))))
noncomputable def f128 {α:Type} (k:Nat) (x1:DT5) (x2:(List Int)) (x3:(List Int)) (K:DT8→Int→Option α):Option α:=
  (s128 k).F (x1,x2,x3) (fun(x5,x6)=>K x5 x6) (fun(x5,x6)=>K x5 x6) fun z=>nomatch z
noncomputable def p128 (k:Nat):Spec:={ own:=[false,false,false],run:=fun a o K=>(d104.dec a o).bind fun x=>f128 k x.1 x.2.1 x.2.2 fun x5 x6=>K (o104 (x5,x6)) }
theorem i128 (k:Nat):Impl Tryz.prog glTab 128 (p128 k):=
  .of w0 (l:=e128 k) ⟨i108 k,i131 k,i159 k,i160 k,i161 k,i162 k,trivial⟩ (s128 k) (dA_ok (dS_ok T5) (dA_ok (dP_ok (.sl tY)) (d1_ok (dP_ok (.sl tI))))) _ fun(x5,x6) K=>K (o104 (x5,x6))
noncomputable def S164_2:(Int×Int)→St:=fun(x1,x2)=>stC [(0,pI x1),(3,pI x2)] []
noncomputable def e164 (k:Nat):List (Nat×List Nat×Spec):=[]
noncomputable def h164:H:=(hr (.n [] [.kp [0,3]] .d (hb (.n [] [.kp [3]] (.n [.kp [0,3]] [.kp [0,3]] (hl (hr (hr (.n [.kp [3]] [] .d .d)))) .d) .d) (hr (.n [.kp [2]] [] .d .d)))))
noncomputable def s164 (k:Nat):SumT (mkE (e164 k)) 0 k (bodyOf Tryz.f164) h164 [.kp [2]] d80.St S16_1 S16_1 q0:=
 .pre 2 S164_2 (fun x1 N R Z=>N (x1,0))
 (.seq S64_4
 (.block (.loop S164_2 (fun x=>x)
  (.leaf fun(x4,x5) N R Z=>bif x4 !=0 then(N (bitI .and .i64 x4 (w64 (x4-1)),w64 (x5+1)))else(Z (.inl x5)))))
 (.leaf fun x6 N R Z=>R x6))
noncomputable def f164 {α:Type} (k:Nat) (x1:Int) (K:Int→Option α):Option α:=
  (s164 k).F x1 (fun x7=>K x7) (fun x7=>K x7) fun z=>nomatch z
noncomputable def p164 (k:Nat):Spec:={ own:=[false],run:=fun a o K=>(d80.dec a o).bind fun x=>f164 k x fun x7=>K (o16 x7) }
theorem i164 (k:Nat):Impl Tryz.prog glTab 164 (p164 k):=
  .of w0 (l:=e164 k) trivial (s164 k) (d1_ok (dP_ok tI)) _ fun x7 K=>K (o16 x7)
noncomputable def S134_2:((List Int)×Int)→St:=fun(x1,x2)=>stC [(1, .sl 0 none none),(2,pI x2)] [.L tY (x1:List Int)]
noncomputable def S134_4:((List Int)×Int)→St:=fun(x1,x2)=>stC [(1, .sl 0 none none),(3,pI x2)] [.L tY (x1:List Int)]
noncomputable def S134_6:((List Int)×Int)→St:=fun(x1,x2)=>stC [(1, .sl 0 none none),(4,pI x2)] [.L tY (x1:List Int)]
noncomputable def S134_8:((List Int))→St:=fun x1=>stC [(1, .sl 0 none none)] [.L tY (x1:List Int)]
noncomputable def e134 (k:Nat):List (Nat×List Nat×Spec):=[(164,[],p164 k)]
noncomputable def h134:H:=(hr (.n [] [.own 1 none tY, .kp [1]] .d (.n [] [.kp [1]] (.n [] [.kp [1,2]] .d (.n [] [.kp [1]] (.n [.kp [1,2]] [.kp [1,2]] (hl (hr (hr (.n [.kp [1]] [] .d .d)))) .d) .d)) (.n [] [.kp [1]] (.n [] [.kp [1,3]] .d (.n [] [.kp [1]] (.n [.kp [1,3]] [.kp [1,3]] (hl (hr (hr (.n [.kp [1]] [] .d .d)))) .d) .d)) (.n [] [.kp [1]] (.n [] [.kp [1,4]] .d (.n [] [.kp [1]] (.n [.kp [1,4]] [.kp [1,4]] (hl (hr (hr (.n [.kp [1]] [] .d .d)))) .d) .d)) (hr (.n [.kp [0]] [] .d .d)))))))
noncomputable def s134 (k:Nat):SumT (mkE (e134 k)) 0 k (bodyOf Tryz.f134) h134 [.kp [0]] d119.St S119_1 S119_1 q0:=
 .pre 2 S134_8 (fun() N R Z=>N [])
 (.seq S134_8
 (.pre 1 S134_2 (fun x1 N R Z=>N (x1,0))
  (.blockP (.loop S134_2 (fun x=>x)
  (.leaf fun(x4,x5) N R Z=>bif decide (x5<256)then(f164 k x5 fun x6=>bif x6==3 then(if(x4.length+[w8 x5].length)*1≤room then(N (x4++[w8 x5],w64 (x5+1)))else none)else(N (x4,w64 (x5+1))))else(Z (.inl x4))))))
 (.seq S134_8
 (.pre 1 S134_4 (fun x7 N R Z=>N (x7,0))
  (.blockP (.loop S134_4 (fun x=>x)
  (.leaf fun(x10,x11) N R Z=>bif decide (((x10.length:Nat):Int)<64)then(f164 k x11 fun x12=>bif x12==5 then(if(x10.length+[w8 x11].length)*1≤room then(N (x10++[w8 x11],w64 (x11+1)))else none)else(N (x10,w64 (x11+1))))else(Z (.inl x10))))))
 (.seq S134_8
 (.pre 1 S134_6 (fun x13 N R Z=>N (x13,0))
  (.blockP (.loop S134_6 (fun x=>x)
  (.leaf fun(x16,x17) N R Z=>bif decide (x17<8)then(if 0≤wu64 x17 then(if(x16.length+[w8 (1*2^(min (wu64 x17).toNat 8))].length)*1≤room then(N (x16++[w8 (1*2^(min (wu64 x17).toNat 8))],w64 (x17+1)))else none)else none)else(Z (.inl x16))))))
 (.leaf fun x18 N R Z=>R x18))))
noncomputable def f134 {α:Type} (k:Nat) (K:(List Int)→Option α):Option α:=
  (s134 k).F () (fun x19=>K x19) (fun x19=>K x19) fun z=>nomatch z
noncomputable def p134 (k:Nat):Spec:={ own:=[],run:=fun a o K=>(d119.dec a o).bind fun x=>f134 k fun x19=>K (o119 x19) }
theorem i134 (k:Nat):Impl Tryz.prog glTab 134 (p134 k):=
  .of w0 (l:=e134 k) ⟨i164 k,trivial⟩ (s134 k) (dN_ok) _ fun x19 K=>K (o119 x19)
noncomputable def S111_2:((List Int)×(List Int)×Int×Int×Int)→St:=fun(x1,x2,x3,x4,x5)=>stC [(0, .p (.sl tY) (x1:List Int)),(3, .sl 0 none none),(4,pY x3),(5,pI x4),(6,pI x5)] [.L tY (x2:List Int)]
noncomputable def S111_4:((List Int)×(List Int)×Int×Int)→St:=fun(x1,x2,x3,x4)=>stC [(0, .p (.sl tY) (x1:List Int)),(3, .sl 0 none none),(4,pY x3),(5,pI x4)] [.L tY (x2:List Int)]
noncomputable def S111_9:((List Int)×(List Int)×Int)→St:=fun(x1,x2,x3)=>stC [(0, .p (.sl tY) (x1:List Int)),(3, .sl 0 none none),(4,pY x3)] [.L tY (x2:List Int)]
noncomputable def e111 (k:Nat):List (Nat×List Nat×Spec):=[(134,[],p134 k)]
noncomputable def h111:H:=(hr (hr (.n [] [.kp [0,3,4]] .d (.n [] [.kp [4]] (.n [] [.kp [0,3,4,5]] .d (.n [] [.kp [4]] (.n [.kp [0,3,4,5]] [.kp [0,3,4,5]] (.n [] [.kp [0,3,4,5]] (hr (hr (.n [.kp [4]] [] .d .d))) (hl (.n [] [.kp [0,3,4,5]] (.n [] [.kp [0,3,4,5,6]] .d (.n [] [.kp [0,3,4,5]] (.n [.kp [0,3,4,5,6]] [.kp [0,3,4,5,6]] (hl (hr (hr (.n [.kp [0,3,4,5]] [] .d .d)))) .d) .d)) .d))) .d) .d)) (hr (.n [.kp [2]] [] .d .d))))))
noncomputable def s111 (k:Nat):SumT (mkE (e111 k)) 0 k (bodyOf Tryz.f111) h111 [.kp [2]] d79.St S175_1 S175_1 q0:=
 .pre 3 S111_9 (fun x1 N R Z=>f134 k fun x2=>N (x1,x2,0))
 (.seq S146_1
 (.pre 1 S111_4 (fun(x3,x4,x5) N R Z=>N (x3,x4,x5,0))
  (.blockP (.loop S111_4 (fun x=>x)
  (.pre 1 S111_4 (fun(x10,x11,x12,x13) N R Z=>bif decide (x13<(x10.length:Int))then(N (x10,x11,x12,x13))else(Z (.inl x12)))
  (.seq S111_4
  (.block (.pre 1 S111_2 (fun(x14,x15,x16,x17) N R Z=>N (x14,x15,x16,x17,0))
   (.blockP (.loop S111_2 (fun x=>x)
   (.leaf fun(x24,x25,x26,x27,x28) N R Z=>bif decide (x28<8)then(if 0≤x27∧x27<(x24.length:Int)then(if 0≤wu64 x28 then(bif (bitI .and .u8 (Int.fdiv (x24.getD (x27.toNat) (0:Int)) (2^(min (wu64 x28).toNat 8))) 1)==1 then(if 0≤w64 ((w64 (8*x27))+x28)∧w64 ((w64 (8*x27))+x28)<(x25.length:Int)then(N (x24,x25,bitI .xor .u8 x26 (x25.getD ((w64 ((w64 (8*x27))+x28)).toNat) (0:Int)),x27,w64 (x28+1)))else none)else(N (x24,x25,x26,x27,w64 (x28+1))))else none)else none)else(Z (.inl (x24,x25,x26,x27))))))))
  (.leaf fun(x29,x30,x31,x32) N R Z=>N (x29,x30,x31,w64 (x32+1))))))))
 (.leaf fun x18 N R Z=>R x18))
noncomputable def f111 {α:Type} (k:Nat) (x1:(List Int)) (K:Int→Option α):Option α:=
  (s111 k).F x1 (fun x33=>K x33) (fun x33=>K x33) fun z=>nomatch z
noncomputable def p111 (k:Nat):Spec:={ own:=[false],run:=fun a o K=>(d79.dec a o).bind fun x=>f111 k x fun x33=>K (o175 x33) }
theorem i111 (k:Nat):Impl Tryz.prog glTab 111 (p111 k):=
  .of w0 (l:=e111 k) ⟨i134 k,trivial⟩ (s111 k) (d1_ok (dP_ok (.sl tY))) _ fun x33 K=>K (o175 x33)
noncomputable def e163 (k:Nat):List (Nat×List Nat×Spec):=[(111,[],p111 k)]
noncomputable def h163:H:=(hr (hb (hr (hl (hr (.n [.kp [2,3]] [] .d .d)))) (hr (.n [.kp [2,3]] [] .d .d))))
noncomputable def s163 (k:Nat):SumT (mkE (e163 k)) 0 k (bodyOf Tryz.f163) h163 [.kp [2,3]] d79.St S151_1 S151_1 q0:=
 .leaf fun x1 N R Z=>bif (x1.length:Int) !=9 then(R (0,7))else(f111 k x1 fun x4=>R (x4,0))
noncomputable def f163 {α:Type} (k:Nat) (x1:(List Int)) (K:Int→Int→Option α):Option α:=
  (s163 k).F x1 (fun(x2,x3)=>K x2 x3) (fun(x2,x3)=>K x2 x3) fun z=>nomatch z
noncomputable def p163 (k:Nat):Spec:={ own:=[false],run:=fun a o K=>(d79.dec a o).bind fun x=>f163 k x fun x2 x3=>K (o151 (x2,x3)) }
theorem i163 (k:Nat):Impl Tryz.prog glTab 163 (p163 k):=
  .of w0 (l:=e163 k) ⟨i111 k,trivial⟩ (s163 k) (d1_ok (dP_ok (.sl tY))) _ fun(x2,x3) K=>K (o151 (x2,x3))
noncomputable def S129_2:(DT8×Int×(List Int)×(List Int)×Int)→St:=fun(x1,x2,x3,x4,x5)=>stC [(2, .ptr 0 0 0),(5,pY x2),(7, .sl 1 none none),(8, .sl 2 none none),(9,pI x5)] [.B (.cn (pI x1.1) (.cn (.sl 3 none none) (.cn (.sl 4 none none) .e0))), .L tY (x3:List Int), .L tY (x4:List Int), .L tY (x1.2.1:List Int), .L tI (x1.2.2:List Int)]
noncomputable def S129_4:DT8→St:=fun x1=>stC [(2, .ptr 0 0 0)] [.B (.cn (pI x1.1) (.cn (.sl 1 none none) (.cn (.sl 2 none none) .e0))), .L tY (x1.2.1:List Int), .L tI (x1.2.2:List Int)]
noncomputable def S129_5:(DT8×Int×(List Int)×(List Int))→St:=fun(x1,x2,x3,x4)=>stC [(2, .ptr 0 0 0),(5,pY x2),(7, .sl 1 none none),(8, .sl 2 none none)] [.B (.cn (pI x1.1) (.cn (.sl 3 none none) (.cn (.sl 4 none none) .e0))), .L tY (x3:List Int), .L tY (x4:List Int), .L tY (x1.2.1:List Int), .L tI (x1.2.2:List Int)]
noncomputable def e129 (k:Nat):List (Nat×List Nat×Spec):=[(134,[],p134 k),(163,[],p163 k)]
noncomputable def h129:H:=(hr (hr (hb (hr (hl (hr (.n [.own 2 (some 1) tY, .own 2 (some 2) tI, .kp [2,3,4]] [] .d .d)))) (hr (hb (hr (hl (hr (.n [.own 2 (some 1) tY, .own 2 (some 2) tI, .kp [2,3,4]] [] .d .d)))) (.n [] [.own 2 (some 1) tY, .own 2 (some 2) tI, .kp [2,5,7,8]] .d (.n [] [.kp [2]] (.n [] [.kp [2,5,7,8,9]] .d (.n [] [.kp [2]] (.n [.kp [2,5,7,8,9]] [.kp [2,5,7,8,9]] (hb (hr (hr (.n [.kp [2]] [] .d .d))) (hl (hl (hr (hl (hr (hr (.n [.own 2 (some 1) tY, .own 2 (some 2) tI, .kp [2,3,4]] [] .d .d)))))))) .d) .d)) (hr (.n [.own 2 (some 1) tY, .own 2 (some 2) tI, .kp [2,3,4]] [] .d .d)))))))))
noncomputable def s129 (k:Nat):SumT (mkE (e129 k)) 0 k (bodyOf Tryz.f129) h129 [.own 2 (some 1) tY, .own 2 (some 2) tI, .kp [2,3,4]] d79.St S103_1 S103_1 q0:=
 .pre 6 S129_5 (fun x1 N R Z=>f163 k x1 fun x2 x3=>bif x3 !=0 then(R ((0,[],[]),0,x3))else(if x1.length*1≤room then(bif x2==0 then(R ((0,x1,[]),(-1),0))else(f134 k fun x7=>N ((0,[],[]),x2,x1,x7)))else none))
 (.seq S129_4
 (.pre 1 S129_2 (fun(x8,x9,x10,x11) N R Z=>N (x8,x9,x10,x11,0))
  (.blockP (.loop S129_2 (fun x=>x)
  (.leaf fun(x17,x18,x19,x20,x21) N R Z=>bif decide (x21<72)then(if 0≤x21∧x21<(x20.length:Int)then(bif (x20.getD (x21.toNat) (0:Int))==x18 then(if 0≤w64 (Int.tdiv x21 8)∧w64 (Int.tdiv x21 8)<(x19.length:Int)then(if 0≤wu64 (Int.tmod x21 8)then(if 0≤w64 (Int.tdiv x21 8)∧w64 (Int.tdiv x21 8)<(x19.length:Int)then(R ((1,x19.set ((w64 (Int.tdiv x21 8)).toNat) (bitI .xor .u8 (x19.getD ((w64 (Int.tdiv x21 8)).toNat) (0:Int)) (w8 (1*2^(min (wu64 (Int.tmod x21 8)).toNat 8)))),[w64 (Int.tdiv x21 8)]),x21,0))else none)else none)else none)else(N (x17,x18,x19,x20,w64 (x21+1))))else none)else(Z (.inl x17))))))
 (.leaf fun x22 N R Z=>R ((2,[],[]),(-1),0)))
noncomputable def f129 {α:Type} (k:Nat) (x1:(List Int)) (K:DT8→Int→Int→Option α):Option α:=
  (s129 k).F x1 (fun(x4,x5,x6)=>K x4 x5 x6) (fun(x4,x5,x6)=>K x4 x5 x6) fun z=>nomatch z
noncomputable def p129 (k:Nat):Spec:={ own:=[false],run:=fun a o K=>(d79.dec a o).bind fun x=>f129 k x fun x4 x5 x6=>K (o103 (x4,x5,x6)) }
theorem i129 (k:Nat):Impl Tryz.prog glTab 129 (p129 k):=
  .of w0 (l:=e129 k) ⟨i134 k,i163 k,trivial⟩ (s129 k) (d1_ok (dP_ok (.sl tY))) _ fun(x4,x5,x6) K=>K (o103 (x4,x5,x6))
noncomputable def S105_2:((List Int)×DT8)→St:=fun(x1,x2)=>stC [(1, .p (.sl tY) (x1:List Int)),(6, .ptr 0 0 0)] [.B (.cn (pI x2.1) (.cn (.sl 1 none none) (.cn (.sl 2 none none) .e0))), .L tY (x2.2.1:List Int), .L tI (x2.2.2:List Int)]
noncomputable def e105 (k:Nat):List (Nat×List Nat×Spec):=[(78,[],p78 k),(86,[],p86 k),(128,[],p128 k),(129,[],p129 k)]
noncomputable def h105:H:=(hr (hb (hr (hl (hr (.n [.own 6 (some 1) tY, .own 6 (some 2) tI, .kp [6,7]] [] .d .d)))) (hb (hr (hl (hr (.n [.own 6 (some 1) tY, .own 6 (some 2) tI, .kp [6,7]] [] .d .d)))) (hb (hr (hr (hl (hr (.n [.own 6 (some 1) tY, .own 6 (some 2) tI, .kp [6,7]] [] .d .d))))) (.n [] [.own 6 (some 1) tY, .own 6 (some 2) tI, .kp [1,6]] (hr (hl (hr (.n [.own 6 (some 1) tY, .own 6 (some 2) tI, .kp [6,7]] [] .d .d)))) (hr (hr (.n [.own 6 (some 1) tY, .own 6 (some 2) tI, .kp [6,7]] [] .d .d))))))))
noncomputable def s105 (k:Nat):SumT (mkE (e105 k)) 0 k (bodyOf Tryz.f105) h105 [.own 6 (some 1) tY, .own 6 (some 2) tI, .kp [6,7]] d104.St S104_1 S104_1 q0:=
 .pre 5 S105_2 (fun(x1,x2,x3) N R Z=>f78 k x1 fun x4=>bif !x4 then(R ((0,[],[]),1))else(bif (x2.length:Int) !=(w64 (x1.2.1+x1.2.2.1))then(R ((0,[],[]),7))else(f86 k x1 x3 fun x7=>bif x7 !=0 then(R ((0,[],[]),x7))else(bif x1.1==2 then(f128 k x1 x2 x3 fun x8 x9=>R (x8,x9))else(N (x2,(0,[],[])))))))
 (.leaf fun(x10,x11) N R Z=>f129 k x10 fun x12 x13 x14=>R (x12,x14))
noncomputable def f105 {α:Type} (k:Nat) (x1:DT5) (x2:(List Int)) (x3:(List Int)) (K:DT8→Int→Option α):Option α:=
  (s105 k).F (x1,x2,x3) (fun(x5,x6)=>K x5 x6) (fun(x5,x6)=>K x5 x6) fun z=>nomatch z
noncomputable def p105 (k:Nat):Spec:={ own:=[false,false,false],run:=fun a o K=>(d104.dec a o).bind fun x=>f105 k x.1 x.2.1 x.2.2 fun x5 x6=>K (o104 (x5,x6)) }
theorem i105 (k:Nat):Impl Tryz.prog glTab 105 (p105 k):=
  .of w0 (l:=e105 k) ⟨i78 k,i86 k,i128 k,i129 k,trivial⟩ (s105 k) (dA_ok (dS_ok T5) (dA_ok (dP_ok (.sl tY)) (d1_ok (dP_ok (.sl tI))))) _ fun(x5,x6) K=>K (o104 (x5,x6))
noncomputable def d87:Dec (DT2×DT0×(List Int)):=dA (dS T2) (dA (dS T0) (d1 (dP (.sl tI))))
noncomputable def e87 (k:Nat):List (Nat×List Nat×Spec):=[(105,[],p105 k)]
noncomputable def h87:H:=(hr (hb (hr (hl (hr (.n [.own 6 (some 1) tY, .own 6 (some 2) tI, .kp [6]] [] .d .d)))) (hr (hb (hr (hl (hr (.n [.own 6 (some 1) tY, .own 6 (some 2) tI, .kp [6]] [] .d .d)))) (hr (.n [.own 6 (some 1) tY, .own 6 (some 2) tI, .kp [6]] [] .d .d))))))
noncomputable def s87 (k:Nat):SumT (mkE (e87 k)) 0 k (bodyOf Tryz.f87) h87 [.own 6 (some 1) tY, .own 6 (some 2) tI, .kp [6]] d87.St S46_1 S46_1 q0:=
 .leaf fun(x1,x2,x3) N R Z=>bif x2.2.2 then(R (3,[],[]))else(f105 k (x1.2.2.2.2.2.2.1,x1.2.2.2.2.2.2.2.1,x1.2.2.2.2.2.2.2.2.1,x1.2.2.2.2.2.2.2.2.2.1) x2.2.1 x3 fun x5 x6=>bif x5.1==2 then(R (2,[],[]))else(if 0≤(0:Int)∧(0:Int)≤x1.2.2.2.2.2.2.2.1∧x1.2.2.2.2.2.2.2.1≤(x5.2.1.length:Int)then(if(x5.2.1.take (x1.2.2.2.2.2.2.2.1.toNat)).length*1≤room then(R (x5.1,x5.2.1.take (x1.2.2.2.2.2.2.2.1.toNat),x5.2.2))else none)else none))
noncomputable def f87 {α:Type} (k:Nat) (x1:DT2) (x2:DT0) (x3:(List Int)) (K:DT8→Option α):Option α:=
  (s87 k).F (x1,x2,x3) (fun x4=>K x4) (fun x4=>K x4) fun z=>nomatch z
noncomputable def p87 (k:Nat):Spec:={ own:=[false,false,false],run:=fun a o K=>(d87.dec a o).bind fun x=>f87 k x.1 x.2.1 x.2.2 fun x4=>K (o46 x4) }
theorem i87 (k:Nat):Impl Tryz.prog glTab 87 (p87 k):=
  .of w0 (l:=e87 k) ⟨i105 k,trivial⟩ (s87 k) (dA_ok (dS_ok T2) (dA_ok (dS_ok T0) (d1_ok (dP_ok (.sl tI))))) _ fun x4 K=>K (o46 x4)
noncomputable def e53 (k:Nat):List (Nat×List Nat×Spec):=[(85,[],p85 k),(86,[],p86 k),(87,[],p87 k)]
noncomputable def h53:H:=(hr (hr (hb (hr (hl (hr (.n [.own 6 (some 1) tY, .own 6 (some 2) tI, .kp [6,7]] [] .d .d)))) (hb (hr (hr (hl (hr (.n [.own 6 (some 1) tY, .own 6 (some 2) tI, .kp [6,7]] [] .d .d))))) (hr (.n [.own 6 (some 1) tY, .own 6 (some 2) tI, .kp [6,7]] [] .d .d))))))
noncomputable def s53 (k:Nat):SumT (mkE (e53 k)) 0 k (bodyOf Tryz.f53) h53 [.own 6 (some 1) tY, .own 6 (some 2) tI, .kp [6,7]] d18.St S104_1 S104_1 q0:=
 .leaf fun(x1,x2,x3) N R Z=>f85 k x1 x2 fun x4 x5=>bif x5 !=0 then(R ((0,[],[]),x5))else(f86 k (x1.2.2.2.2.2.2.1,x1.2.2.2.2.2.2.2.1,x1.2.2.2.2.2.2.2.2.1,x1.2.2.2.2.2.2.2.2.2.1) x3 fun x8=>bif x8 !=0 then(R ((0,[],[]),x8))else(f87 k x1 x4 x3 fun x9=>R (x9,0)))
noncomputable def f53 {α:Type} (k:Nat) (x1:DT2) (x2:Int) (x3:(List Int)) (K:DT8→Int→Option α):Option α:=
  (s53 k).F (x1,x2,x3) (fun(x6,x7)=>K x6 x7) (fun(x6,x7)=>K x6 x7) fun z=>nomatch z
noncomputable def p53 (k:Nat):Spec:={ own:=[false,false,false],run:=fun a o K=>(d18.dec a o).bind fun x=>f53 k x.1 x.2.1 x.2.2 fun x6 x7=>K (o104 (x6,x7)) }
theorem i53 (k:Nat):Impl Tryz.prog glTab 53 (p53 k):=
  .of w0 (l:=e53 k) ⟨i85 k,i86 k,i87 k,trivial⟩ (s53 k) (dA_ok (dS_ok T2) (dA_ok (dP_ok tI) (d1_ok (dP_ok (.sl tI))))) _ fun(x6,x7) K=>K (o104 (x6,x7))
noncomputable def e130 (k:Nat):List (Nat×List Nat×Spec):=[]
noncomputable def h130:H:=(hr (hr (.n [.kp [2]] [] .d .d)))
noncomputable def s130 (k:Nat):SumT (mkE (e130 k)) 0 k (bodyOf Tryz.f130) h130 [.kp [2]] d79.St S37_1 S37_1 q0:=
 .leaf fun x1 N R Z=>bif decide ((x1.length:Int)≤255)then(bif (x1.length:Int)==0 then(R true)else(if 0≤w64 ((x1.length:Int)-1)∧w64 ((x1.length:Int)-1)<(x1.length:Int)then(R ((x1.getD ((w64 ((x1.length:Int)-1)).toNat) (0:Int)) !=0))else none))else(R false)
noncomputable def f130 {α:Type} (k:Nat) (x1:(List Int)) (K:Bool→Option α):Option α:=
  (s130 k).F x1 (fun x2=>K x2) (fun x2=>K x2) fun z=>nomatch z
noncomputable def p130 (k:Nat):Spec:={ own:=[false],run:=fun a o K=>(d79.dec a o).bind fun x=>f130 k x fun x2=>K (o37 x2) }
theorem i130 (k:Nat):Impl Tryz.prog glTab 130 (p130 k):=
  .of w0 (l:=e130 k) trivial (s130 k) (d1_ok (dP_ok (.sl tY))) _ fun x2 K=>K (o37 x2)
noncomputable def S107_2:((List Int)×(List Int)×(List Int)×Int×Int)→St:=fun(x1,x2,x3,x4,x5)=>stC [(0, .p (.sl tY) (x1:List Int)),(1, .p (.sl tY) (x2:List Int)),(6, .sl 0 none none),(7,pI x4),(8,pI x5)] [.L tY (x3:List Int)]
noncomputable def S107_4:((List Int)×(List Int)×(List Int)×Int)→St:=fun(x1,x2,x3,x4)=>stC [(0, .p (.sl tY) (x1:List Int)),(1, .p (.sl tY) (x2:List Int)),(6, .sl 0 none none),(7,pI x4)] [.L tY (x3:List Int)]
noncomputable def e107 (k:Nat):List (Nat×List Nat×Spec):=[(130,[],p130 k),(131,[],p131 k)]
noncomputable def h107:H:=(hr (hb (hr (hl (hr (.n [.own 4 none tY, .kp [4,5]] [] .d .d)))) (hb (hr (hl (hr (.n [.own 4 none tY, .kp [4,5]] [] .d .d)))) (hb (hr (hl (hr (.n [.own 4 none tY, .kp [4,5]] [] .d .d)))) (.n [] [.kp [0,1,6]] .d (.n [] [.kp [6]] (.n [] [.kp [0,1,6,7]] .d (.n [] [.kp [6]] (.n [.kp [0,1,6,7]] [.kp [0,1,6,7]] (.n [] [.kp [0,1,6,7]] (hr (hr (.n [.kp [6]] [] .d .d))) (hl (.n [] [.kp [0,1,6,7]] (.n [] [.kp [0,1,6,7,8]] .d (.n [] [.kp [0,1,6,7]] (.n [.kp [0,1,6,7,8]] [.kp [0,1,6,7,8]] (hl (hr (hr (.n [.kp [0,1,6,7]] [] .d .d)))) .d) .d)) .d))) .d) .d)) (hr (.n [.own 4 none tY, .kp [4,5]] [] .d .d))))))))
noncomputable def s107 (k:Nat):SumT (mkE (e107 k)) 0 k (bodyOf Tryz.f107) h107 [.own 4 none tY, .kp [4,5]] d120.St S168_1 S168_1 q0:=
 .pre 5 S168_6 (fun(x1,x2) N R Z=>f130 k x1 fun x3=>bif !x3 then(R ([],1))else(f130 k x2 fun x6=>bif !x6 then(R ([],1))else(bif (x1.length:Int)==0 then(R ([],0))else(bif (x2.length:Int)==0 then(R ([],0))else(bif decide (w64 ((w64 ((x1.length:Int)+(x2.length:Int)))-2)>254)then(R ([],3))else(if 0≤w64 ((w64 ((x1.length:Int)+(x2.length:Int)))-1)∧w64 ((w64 ((x1.length:Int)+(x2.length:Int)))-1)≤w64 ((w64 ((x1.length:Int)+(x2.length:Int)))-1)∧(w64 ((w64 ((x1.length:Int)+(x2.length:Int)))-1))*1≤room∧w64 ((w64 ((x1.length:Int)+(x2.length:Int)))-1)<9223372036854775808 then(N (x1,x2,List.replicate ((w64 ((w64 ((x1.length:Int)+(x2.length:Int)))-1)).toNat) (0:Int)))else none))))))
 (.seq S168_5
 (.pre 1 S107_4 (fun(x7,x8,x9) N R Z=>N (x7,x8,x9,0))
  (.blockP (.loop S107_4 (fun x=>x)
  (.pre 1 S107_4 (fun(x14,x15,x16,x17) N R Z=>bif decide (x17<(x14.length:Int))then(N (x14,x15,x16,x17))else(Z (.inl x16)))
  (.seq S107_4
  (.block (.pre 1 S107_2 (fun(x18,x19,x20,x21) N R Z=>N (x18,x19,x20,x21,0))
   (.blockP (.loop S107_2 (fun x=>x)
   (.leaf fun(x28,x29,x30,x31,x32) N R Z=>bif decide (x32<(x29.length:Int))then(if 0≤w64 (x31+x32)∧w64 (x31+x32)<(x30.length:Int)then(if 0≤x31∧x31<(x28.length:Int)then(if 0≤x32∧x32<(x29.length:Int)then(f131 k (x28.getD (x31.toNat) (0:Int)) (x29.getD (x32.toNat) (0:Int)) fun x33=>if 0≤w64 (x31+x32)∧w64 (x31+x32)<(x30.length:Int)then(N (x28,x29,x30.set ((w64 (x31+x32)).toNat) (bitI .xor .u8 (x30.getD ((w64 (x31+x32)).toNat) (0:Int)) x33),x31,w64 (x32+1)))else none)else none)else none)else none)else(Z (.inl (x28,x29,x30,x31))))))))
  (.leaf fun(x34,x35,x36,x37) N R Z=>N (x34,x35,x36,w64 (x37+1))))))))
 (.leaf fun x22 N R Z=>R (x22,0)))
noncomputable def f107 {α:Type} (k:Nat) (x1:(List Int)) (x2:(List Int)) (K:(List Int)→Int→Option α):Option α:=
  (s107 k).F (x1,x2) (fun(x4,x5)=>K x4 x5) (fun(x4,x5)=>K x4 x5) fun z=>nomatch z
noncomputable def p107 (k:Nat):Spec:={ own:=[false,false],run:=fun a o K=>(d120.dec a o).bind fun x=>f107 k x.1 x.2 fun x4 x5=>K (o168 (x4,x5)) }
theorem i107 (k:Nat):Impl Tryz.prog glTab 107 (p107 k):=
  .of w0 (l:=e107 k) ⟨i130 k,i131 k,trivial⟩ (s107 k) (dA_ok (dP_ok (.sl tY)) (d1_ok (dP_ok (.sl tY)))) _ fun(x4,x5) K=>K (o168 (x4,x5))
noncomputable def e110 (k:Nat):List (Nat×List Nat×Spec):=[]
noncomputable def h110:H:=(hr (.n [] [.kp [0,3]] .d (hb (.n [] [.kp [0,3]] (.n [.kp [0,3]] [.kp [0,3]] (hl (hr (hr (.n [.kp [0,3]] [] .d .d)))) .d) .d) (hr (.n [.kp [2]] [] .d .d)))))
noncomputable def s110 (k:Nat):SumT (mkE (e110 k)) 0 k (bodyOf Tryz.f110) h110 [.kp [2]] d79.St S149_1 S149_1 q0:=
 .pre 2 S79_2 (fun x1 N R Z=>N (x1,(x1.length:Int)))
 (.seq S79_2
 (.block (.loop S79_2 (fun x=>x)
  (.leaf fun(x4,x5) N R Z=>bif decide (x5>0)then(if 0≤w64 (x5-1)∧w64 (x5-1)<(x4.length:Int)then(bif (x4.getD ((w64 (x5-1)).toNat) (0:Int))==0 then(N (x4,w64 (x5-1)))else(Z (.inl (x4,x5))))else none)else(Z (.inl (x4,x5))))))
 (.leaf fun(x6,x7) N R Z=>if 0≤(0:Int)∧(0:Int)≤x7∧x7≤(x6.length:Int)then(if(x6.take (x7.toNat)).length*1≤room then(R (x6.take (x7.toNat)))else none)else none))
noncomputable def f110 {α:Type} (k:Nat) (x1:(List Int)) (K:(List Int)→Option α):Option α:=
  (s110 k).F x1 (fun x8=>K x8) (fun x8=>K x8) fun z=>nomatch z
noncomputable def p110 (k:Nat):Spec:={ own:=[false],run:=fun a o K=>(d79.dec a o).bind fun x=>f110 k x fun x8=>K (o119 x8) }
theorem i110 (k:Nat):Impl Tryz.prog glTab 110 (p110 k):=
  .of w0 (l:=e110 k) trivial (s110 k) (d1_ok (dP_ok (.sl tY))) _ fun x8 K=>K (o119 x8)
noncomputable def S109_1:((List Int)×(List Int)×Int)→St:=fun(x1,x2,x3)=>stC [(4, .sl 0 none none),(5, .sl 1 none none),(6,pI x3)] [.L tY (x1:List Int), .L tY (x2:List Int)]
noncomputable def S109_2:((List Int)×(List Int)×(List Int)×Int×Int×Int×Int)→St:=fun(x1,x2,x3,x4,x5,x6,x7)=>stC [(1, .p (.sl tY) (x1:List Int)),(7, .sl 0 none none),(8, .sl 1 none none),(9,pY x4),(11,pI x5),(12,pY x6),(13,pI x7)] [.L tY (x2:List Int), .L tY (x3:List Int)]
noncomputable def S109_4:((List Int)×(List Int)×(List Int)×Int×Int)→St:=fun(x1,x2,x3,x4,x5)=>stC [(1, .p (.sl tY) (x1:List Int)),(7, .sl 0 none none),(8, .sl 1 none none),(9,pY x4),(11,pI x5)] [.L tY (x2:List Int), .L tY (x3:List Int)]
noncomputable def S109_8:((List Int)×(List Int))→St:=fun(x1,x2)=>stC [(7, .sl 0 none none),(8, .sl 1 none none)] [.L tY (x1:List Int), .L tY (x2:List Int)]
noncomputable def S109_9:((List Int)×(List Int)×(List Int)×(List Int)×Int)→St:=fun(x1,x2,x3,x4,x5)=>stC [(0, .p (.sl tY) (x1:List Int)),(1, .p (.sl tY) (x2:List Int)),(7, .sl 0 none none),(8, .sl 1 none none),(9,pY x5)] [.L tY (x3:List Int), .L tY (x4:List Int)]
noncomputable def e109 (k:Nat):List (Nat×List Nat×Spec):=[(110,[],p110 k),(130,[],p130 k),(131,[],p131 k),(133,[],p133 k)]
noncomputable def h109:H:=(hr (hb (hr (hl (hr (.n [.own 4 none tY, .own 5 none tY, .kp [4,5,6]] [] .d .d)))) (hb (hr (hl (hr (.n [.own 4 none tY, .own 5 none tY, .kp [4,5,6]] [] .d .d)))) (hr (hr (hr (.n [] [.own 8 none tY, .kp [0,1,7,8,9]] .d (.n [] [.kp [7,8]] (.n [] [.kp [1,7,8,9,11]] .d (.n [] [.kp [7,8]] (.n [.kp [1,7,8,9,11]] [.kp [1,7,8,9,11]] (.n [] [.kp [1,7,8,9,11]] (hr (hr (.n [.kp [7,8]] [] .d .d))) (hl (.n [] [.kp [1,7,8,9,11]] (hr (hr (.n [] [.kp [1,7,8,9,11,12,13]] .d (.n [] [.kp [1,7,8,9,11]] (.n [.kp [1,7,8,9,11,12,13]] [.kp [1,7,8,9,11,12,13]] (hl (hr (hr (.n [.kp [1,7,8,9,11]] [] .d .d)))) .d) .d)))) .d))) .d) .d)) (hr (.n [.own 4 none tY, .own 5 none tY, .kp [4,5,6]] [] .d .d))))))))))
noncomputable def s109 (k:Nat):SumT (mkE (e109 k)) 0 k (bodyOf Tryz.f109) h109 [.own 4 none tY, .own 5 none tY, .kp [4,5,6]] d120.St S109_1 S109_1 q0:=
 .pre 7 S109_9 (fun(x1,x2) N R Z=>f130 k x1 fun x3=>bif !x3 then(R ([],[],1))else(f130 k x2 fun x7=>bif !x7 then(R ([],[],1))else(bif (x2.length:Int)==0 then(R ([],[],4))else(if x1.length*1≤room then(bif decide ((x1.length:Int)≥(x2.length:Int))then(if 0≤w64 ((w64 ((x1.length:Int)-(x2.length:Int)))+1)∧w64 ((w64 ((x1.length:Int)-(x2.length:Int)))+1)≤w64 ((w64 ((x1.length:Int)-(x2.length:Int)))+1)∧(w64 ((w64 ((x1.length:Int)-(x2.length:Int)))+1))*1≤room∧w64 ((w64 ((x1.length:Int)-(x2.length:Int)))+1)<9223372036854775808 then(if 0≤w64 ((x2.length:Int)-1)∧w64 ((x2.length:Int)-1)<(x2.length:Int)then(f133 k (x2.getD ((w64 ((x2.length:Int)-1)).toNat) (0:Int)) fun x8 x9=>N (x1,x2,x1,List.replicate ((w64 ((w64 ((x1.length:Int)-(x2.length:Int)))+1)).toNat) (0:Int),x8))else none)else none)else(if 0≤w64 ((x2.length:Int)-1)∧w64 ((x2.length:Int)-1)<(x2.length:Int)then(f133 k (x2.getD ((w64 ((x2.length:Int)-1)).toNat) (0:Int)) fun x15 x16=>N (x1,x2,x1,[],x15))else none))else none))))
 (.seq S109_8
 (.pre 1 S109_4 (fun(x10,x11,x12,x13,x14) N R Z=>N (x11,x12,x13,x14,w64 ((x10.length:Int)-(x11.length:Int))))
  (.blockP (.loop S109_4 (fun x=>x)
  (.pre 1 S109_4 (fun(x22,x23,x24,x25,x26) N R Z=>bif decide (x26≥0)then(N (x22,x23,x24,x25,x26))else(Z (.inl (x23,x24))))
  (.seq S109_4
  (.block (.pre 3 S109_2 (fun(x27,x28,x29,x30,x31) N R Z=>if 0≤w64 ((w64 (x31+(x27.length:Int)))-1)∧w64 ((w64 (x31+(x27.length:Int)))-1)<(x28.length:Int)then(f131 k (x28.getD ((w64 ((w64 (x31+(x27.length:Int)))-1)).toNat) (0:Int)) x30 fun x34=>if 0≤x31∧x31<(x29.length:Int)then(N (x27,x28,x29.set (x31.toNat) x34,x30,x31,x34,0))else none)else none)
   (.blockP (.loop S109_2 (fun x=>x)
   (.leaf fun(x42,x43,x44,x45,x46,x47,x48) N R Z=>bif decide (x48<(x42.length:Int))then(if 0≤w64 (x46+x48)∧w64 (x46+x48)<(x43.length:Int)then(if 0≤x48∧x48<(x42.length:Int)then(f131 k x47 (x42.getD (x48.toNat) (0:Int)) fun x49=>if 0≤w64 (x46+x48)∧w64 (x46+x48)<(x43.length:Int)then(N (x42,x43.set ((w64 (x46+x48)).toNat) (bitI .xor .u8 (x43.getD ((w64 (x46+x48)).toNat) (0:Int)) x49),x44,x45,x46,x47,w64 (x48+1)))else none)else none)else none)else(Z (.inl (x42,x43,x44,x45,x46))))))))
  (.leaf fun(x50,x51,x52,x53,x54) N R Z=>N (x50,x51,x52,x53,w64 (x54-1))))))))
 (.leaf fun(x32,x33) N R Z=>f110 k x33 fun x55=>f110 k x32 fun x56=>R (x55,x56,0)))
noncomputable def f109 {α:Type} (k:Nat) (x1:(List Int)) (x2:(List Int)) (K:(List Int)→(List Int)→Int→Option α):Option α:=
  (s109 k).F (x1,x2) (fun(x4,x5,x6)=>K x4 x5 x6) (fun(x4,x5,x6)=>K x4 x5 x6) fun z=>nomatch z
noncomputable def o109:((List Int)×(List Int)×Int)→FRes:=fun(x1,x2,x3)=>{ ret:= .tup (.cn (.sl 0 none none) (.cn (.sl 1 none none) (.cn (pI x3) .e0))),objs:=[.L tY (x1:List Int), .L tY (x2:List Int)] }
noncomputable def p109 (k:Nat):Spec:={ own:=[false,false],run:=fun a o K=>(d120.dec a o).bind fun x=>f109 k x.1 x.2 fun x4 x5 x6=>K (o109 (x4,x5,x6)) }
theorem i109 (k:Nat):Impl Tryz.prog glTab 109 (p109 k):=
  .of w0 (l:=e109 k) ⟨i110 k,i130 k,i131 k,i133 k,trivial⟩ (s109 k) (dA_ok (dP_ok (.sl tY)) (d1_ok (dP_ok (.sl tY)))) _ fun(x4,x5,x6) K=>K (o109 (x4,x5,x6))
noncomputable def S89_4:((List Int)×DT5×(List Int)×Int×(List Int)×Int)→St:=fun(x1,x2,x3,x4,x5,x6)=>stC [(1, .p (.sl tY) (x1:List Int)),(2, .ptr 0 0 0),(6, .sl 1 none none),(8,pI x4),(9, .sl 2 none none),(10,pI x6)] [.B (toC T5 x2), .L tY (x3:List Int), .L tY (x5:List Int)]
noncomputable def S89_6:(Int×(List Int)×(List Int)×Int)→St:=fun(x1,x2,x3,x4)=>stC [(8,pI x1),(12, .sl 0 none none),(14, .sl 1 none none),(15,pI x4)] [.L tY (x2:List Int), .L tY (x3:List Int)]
noncomputable def S89_8:((List Int))→St:=fun x1=>stC [(14, .sl 0 none none)] [.L tY (x1:List Int)]
noncomputable def S89_9:(DT5×Int×(List Int)×(List Int))→St:=fun(x1,x2,x3,x4)=>stC [(2, .ptr 0 0 0),(8,pI x2),(12, .sl 1 none none),(14, .sl 2 none none)] [.B (toC T5 x1), .L tY (x3:List Int), .L tY (x4:List Int)]
noncomputable def S89_10:((List Int)×DT5×(List Int)×Int×(List Int))→St:=fun(x1,x2,x3,x4,x5)=>stC [(1, .p (.sl tY) (x1:List Int)),(2, .ptr 0 0 0),(6, .sl 1 none none),(8,pI x4),(9, .sl 2 none none)] [.B (toC T5 x2), .L tY (x3:List Int), .L tY (x5:List Int)]
noncomputable def e89 (k:Nat):List (Nat×List Nat×Spec):=[(106,[],p106 k),(107,[],p107 k),(108,[],p108 k),(109,[],p109 k),(110,[],p110 k)]
noncomputable def h89:H:=(hr (hb (hr (hl (hr (.n [.own 4 none tY, .kp [4,5]] [] .d .d)))) (hb (hr (hl (hr (.n [.own 4 none tY, .kp [4,5]] [] .d .d)))) (.n [] [.kp [1,2,6]] .d (.n [] [.kp [1,2,6]] (.n [] [.kp [1,2,6,7]] .d (.n [] [.kp [1,2,6]] (.n [.kp [1,2,6,7]] [.kp [1,2,6,7]] (hl (hr (hr (.n [.kp [1,2,6]] [] .d .d)))) .d) .d)) (hr (.n [] [.kp [1,2,6,8,9]] .d (.n [] [.kp [1,2,6,8,9]] (.n [] [.kp [1,2,6,8,9,10]] .d (.n [] [.kp [1,2,6,8,9]] (.n [.kp [1,2,6,8,9,10]] [.kp [1,2,6,8,9,10]] (hl (hr (hr (.n [.kp [1,2,6,8,9]] [] .d .d)))) .d) .d)) (hr (.n [] [.kp [2,8,12,14]] .d (.n [] [.kp [14]] (.n [] [.kp [8,12,14,15]] .d (.n [] [.kp [14]] (.n [.kp [8,12,14,15]] [.kp [8,12,14,15]] (hl (hr (hr (.n [.kp [14]] [] .d .d)))) .d) .d)) (hr (.n [.own 4 none tY, .kp [4,5]] [] .d .d)))))))))))))
noncomputable def s89 (k:Nat):SumT (mkE (e89 k)) 0 k (bodyOf Tryz.f89) h89 [.own 4 none tY, .kp [4,5]] d113.St S168_1 S168_1 q0:=
 .pre 4 S160_11 (fun(x1,x2) N R Z=>f106 k x1 fun x3=>bif !x3 then(R ([],1))else(bif (x2.length:Int) !=x1.2.1 then(R ([],7))else(N (x2,x1,[1]))))
 (.seq S160_11
 (.pre 1 S160_6 (fun(x6,x7,x8) N R Z=>N (x6,x7,x8,0))
  (.blockP (.loop S160_6 (fun x=>x)
  (.leaf fun(x13,x14,x15,x16) N R Z=>bif decide (x16<x14.2.2.1)then(f108 k x16 fun x17=>f107 k x15 [x17,1] fun x18 x19=>N (x13,x14,x18,w64 (x16+1)))else(Z (.inl (x13,x14,x15)))))))
 (.pre 2 S89_10 (fun(x20,x21,x22) N R Z=>if 0≤w64 (x21.2.1+x21.2.2.1)∧w64 (x21.2.1+x21.2.2.1)≤w64 (x21.2.1+x21.2.2.1)∧(w64 (x21.2.1+x21.2.2.1))*1≤room∧w64 (x21.2.1+x21.2.2.1)<9223372036854775808 then(N (x20,x21,x22,w64 (x21.2.1+x21.2.2.1),List.replicate ((w64 (x21.2.1+x21.2.2.1)).toNat) (0:Int)))else none)
 (.seq S89_10
 (.pre 1 S89_4 (fun(x23,x24,x25,x26,x27) N R Z=>N (x23,x24,x25,x26,x27,0))
  (.blockP (.loop S89_4 (fun x=>x)
  (.leaf fun(x34,x35,x36,x37,x38,x39) N R Z=>bif decide (x39<x35.2.1)then(if 0≤x39∧x39<(x34.length:Int)then(if 0≤w64 ((w64 (x37-1))-x39)∧w64 ((w64 (x37-1))-x39)<(x38.length:Int)then(N (x34,x35,x36,x37,x38.set ((w64 ((w64 (x37-1))-x39)).toNat) (x34.getD (x39.toNat) (0:Int)),w64 (x39+1)))else none)else none)else(Z (.inl (x34,x35,x36,x37,x38)))))))
 (.pre 2 S89_9 (fun(x40,x41,x42,x43,x44) N R Z=>f110 k x44 fun x45=>f109 k x45 x42 fun x46 x47 x48=>if x40.length*1≤room then(N (x41,x43,x47,x40))else none)
 (.seq S89_8
 (.pre 1 S89_6 (fun(x49,x50,x51,x52) N R Z=>N (x50,x51,x52,x49.2.1))
  (.blockP (.loop S89_6 (fun x=>x)
  (.leaf fun(x57,x58,x59,x60) N R Z=>bif decide (x60<x57)then(bif decide (w64 ((w64 (x57-1))-x60)<((x58.length:Nat):Int))then(if 0≤w64 ((w64 (x57-1))-x60)∧w64 ((w64 (x57-1))-x60)<(x58.length:Int)then(if(x59.length+[x58.getD ((w64 ((w64 (x57-1))-x60)).toNat) (0:Int)].length)*1≤room then(N (x57,x58,x59++[x58.getD ((w64 ((w64 (x57-1))-x60)).toNat) (0:Int)],w64 (x60+1)))else none)else none)else(if(x59.length+[0].length)*1≤room then(N (x57,x58,x59++[0],w64 (x60+1)))else none))else(Z (.inl x59))))))
 (.leaf fun x61 N R Z=>R (x61,0)))))))
noncomputable def f89 {α:Type} (k:Nat) (x1:DT5) (x2:(List Int)) (K:(List Int)→Int→Option α):Option α:=
  (s89 k).F (x1,x2) (fun(x4,x5)=>K x4 x5) (fun(x4,x5)=>K x4 x5) fun z=>nomatch z
noncomputable def p89 (k:Nat):Spec:={ own:=[false,false],run:=fun a o K=>(d113.dec a o).bind fun x=>f89 k x.1 x.2 fun x4 x5=>K (o168 (x4,x5)) }
theorem i89 (k:Nat):Impl Tryz.prog glTab 89 (p89 k):=
  .of w0 (l:=e89 k) ⟨i106 k,i107 k,i108 k,i109 k,i110 k,trivial⟩ (s89 k) (dA_ok (dS_ok T5) (d1_ok (dP_ok (.sl tY)))) _ fun(x4,x5) K=>K (o168 (x4,x5))
noncomputable def e90 (k:Nat):List (Nat×List Nat×Spec):=[(111,[],p111 k)]
noncomputable def h90:H:=(hr (hb (hr (hl (hr (.n [.kp [2,3]] [] .d .d)))) (hr (.n [.kp [2,3]] [] .d .d))))
noncomputable def s90 (k:Nat):SumT (mkE (e90 k)) 0 k (bodyOf Tryz.f90) h90 [.kp [2,3]] d79.St S151_1 S151_1 q0:=
 .leaf fun x1 N R Z=>bif (x1.length:Int) !=8 then(R (0,7))else(f111 k x1 fun x4=>R (x4,0))
noncomputable def f90 {α:Type} (k:Nat) (x1:(List Int)) (K:Int→Int→Option α):Option α:=
  (s90 k).F x1 (fun(x2,x3)=>K x2 x3) (fun(x2,x3)=>K x2 x3) fun z=>nomatch z
noncomputable def p90 (k:Nat):Spec:={ own:=[false],run:=fun a o K=>(d79.dec a o).bind fun x=>f90 k x fun x2 x3=>K (o151 (x2,x3)) }
theorem i90 (k:Nat):Impl Tryz.prog glTab 90 (p90 k):=
  .of w0 (l:=e90 k) ⟨i111 k,trivial⟩ (s90 k) (d1_ok (dP_ok (.sl tY))) _ fun(x2,x3) K=>K (o151 (x2,x3))
noncomputable def e58 (k:Nat):List (Nat×List Nat×Spec):=[(78,[],p78 k),(89,[],p89 k),(90,[],p90 k)]
noncomputable def h58:H:=(hr (hb (hr (hl (hr (.n [.own 4 none tY, .kp [4,5]] [] .d .d)))) (hb (hr (hl (hr (.n [.own 4 none tY, .kp [4,5]] [] .d .d)))) (hb (hr (hl (hr (.n [.own 4 none tY, .kp [4,5]] [] .d .d)))) (hr (hr (.n [.own 4 none tY, .kp [4,5]] [] .d .d)))))))
noncomputable def s58 (k:Nat):SumT (mkE (e58 k)) 0 k (bodyOf Tryz.f58) h58 [.own 4 none tY, .kp [4,5]] d113.St S168_1 S168_1 q0:=
 .leaf fun(x1,x2) N R Z=>f78 k x1 fun x3=>bif !x3 then(R ([],1))else(bif (x2.length:Int) !=x1.2.1 then(R ([],7))else(bif x1.1==2 then(f89 k x1 x2 fun x6 x7=>R (x6,x7))else(f90 k x2 fun x8 x9=>if x2.length*1≤room then(if(x2.length+[x8].length)*1≤room then(R (x2++[x8],0))else none)else none)))
noncomputable def f58 {α:Type} (k:Nat) (x1:DT5) (x2:(List Int)) (K:(List Int)→Int→Option α):Option α:=
  (s58 k).F (x1,x2) (fun(x4,x5)=>K x4 x5) (fun(x4,x5)=>K x4 x5) fun z=>nomatch z
noncomputable def p58 (k:Nat):Spec:={ own:=[false,false],run:=fun a o K=>(d113.dec a o).bind fun x=>f58 k x.1 x.2 fun x4 x5=>K (o168 (x4,x5)) }
theorem i58 (k:Nat):Impl Tryz.prog glTab 58 (p58 k):=
  .of w0 (l:=e58 k) ⟨i78 k,i89 k,i90 k,trivial⟩ (s58 k) (dA_ok (dS_ok T5) (d1_ok (dP_ok (.sl tY)))) _ fun(x4,x5) K=>K (o168 (x4,x5))
noncomputable def d33:Dec (DT2×Int×(List Int)):=dA (dS T2) (dA (dP tI) (d1 (dP (.sl tY))))
noncomputable def S33_1:(DT2×Int)→St:=fun(x1,x2)=>stC [(6, .ptr 0 0 0),(7,pI x2)] [.B (.cn (pI x1.1) (.cn (pI x1.2.1) (.cn (pI x1.2.2.1) (.cn (pI x1.2.2.2.1) (.cn (pI x1.2.2.2.2.1) (.cn (pI x1.2.2.2.2.2.1) (.cn (pI x1.2.2.2.2.2.2.1) (.cn (pI x1.2.2.2.2.2.2.2.1) (.cn (pI x1.2.2.2.2.2.2.2.2.1) (.cn (pI x1.2.2.2.2.2.2.2.2.2.1) (.cn (.sl 1 none none) (.cn (.sl 2 none none) .e0)))))))))))), .L T0 (x1.2.2.2.2.2.2.2.2.2.2.1:List DT0), .L T1 (x1.2.2.2.2.2.2.2.2.2.2.2:List DT1)]
noncomputable def S33_2:(Int×DT2×DT2×(List Int)×Int)→St:=fun(x1,x2,x3,x4,x5)=>stC [(1,pI x1),(3, .ptr 0 0 0),(6, .ptr 1 0 0),(10, .sl 2 none none),(11,pI x5)] [.B (toC T2 x2), .B (.cn (pI x3.1) (.cn (pI x3.2.1) (.cn (pI x3.2.2.1) (.cn (pI x3.2.2.2.1) (.cn (pI x3.2.2.2.2.1) (.cn (pI x3.2.2.2.2.2.1) (.cn (pI x3.2.2.2.2.2.2.1) (.cn (pI x3.2.2.2.2.2.2.2.1) (.cn (pI x3.2.2.2.2.2.2.2.2.1) (.cn (pI x3.2.2.2.2.2.2.2.2.2.1) (.cn (.sl 3 none none) (.cn (.sl 4 none none) .e0)))))))))))), .L tY (x4:List Int), .L T0 (x3.2.2.2.2.2.2.2.2.2.2.1:List DT0), .L T1 (x3.2.2.2.2.2.2.2.2.2.2.2:List DT1)]
noncomputable def e33 (k:Nat):List (Nat×List Nat×Spec):=[(48,[],p48 k),(52,[],p52 k),(57,[],p57 k),(58,[],p58 k)]
noncomputable def h33:H:=(hr (hb (hr (hr (hl (hr (.n [.kp [6,7]] [] .d .d))))) (.n [] [.own 6 (some 10) T0, .own 6 (some 11) T1, .kp [1,3,6,10,11]] .d (hb (hr (hl (hr (.n [.kp [6,7]] [] .d .d)))) (hr (.n [.kp [6,7]] [] .d .d))))))
noncomputable def s33 (k:Nat):SumT (mkE (e33 k)) 0 k (bodyOf Tryz.f33) h33 [.kp [6,7]] d33.St S33_1 S33_1 q0:=
 .pre 3 S33_2 (fun(x1,x2,x3) N R Z=>f57 k x1 x2 fun x4 x5=>bif x5 !=0 then(f48 k x1 fun x6=>R (x6,x5))else(f58 k (x1.2.2.2.2.2.2.1,x1.2.2.2.2.2.2.2.1,x1.2.2.2.2.2.2.2.2.1,x1.2.2.2.2.2.2.2.2.2.1) x3 fun x9 x10=>N (x2,x1,(0,0,0,0,0,0,0,0,0,0,[],[]),x9,x10)))
 (.leaf fun(x11,x12,x13,x14,x15) N R Z=>bif x15 !=0 then(f48 k x12 fun x16=>R (x16,x15))else(f52 k x12 (x11,x14,false) fun x17=>R (x17,0)))
noncomputable def f33 {α:Type} (k:Nat) (x1:DT2) (x2:Int) (x3:(List Int)) (K:DT2→Int→Option α):Option α:=
  (s33 k).F (x1,x2,x3) (fun(x7,x8)=>K x7 x8) (fun(x7,x8)=>K x7 x8) fun z=>nomatch z
noncomputable def p33 (k:Nat):Spec:={ own:=[false,false,false],run:=fun a o K=>(d33.dec a o).bind fun x=>f33 k x.1 x.2.1 x.2.2 fun x7 x8=>K (o23 (x7,x8)) }
theorem i33 (k:Nat):Impl Tryz.prog glTab 33 (p33 k):=
  .of w0 (l:=e33 k) ⟨i48 k,i52 k,i57 k,i58 k,trivial⟩ (s33 k) (dA_ok (dS_ok T2) (dA_ok (dP_ok tI) (d1_ok (dP_ok (.sl tY))))) _ fun(x7,x8) K=>K (o23 (x7,x8))
noncomputable def S54_1:(DT2×DT8)→St:=fun(x1,x2)=>stC [(6, .ptr 0 0 0),(7, .ptr 1 0 0)] [.B (toC T2 x1), .B (.cn (pI x2.1) (.cn (.p (.sl tY) (x2.2.1:List Int)) (.cn (.sl 2 none none) .e0))), .L tI (x2.2.2:List Int)]
noncomputable def S54_2:(Int×DT2×DT2×DT8×DT8)→St:=fun(x1,x2,x3,x4,x5)=>stC [(1,pI x1),(3, .ptr 0 0 0),(6, .ptr 1 0 0),(7, .ptr 2 0 0),(8, .ptr 3 0 0)] [.B (toC T2 x2), .B (.cn (pI x3.1) (.cn (pI x3.2.1) (.cn (pI x3.2.2.1) (.cn (pI x3.2.2.2.1) (.cn (pI x3.2.2.2.2.1) (.cn (pI x3.2.2.2.2.2.1) (.cn (pI x3.2.2.2.2.2.2.1) (.cn (pI x3.2.2.2.2.2.2.2.1) (.cn (pI x3.2.2.2.2.2.2.2.2.1) (.cn (pI x3.2.2.2.2.2.2.2.2.2.1) (.cn (.sl 4 none none) (.cn (.sl 5 none none) .e0)))))))))))), .B (.cn (pI x4.1) (.cn (.sl 6 none none) (.cn (.sl 7 none none) .e0))), .B (.cn (pI x5.1) (.cn (.sl 8 none none) (.cn (.sl 9 none none) .e0))), .L T0 (x3.2.2.2.2.2.2.2.2.2.2.1:List DT0), .L T1 (x3.2.2.2.2.2.2.2.2.2.2.2:List DT1), .L tY (x4.2.1:List Int), .L tI (x4.2.2:List Int), .L tY (x5.2.1:List Int), .L tI (x5.2.2:List Int)]
noncomputable def e54 (k:Nat):List (Nat×List Nat×Spec):=[(33,[],p33 k),(51,[],p51 k),(52,[],p52 k),(87,[],p87 k),(88,[],p88 k)]
noncomputable def h54:H:=(hr (.n [] [.own 6 (some 10) T0, .own 6 (some 11) T1, .own 7 (some 1) tY, .own 7 (some 2) tI, .kp [1,3,6,7,8]] .d (hr (hr (.n [.frz 6 (some 10), .frz 6 (some 11), .frz 7 (some 1), .kp [6,7]] [] .d .d)))))
noncomputable def s54 (k:Nat):SumT (mkE (e54 k)) 0 k (bodyOf Tryz.f54) h54 [.frz 6 (some 10), .frz 6 (some 11), .frz 7 (some 1), .kp [6,7]] d18.St S54_1 S54_1 q0:=
 .pre 2 S54_2 (fun(x1,x2,x3) N R Z=>f88 k x1 x2 fun x4=>f87 k x1 x4 x3 fun x5=>N (x2,x1,(0,0,0,0,0,0,0,0,0,0,[],[]),(0,[],[]),x5))
 (.leaf fun(x6,x7,x8,x9,x10) N R Z=>bif x10.1==1 then(f33 k x7 x6 x10.2.1 fun x11 x12=>R (x11,x10))else(bif x10.1==2 then(f51 k x7 x6 fun x15=>f52 k x7 (x15.1,x15.2.1,true) fun x16=>R (x16,x10))else(R (x7,x10))))
noncomputable def f54 {α:Type} (k:Nat) (x1:DT2) (x2:Int) (x3:(List Int)) (K:DT2→DT8→Option α):Option α:=
  (s54 k).F (x1,x2,x3) (fun(x13,x14)=>K x13 x14) (fun(x13,x14)=>K x13 x14) fun z=>nomatch z
noncomputable def o54:(DT2×DT8)→FRes:=fun(x1,x2)=>{ ret:= .tup (.cn (.agg (toC T2 x1)) (.cn (.agg (.cn (pI x2.1) (.cn (.p (.sl tY) (x2.2.1:List Int)) (.cn (.sl 0 none none) .e0)))) .e0)),objs:=[.L tI (x2.2.2:List Int)] }
noncomputable def p54 (k:Nat):Spec:={ own:=[false,false,false],run:=fun a o K=>(d18.dec a o).bind fun x=>f54 k x.1 x.2.1 x.2.2 fun x13 x14=>K (o54 (x13,x14)) }
theorem i54 (k:Nat):Impl Tryz.prog glTab 54 (p54 k):=
  .of w0 (l:=e54 k) ⟨i33 k,i51 k,i52 k,i87 k,i88 k,trivial⟩ (s54 k) (dA_ok (dS_ok T2) (dA_ok (dP_ok tI) (d1_ok (dP_ok (.sl tI))))) _ fun(x13,x14) K=>K (o54 (x13,x14))
noncomputable def S26_2:(DT2×DT8×DT2×DT8)→St:=fun(x1,x2,x3,x4)=>stC [(6, .ptr 0 0 0),(7, .ptr 1 0 0),(11, .ptr 2 0 0),(12, .ptr 3 0 0)] [.B (.cn (pI x1.1) (.cn (pI x1.2.1) (.cn (pI x1.2.2.1) (.cn (pI x1.2.2.2.1) (.cn (pI x1.2.2.2.2.1) (.cn (pI x1.2.2.2.2.2.1) (.cn (pI x1.2.2.2.2.2.2.1) (.cn (pI x1.2.2.2.2.2.2.2.1) (.cn (pI x1.2.2.2.2.2.2.2.2.1) (.cn (pI x1.2.2.2.2.2.2.2.2.2.1) (.cn (.sl 4 none none) (.cn (.sl 5 none none) .e0)))))))))))), .B (.cn (pI x2.1) (.cn (.sl 6 none none) (.cn (.sl 7 none none) .e0))), .B (toC T2 x3), .B (.cn (pI x4.1) (.cn (.p (.sl tY) (x4.2.1:List Int)) (.cn (.sl 8 none none) .e0))), .L T0 (x1.2.2.2.2.2.2.2.2.2.2.1:List DT0), .L T1 (x1.2.2.2.2.2.2.2.2.2.2.2:List DT1), .L tY (x2.2.1:List Int), .L tI (x2.2.2:List Int), .L tI (x4.2.2:List Int)]
noncomputable def e26 (k:Nat):List (Nat×List Nat×Spec):=[(48,[],p48 k),(53,[],p53 k),(54,[],p54 k)]
noncomputable def h26:H:=(hr (hb (hr (hr (hl (hr (.n [.dat 7 (some 1) tY, .own 7 (some 2) tI, .kp [6,7,8]] [] .d .d))))) (.n [] [.own 6 (some 10) T0, .own 6 (some 11) T1, .own 7 (some 1) tY, .own 7 (some 2) tI, .kp [6,7,11,12]] .d (hr (.n [.dat 7 (some 1) tY, .own 7 (some 2) tI, .kp [6,7,8]] [] .d .d)))))
noncomputable def s26 (k:Nat):SumT (mkE (e26 k)) 0 k (bodyOf Tryz.f26) h26 [.dat 7 (some 1) tY, .own 7 (some 2) tI, .kp [6,7,8]] d18.St S18_1 S18_1 q0:=
 .pre 3 S26_2 (fun(x1,x2,x3) N R Z=>f53 k x1 x2 x3 fun x4 x5=>bif x5 !=0 then(f48 k x1 fun x6=>R (x6,(0,[],[]),x5))else(f54 k x1 x2 x3 fun x10 x11=>N ((0,0,0,0,0,0,0,0,0,0,[],[]),(0,[],[]),x10,x11)))
 (.leaf fun(x12,x13,x14,x15) N R Z=>f48 k x14 fun x16=>R (x16,x15,0))
noncomputable def f26 {α:Type} (k:Nat) (x1:DT2) (x2:Int) (x3:(List Int)) (K:DT2→DT8→Int→Option α):Option α:=
  (s26 k).F (x1,x2,x3) (fun(x7,x8,x9)=>K x7 x8 x9) (fun(x7,x8,x9)=>K x7 x8 x9) fun z=>nomatch z
noncomputable def p26 (k:Nat):Spec:={ own:=[false,false,false],run:=fun a o K=>(d18.dec a o).bind fun x=>f26 k x.1 x.2.1 x.2.2 fun x7 x8 x9=>K (o18 (x7,x8,x9)) }
theorem i26 (k:Nat):Impl Tryz.prog glTab 26 (p26 k):=
  .of w0 (l:=e26 k) ⟨i48 k,i53 k,i54 k,trivial⟩ (s26 k) (dA_ok (dS_ok T2) (dA_ok (dP_ok tI) (d1_ok (dP_ok (.sl tI))))) _ fun(x7,x8,x9) K=>K (o18 (x7,x8,x9))
noncomputable def S22_2:((List Int)×(List Int)×Int)→St:=fun(x1,x2,x3)=>stC [(0, .p (.sl tY) (x1:List Int)),(1, .p (.sl tY) (x2:List Int)),(5,pI x3)] []
noncomputable def e22 (k:Nat):List (Nat×List Nat×Spec):=[]
noncomputable def h22:H:=(hr (.n [] [.kp [0,1]] (hr (hl (hr (.n [.kp [4]] [] .d .d)))) (.n [] [.kp []] (.n [] [.kp [0,1,5]] .d (.n [] [.kp []] (.n [.kp [0,1,5]] [.kp [0,1,5]] (hb (hr (hr (.n [.kp []] [] .d .d))) (hl (hl (hr (hl (hr (.n [.kp [4]] [] .d .d))))))) .d) .d)) (hr (.n [.kp [4]] [] .d .d)))))
noncomputable def s22 (k:Nat):SumT (mkE (e22 k)) 0 k (bodyOf Tryz.f22) h22 [.kp [4]] d120.St S81_1 S81_1 q0:=
 .pre 2 S168_7 (fun(x1,x2) N R Z=>bif (x1.length:Int) !=(x2.length:Int)then(R false)else(N (x1,x2)))
 (.seq S79_4
 (.pre 1 S22_2 (fun(x4,x5) N R Z=>N (x4,x5,0))
  (.blockP (.loop S22_2 (fun x=>x)
  (.leaf fun(x9,x10,x11) N R Z=>bif decide (x11<(x9.length:Int))then(if 0≤x11∧x11<(x9.length:Int)then(if 0≤x11∧x11<(x10.length:Int)then(bif (x9.getD (x11.toNat) (0:Int)) !=(x10.getD (x11.toNat) (0:Int))then(R false)else(N (x9,x10,w64 (x11+1))))else none)else none)else(Z (.inl ()))))))
 (.leaf fun() N R Z=>R true))
noncomputable def f22 {α:Type} (k:Nat) (x1:(List Int)) (x2:(List Int)) (K:Bool→Option α):Option α:=
  (s22 k).F (x1,x2) (fun x3=>K x3) (fun x3=>K x3) fun z=>nomatch z
noncomputable def p22 (k:Nat):Spec:={ own:=[false,false],run:=fun a o K=>(d120.dec a o).bind fun x=>f22 k x.1 x.2 fun x3=>K (o37 x3) }
theorem i22 (k:Nat):Impl Tryz.prog glTab 22 (p22 k):=
  .of w0 (l:=e22 k) trivial (s22 k) (dA_ok (dP_ok (.sl tY)) (d1_ok (dP_ok (.sl tY)))) _ fun x3 K=>K (o37 x3)
noncomputable def d20:Dec (DT8×DT8):=dA (dS T8) (d1 (dS T8))
noncomputable def S20_2:(DT8×DT8×Int)→St:=fun(x1,x2,x3)=>stC [(2, .ptr 0 0 0),(3, .ptr 1 0 0),(5,pI x3)] [.B (toC T8 x1), .B (toC T8 x2)]
noncomputable def S20_5:(DT8×DT8)→St:=fun(x1,x2)=>stC [(2, .ptr 0 0 0),(3, .ptr 1 0 0)] [.B (toC T8 x1), .B (toC T8 x2)]
noncomputable def e20 (k:Nat):List (Nat×List Nat×Spec):=[(22,[],p22 k)]
noncomputable def h20:H:=(hr (.n [] [.kp [2,3]] (hr (hl (hr (.n [.kp [4]] [] .d .d)))) (.n [] [.kp []] (.n [] [.kp [2,3,5]] .d (.n [] [.kp []] (.n [.kp [2,3,5]] [.kp [2,3,5]] (hb (hr (hr (.n [.kp []] [] .d .d))) (hl (hl (hr (hl (hr (.n [.kp [4]] [] .d .d))))))) .d) .d)) (hr (.n [.kp [4]] [] .d .d)))))
noncomputable def s20 (k:Nat):SumT (mkE (e20 k)) 0 k (bodyOf Tryz.f20) h20 [.kp [4]] d20.St S81_1 S81_1 q0:=
 .pre 2 S20_5 (fun(x1,x2) N R Z=>bif x1.1 !=x2.1 then(R false)else(f22 k x1.2.1 x2.2.1 fun x4=>bif !x4 then(R false)else(bif (x1.2.2.length:Int) !=(x2.2.2.length:Int)then(R false)else(N (x1,x2)))))
 (.seq S79_4
 (.pre 1 S20_2 (fun(x5,x6) N R Z=>N (x5,x6,0))
  (.blockP (.loop S20_2 (fun x=>x)
  (.leaf fun(x10,x11,x12) N R Z=>bif decide (x12<(x10.2.2.length:Int))then(if 0≤x12∧x12<(x10.2.2.length:Int)then(if 0≤x12∧x12<(x11.2.2.length:Int)then(bif (x10.2.2.getD (x12.toNat) (0:Int)) !=(x11.2.2.getD (x12.toNat) (0:Int))then(R false)else(N (x10,x11,w64 (x12+1))))else none)else none)else(Z (.inl ()))))))
 (.leaf fun() N R Z=>R true))
noncomputable def f20 {α:Type} (k:Nat) (x1:DT8) (x2:DT8) (K:Bool→Option α):Option α:=
  (s20 k).F (x1,x2) (fun x3=>K x3) (fun x3=>K x3) fun z=>nomatch z
noncomputable def p20 (k:Nat):Spec:={ own:=[false,false],run:=fun a o K=>(d20.dec a o).bind fun x=>f20 k x.1 x.2 fun x3=>K (o37 x3) }
theorem i20 (k:Nat):Impl Tryz.prog glTab 20 (p20 k):=
  .of w0 (l:=e20 k) ⟨i22 k,trivial⟩ (s20 k) (dA_ok (dS_ok T8) (d1_ok (dS_ok T8))) _ fun x3 K=>K (o37 x3)
noncomputable def d44:Dec (DT0×DT0):=dA (dS T0) (d1 (dS T0))
noncomputable def e44 (k:Nat):List (Nat×List Nat×Spec):=[(22,[],p22 k)]
noncomputable def h44:H:=(hr (hr (.n [.kp [4]] [] .d .d)))
noncomputable def s44 (k:Nat):SumT (mkE (e44 k)) 0 k (bodyOf Tryz.f44) h44 [.kp [4]] d44.St S81_1 S81_1 q0:=
 .leaf fun(x1,x2) N R Z=>bif x1.1==x2.1 then(bif x1.2.2==x2.2.2 then(f22 k x1.2.1 x2.2.1 fun x3=>R x3)else(R false))else(R false)
noncomputable def f44 {α:Type} (k:Nat) (x1:DT0) (x2:DT0) (K:Bool→Option α):Option α:=
  (s44 k).F (x1,x2) (fun x4=>K x4) (fun x4=>K x4) fun z=>nomatch z
noncomputable def p44 (k:Nat):Spec:={ own:=[false,false],run:=fun a o K=>(d44.dec a o).bind fun x=>f44 k x.1 x.2 fun x4=>K (o37 x4) }
theorem i44 (k:Nat):Impl Tryz.prog glTab 44 (p44 k):=
  .of w0 (l:=e44 k) ⟨i22 k,trivial⟩ (s44 k) (dA_ok (dS_ok T0) (d1_ok (dS_ok T0))) _ fun x4 K=>K (o37 x4)
noncomputable def d19:Dec (DT2×DT2):=dA (dS T2) (d1 (dS T2))
noncomputable def S19_2:(DT2×DT2×Int)→St:=fun(x1,x2,x3)=>stC [(2, .ptr 0 0 0),(3, .ptr 1 0 0),(5,pI x3)] [.B (toC T2 x1), .B (toC T2 x2)]
noncomputable def S19_4:(DT2×DT2×Int)→St:=fun(x1,x2,x3)=>stC [(2, .ptr 0 0 0),(3, .ptr 1 0 0),(6,pI x3)] [.B (toC T2 x1), .B (toC T2 x2)]
noncomputable def S19_7:(DT2×DT2)→St:=fun(x1,x2)=>stC [(2, .ptr 0 0 0),(3, .ptr 1 0 0)] [.B (toC T2 x1), .B (toC T2 x2)]
noncomputable def e19 (k:Nat):List (Nat×List Nat×Spec):=[(44,[],p44 k)]
noncomputable def h19:H:=(hr (.n [] [.kp [2,3]] (hr (hl (hr (.n [.kp [4]] [] .d .d)))) (.n [] [.kp [2,3]] (.n [] [.kp [2,3,5]] .d (.n [] [.kp [2,3]] (.n [.kp [2,3,5]] [.kp [2,3,5]] (hb (hr (hr (.n [.kp [2,3]] [] .d .d))) (hl (hl (hr (hl (hr (.n [.kp [4]] [] .d .d))))))) .d) .d)) (.n [] [.kp []] (.n [] [.kp [2,3,6]] .d (.n [] [.kp []] (.n [.kp [2,3,6]] [.kp [2,3,6]] (hb (hr (hr (.n [.kp []] [] .d .d))) (hl (hl (hr (hl (hr (.n [.kp [4]] [] .d .d))))))) .d) .d)) (hr (.n [.kp [4]] [] .d .d))))))
noncomputable def s19 (k:Nat):SumT (mkE (e19 k)) 0 k (bodyOf Tryz.f19) h19 [.kp [4]] d19.St S81_1 S81_1 q0:=
 .pre 2 S19_7 (fun(x1,x2) N R Z=>bif !(eqI x1.1 x2.1 (eqI x1.2.1 x2.2.1 (eqI x1.2.2.1 x2.2.2.1 (eqI x1.2.2.2.1 x2.2.2.2.1 (eqI x1.2.2.2.2.1 x2.2.2.2.2.1 (eqI x1.2.2.2.2.2.1 x2.2.2.2.2.2.1 true))))))then(R false)else(bif !(eqI x1.2.2.2.2.2.2.1 x2.2.2.2.2.2.2.1 (eqI x1.2.2.2.2.2.2.2.1 x2.2.2.2.2.2.2.2.1 (eqI x1.2.2.2.2.2.2.2.2.1 x2.2.2.2.2.2.2.2.2.1 (eqI x1.2.2.2.2.2.2.2.2.2.1 x2.2.2.2.2.2.2.2.2.2.1 true))))then(R false)else(bif (x1.2.2.2.2.2.2.2.2.2.2.1.length:Int) !=(x2.2.2.2.2.2.2.2.2.2.2.1.length:Int)then(R false)else(bif (x1.2.2.2.2.2.2.2.2.2.2.2.length:Int) !=(x2.2.2.2.2.2.2.2.2.2.2.2.length:Int)then(R false)else(N (x1,x2))))))
 (.seq S19_7
 (.pre 1 S19_2 (fun(x4,x5) N R Z=>N (x4,x5,0))
  (.blockP (.loop S19_2 (fun x=>x)
  (.leaf fun(x9,x10,x11) N R Z=>bif decide (x11<(x9.2.2.2.2.2.2.2.2.2.2.1.length:Int))then(if 0≤x11∧x11<(x9.2.2.2.2.2.2.2.2.2.2.1.length:Int)then(if 0≤x11∧x11<(x10.2.2.2.2.2.2.2.2.2.2.1.length:Int)then(f44 k (x9.2.2.2.2.2.2.2.2.2.2.1.getD (x11.toNat) zT0) (x10.2.2.2.2.2.2.2.2.2.2.1.getD (x11.toNat) zT0) fun x12=>bif !x12 then(R false)else(N (x9,x10,w64 (x11+1))))else none)else none)else(Z (.inl (x9,x10)))))))
 (.seq S79_4
 (.pre 1 S19_4 (fun(x13,x14) N R Z=>N (x13,x14,0))
  (.blockP (.loop S19_4 (fun x=>x)
  (.leaf fun(x18,x19,x20) N R Z=>bif decide (x20<(x18.2.2.2.2.2.2.2.2.2.2.2.length:Int))then(if 0≤x20∧x20<(x18.2.2.2.2.2.2.2.2.2.2.2.length:Int)then(if 0≤x20∧x20<(x19.2.2.2.2.2.2.2.2.2.2.2.length:Int)then(bif !(eqI ((x18.2.2.2.2.2.2.2.2.2.2.2.getD (x20.toNat) zT1).1) ((x19.2.2.2.2.2.2.2.2.2.2.2.getD (x20.toNat) zT1).1) (eqI ((x18.2.2.2.2.2.2.2.2.2.2.2.getD (x20.toNat) zT1).2.1) ((x19.2.2.2.2.2.2.2.2.2.2.2.getD (x20.toNat) zT1).2.1) (eqI ((x18.2.2.2.2.2.2.2.2.2.2.2.getD (x20.toNat) zT1).2.2.1) ((x19.2.2.2.2.2.2.2.2.2.2.2.getD (x20.toNat) zT1).2.2.1) (eqI ((x18.2.2.2.2.2.2.2.2.2.2.2.getD (x20.toNat) zT1).2.2.2.1) ((x19.2.2.2.2.2.2.2.2.2.2.2.getD (x20.toNat) zT1).2.2.2.1) (eqI ((x18.2.2.2.2.2.2.2.2.2.2.2.getD (x20.toNat) zT1).2.2.2.2.1) ((x19.2.2.2.2.2.2.2.2.2.2.2.getD (x20.toNat) zT1).2.2.2.2.1) (eqI ((x18.2.2.2.2.2.2.2.2.2.2.2.getD (x20.toNat) zT1).2.2.2.2.2.1) ((x19.2.2.2.2.2.2.2.2.2.2.2.getD (x20.toNat) zT1).2.2.2.2.2.1) (eqI ((x18.2.2.2.2.2.2.2.2.2.2.2.getD (x20.toNat) zT1).2.2.2.2.2.2.1) ((x19.2.2.2.2.2.2.2.2.2.2.2.getD (x20.toNat) zT1).2.2.2.2.2.2.1) (eqI ((x18.2.2.2.2.2.2.2.2.2.2.2.getD (x20.toNat) zT1).2.2.2.2.2.2.2.1) ((x19.2.2.2.2.2.2.2.2.2.2.2.getD (x20.toNat) zT1).2.2.2.2.2.2.2.1) (eqI ((x18.2.2.2.2.2.2.2.2.2.2.2.getD (x20.toNat) zT1).2.2.2.2.2.2.2.2.1) ((x19.2.2.2.2.2.2.2.2.2.2.2.getD (x20.toNat) zT1).2.2.2.2.2.2.2.2.1) (eqI ((x18.2.2.2.2.2.2.2.2.2.2.2.getD (x20.toNat) zT1).2.2.2.2.2.2.2.2.2.1) ((x19.2.2.2.2.2.2.2.2.2.2.2.getD (x20.toNat) zT1).2.2.2.2.2.2.2.2.2.1) (eqB ((x18.2.2.2.2.2.2.2.2.2.2.2.getD (x20.toNat) zT1).2.2.2.2.2.2.2.2.2.2) ((x19.2.2.2.2.2.2.2.2.2.2.2.getD (x20.toNat) zT1).2.2.2.2.2.2.2.2.2.2) true)))))))))))then(R false)else(N (x18,x19,w64 (x20+1))))else none)else none)else(Z (.inl ()))))))
 (.leaf fun() N R Z=>R true)))
noncomputable def f19 {α:Type} (k:Nat) (x1:DT2) (x2:DT2) (K:Bool→Option α):Option α:=
  (s19 k).F (x1,x2) (fun x3=>K x3) (fun x3=>K x3) fun z=>nomatch z
noncomputable def p19 (k:Nat):Spec:={ own:=[false,false],run:=fun a o K=>(d19.dec a o).bind fun x=>f19 k x.1 x.2 fun x3=>K (o37 x3) }
theorem i19 (k:Nat):Impl Tryz.prog glTab 19 (p19 k):=
  .of w0 (l:=e19 k) ⟨i44 k,trivial⟩ (s19 k) (dA_ok (dS_ok T2) (d1_ok (dS_ok T2))) _ fun x3 K=>K (o37 x3)
noncomputable def e55 (k:Nat):List (Nat×List Nat×Spec):=[(13,[],p13 k)]
noncomputable def h55:H:=(hr (hr (.n [.kp [2]] [] .d .d)))
noncomputable def s55 (k:Nat):SumT (mkE (e55 k)) 0 k (bodyOf Tryz.f55) h55 [.kp [2]] d47.St S16_1 S16_1 q0:=
 .leaf fun x1 N R Z=>f13 k (x1.1,x1.2.1,x1.2.2.1,x1.2.2.2.1,x1.2.2.2.2.1,x1.2.2.2.2.2.1) fun x2=>R x2
noncomputable def f55 {α:Type} (k:Nat) (x1:DT2) (K:Int→Option α):Option α:=
  (s55 k).F x1 (fun x3=>K x3) (fun x3=>K x3) fun z=>nomatch z
noncomputable def p55 (k:Nat):Spec:={ own:=[false],run:=fun a o K=>(d47.dec a o).bind fun x=>f55 k x fun x3=>K (o16 x3) }
theorem i55 (k:Nat):Impl Tryz.prog glTab 55 (p55 k):=
  .of w0 (l:=e55 k) ⟨i13 k,trivial⟩ (s55 k) (d1_ok (dS_ok T2)) _ fun x3 K=>K (o16 x3)
noncomputable def S28_2:(Int×Int×(List Int)×DT2×DT2×Int×(List DT6))→St:=fun(x1,x2,x3,x4,x5,x6,x7)=>stC [(1,pI x1),(2,pI x2),(3, .p (.sl tI) (x3:List Int)),(4, .ptr 0 0 0),(8, .ptr 1 0 0),(12,pI x6),(15, .sl 2 none none)] [.B (toC T2 x4), .B (.cn (pI x5.1) (.cn (pI x5.2.1) (.cn (pI x5.2.2.1) (.cn (pI x5.2.2.2.1) (.cn (pI x5.2.2.2.2.1) (.cn (pI x5.2.2.2.2.2.1) (.cn (pI x5.2.2.2.2.2.2.1) (.cn (pI x5.2.2.2.2.2.2.2.1) (.cn (pI x5.2.2.2.2.2.2.2.2.1) (.cn (pI x5.2.2.2.2.2.2.2.2.2.1) (.cn (.sl 3 none none) (.cn (.sl 4 none none) .e0)))))))))))), .L T6 (x7:List DT6), .L T0 (x5.2.2.2.2.2.2.2.2.2.2.1:List DT0), .L T1 (x5.2.2.2.2.2.2.2.2.2.2.2:List DT1)]
noncomputable def S28_3:(Int×DT2×DT2×(List DT6))→St:=fun(x1,x2,x3,x4)=>stC [(1,pI x1),(4, .ptr 0 0 0),(8, .ptr 1 0 0),(15, .sl 2 none none)] [.B (toC T2 x2), .B (.cn (pI x3.1) (.cn (pI x3.2.1) (.cn (pI x3.2.2.1) (.cn (pI x3.2.2.2.1) (.cn (pI x3.2.2.2.2.1) (.cn (pI x3.2.2.2.2.2.1) (.cn (pI x3.2.2.2.2.2.2.1) (.cn (pI x3.2.2.2.2.2.2.2.1) (.cn (pI x3.2.2.2.2.2.2.2.2.1) (.cn (pI x3.2.2.2.2.2.2.2.2.2.1) (.cn (.sl 3 none none) (.cn (.sl 4 none none) .e0)))))))))))), .L T6 (x4:List DT6), .L T0 (x3.2.2.2.2.2.2.2.2.2.2.1:List DT0), .L T1 (x3.2.2.2.2.2.2.2.2.2.2.2:List DT1)]
noncomputable def S28_5:(Int×Int×(List Int)×DT2×DT2×Int)→St:=fun(x1,x2,x3,x4,x5,x6)=>stC [(1,pI x1),(2,pI x2),(3, .p (.sl tI) (x3:List Int)),(4, .ptr 0 0 0),(8, .ptr 1 0 0),(12,pI x6)] [.B (toC T2 x4), .B (.cn (pI x5.1) (.cn (pI x5.2.1) (.cn (pI x5.2.2.1) (.cn (pI x5.2.2.2.1) (.cn (pI x5.2.2.2.2.1) (.cn (pI x5.2.2.2.2.2.1) (.cn (pI x5.2.2.2.2.2.2.1) (.cn (pI x5.2.2.2.2.2.2.2.1) (.cn (pI x5.2.2.2.2.2.2.2.2.1) (.cn (pI x5.2.2.2.2.2.2.2.2.2.1) (.cn (.sl 2 none none) (.cn (.sl 3 none none) .e0)))))))))))), .L T0 (x5.2.2.2.2.2.2.2.2.2.2.1:List DT0), .L T1 (x5.2.2.2.2.2.2.2.2.2.2.2:List DT1)]
noncomputable def e28 (k:Nat):List (Nat×List Nat×Spec):=[(47,[],p47 k),(48,[],p48 k),(53,[],p53 k),(54,[],p54 k),(55,[],p55 k)]
noncomputable def h28:H:=(hr (hb (hr (hl (hr (.n [.own 10 none T6, .kp [8,9,10,11]] [] .d .d)))) (.n [] [.own 8 (some 10) T0, .own 8 (some 11) T1, .kp [1,2,3,4,8,12]] .d (hb (hr (hl (hr (.n [.own 10 none T6, .kp [8,9,10,11]] [] .d .d)))) (hb (hr (hr (hl (hr (.n [.own 10 none T6, .kp [8,9,10,11]] [] .d .d))))) (.n [] [.own 15 none T6, .kp [1,2,3,4,8,12,15]] .d (hb (.n [] [.kp [1,4,8,15]] (.n [.kp [1,2,3,4,8,12,15]] [.kp [1,2,3,4,8,12,15]] (hl (hr (hr (.n [.kp [1,4,8,15]] [] .d .d)))) .d) .d) (hr (.n [.own 10 none T6, .kp [8,9,10,11]] [] .d .d)))))))))
noncomputable def s28 (k:Nat):SumT (mkE (e28 k)) 0 k (bodyOf Tryz.f28) h28 [.own 10 none T6, .kp [8,9,10,11]] d27.St S27_1 S27_1 q0:=
 .pre 3 S28_5 (fun(x1,x2,x3,x4) N R Z=>f47 k x1 fun x5=>bif !x5 then(f48 k x1 fun x6=>R (x6,x2,[],1))else(f55 k x1 fun x11=>N (x2,x3,x4,x1,(0,0,0,0,0,0,0,0,0,0,[],[]),x11)))
 (.pre 3 S28_2 (fun(x12,x13,x14,x15,x16,x17) N R Z=>bif decide (x12<0)then(f48 k x15 fun x18=>R (x18,x12,[],2))else(bif decide (x12≥x17)then(f48 k x15 fun x19=>R (x19,x12,[],2))else(bif decide (x13<0)then(f48 k x15 fun x20=>R (x20,x12,[],2))else(bif decide (x13>4096)then(f48 k x15 fun x21=>R (x21,x12,[],2))else(f53 k x15 x12 x14 fun x22 x23=>bif x23 !=0 then(f48 k x15 fun x24=>R (x24,x12,[],x23))else(N (x12,x13,x14,x15,x16,x17,[])))))))
 (.seq S28_3
 (.block (.loop S28_2 (fun x=>x)
  (.leaf fun(x32,x33,x34,x35,x36,x37,x38) N R Z=>bif decide (x33>0)then(f54 k x35 x32 x34 fun x39 x40=>bif x40.1==1 then(if(x38.length+[(x32,x40.1,x40.2.1,x40.2.2)].length)*64≤room then(if x37=0 then none else(N (Int.tmod (w64 (x32+1)) x37,w64 (x33-1),x34,x39,x36,x37,x38++[(x32,x40.1,x40.2.1,x40.2.2)])))else none)else(bif x40.1==2 then(if(x38.length+[(x32,x40.1,x40.2.1,x40.2.2)].length)*64≤room then(if x37=0 then none else(N (Int.tmod (w64 (x32+1)) x37,w64 (x33-1),x34,x39,x36,x37,x38++[(x32,x40.1,x40.2.1,x40.2.2)])))else none)else(if x37=0 then none else(N (Int.tmod (w64 (x32+1)) x37,w64 (x33-1),x34,x39,x36,x37,x38)))))else(Z (.inl (x32,x35,x36,x38))))))
 (.leaf fun(x41,x42,x43,x44) N R Z=>f48 k x42 fun x45=>R (x45,x41,x44,0))))
noncomputable def f28 {α:Type} (k:Nat) (x1:DT2) (x2:Int) (x3:Int) (x4:(List Int)) (K:DT2→Int→(List DT6)→Int→Option α):Option α:=
  (s28 k).F (x1,x2,x3,x4) (fun(x7,x8,x9,x10)=>K x7 x8 x9 x10) (fun(x7,x8,x9,x10)=>K x7 x8 x9 x10) fun z=>nomatch z
noncomputable def p28 (k:Nat):Spec:={ own:=[false,false,false,false],run:=fun a o K=>(d27.dec a o).bind fun x=>f28 k x.1 x.2.1 x.2.2.1 x.2.2.2 fun x7 x8 x9 x10=>K (o27 (x7,x8,x9,x10)) }
theorem i28 (k:Nat):Impl Tryz.prog glTab 28 (p28 k):=
  .of w0 (l:=e28 k) ⟨i47 k,i48 k,i53 k,i54 k,i55 k,trivial⟩ (s28 k) (dA_ok (dS_ok T2) (dA_ok (dP_ok tI) (dA_ok (dP_ok tI) (d1_ok (dP_ok (.sl tI)))))) _ fun(x7,x8,x9,x10) K=>K (o27 (x7,x8,x9,x10))
noncomputable def d29:Dec ((List DT6)×(List DT6)):=dA (dP (.sl T6)) (d1 (dP (.sl T6)))
noncomputable def S29_2:((List DT6)×(List DT6)×Int)→St:=fun(x1,x2,x3)=>stC [(0, .p (.sl T6) (x1:List DT6)),(1, .p (.sl T6) (x2:List DT6)),(5,pI x3)] []
noncomputable def S29_5:((List DT6)×(List DT6))→St:=fun(x1,x2)=>stC [(0, .p (.sl T6) (x1:List DT6)),(1, .p (.sl T6) (x2:List DT6))] []
noncomputable def e29 (k:Nat):List (Nat×List Nat×Spec):=[(20,[],p20 k)]
noncomputable def h29:H:=(hr (.n [] [.kp [0,1]] (hr (hl (hr (.n [.kp [4]] [] .d .d)))) (.n [] [.kp []] (.n [] [.kp [0,1,5]] .d (.n [] [.kp []] (.n [.kp [0,1,5]] [.kp [0,1,5]] (hb (hr (hr (.n [.kp []] [] .d .d))) (hl (hl (hr (hl (hr (.n [.kp [4]] [] .d .d))))))) .d) .d)) (hr (.n [.kp [4]] [] .d .d)))))
noncomputable def s29 (k:Nat):SumT (mkE (e29 k)) 0 k (bodyOf Tryz.f29) h29 [.kp [4]] d29.St S81_1 S81_1 q0:=
 .pre 2 S29_5 (fun(x1,x2) N R Z=>bif (x1.length:Int) !=(x2.length:Int)then(R false)else(N (x1,x2)))
 (.seq S79_4
 (.pre 1 S29_2 (fun(x4,x5) N R Z=>N (x4,x5,0))
  (.blockP (.loop S29_2 (fun x=>x)
  (.leaf fun(x9,x10,x11) N R Z=>bif decide (x11<(x9.length:Int))then(if 0≤x11∧x11<(x9.length:Int)then(if 0≤x11∧x11<(x10.length:Int)then(bif ((x9.getD (x11.toNat) zT6).1) !=((x10.getD (x11.toNat) zT6).1)then(R false)else(if 0≤x11∧x11<(x9.length:Int)then(if 0≤x11∧x11<(x10.length:Int)then(f20 k ((x9.getD (x11.toNat) zT6).2.1,(x9.getD (x11.toNat) zT6).2.2.1,(x9.getD (x11.toNat) zT6).2.2.2) ((x10.getD (x11.toNat) zT6).2.1,(x10.getD (x11.toNat) zT6).2.2.1,(x10.getD (x11.toNat) zT6).2.2.2) fun x12=>bif !x12 then(R false)else(N (x9,x10,w64 (x11+1))))else none)else none))else none)else none)else(Z (.inl ()))))))
 (.leaf fun() N R Z=>R true))
noncomputable def f29 {α:Type} (k:Nat) (x1:(List DT6)) (x2:(List DT6)) (K:Bool→Option α):Option α:=
  (s29 k).F (x1,x2) (fun x3=>K x3) (fun x3=>K x3) fun z=>nomatch z
noncomputable def p29 (k:Nat):Spec:={ own:=[false,false],run:=fun a o K=>(d29.dec a o).bind fun x=>f29 k x.1 x.2 fun x3=>K (o37 x3) }
theorem i29 (k:Nat):Impl Tryz.prog glTab 29 (p29 k):=
  .of w0 (l:=e29 k) ⟨i20 k,trivial⟩ (s29 k) (dA_ok (dP_ok (.sl T6)) (d1_ok (dP_ok (.sl T6)))) _ fun x3 K=>K (o37 x3)
noncomputable def e30 (k:Nat):List (Nat×List Nat×Spec):=[(28,[],p28 k),(55,[],p55 k)]
noncomputable def h30:H:=(hr (hr (hr (.n [.kp [4,5,6]] [] .d .d))))
noncomputable def s30 (k:Nat):SumT (mkE (e30 k)) 0 k (bodyOf Tryz.f30) h30 [.kp [4,5,6]] d25.St S25_1 S25_1 q0:=
 .leaf fun(x1,x2) N R Z=>f55 k x1 fun x3=>f28 k x1 0 x3 x2 fun x4 x5 x6 x7=>R (x4,x6,x7)
noncomputable def f30 {α:Type} (k:Nat) (x1:DT2) (x2:(List Int)) (K:DT2→(List DT6)→Int→Option α):Option α:=
  (s30 k).F (x1,x2) (fun(x8,x9,x10)=>K x8 x9 x10) (fun(x8,x9,x10)=>K x8 x9 x10) fun z=>nomatch z
noncomputable def p30 (k:Nat):Spec:={ own:=[false,false],run:=fun a o K=>(d25.dec a o).bind fun x=>f30 k x.1 x.2 fun x8 x9 x10=>K (o25 (x8,x9,x10)) }
theorem i30 (k:Nat):Impl Tryz.prog glTab 30 (p30 k):=
  .of w0 (l:=e30 k) ⟨i28 k,i55 k,trivial⟩ (s30 k) (dA_ok (dS_ok T2) (d1_ok (dP_ok (.sl tI)))) _ fun(x8,x9,x10) K=>K (o25 (x8,x9,x10))
noncomputable def d9:Dec (DT2×DT3×(List Int)):=dA (dS T2) (dA (dS T3) (d1 (dP (.sl tI))))
noncomputable def S9_2:(DT2×Int×DT2×Int×(List DT6)×(List DT6))→St:=fun(x1,x2,x3,x4,x5,x6)=>stC [(7, .ptr 0 0 0),(9,pI x2),(10, .ptr 1 0 0),(12,pI x4),(14, .sl 2 none none),(16, .sl 3 none none)] [.B (.cn (pI x1.1) (.cn (pI x1.2.1) (.cn (pI x1.2.2.1) (.cn (pI x1.2.2.2.1) (.cn (pI x1.2.2.2.2.1) (.cn (pI x1.2.2.2.2.2.1) (.cn (pI x1.2.2.2.2.2.2.1) (.cn (pI x1.2.2.2.2.2.2.2.1) (.cn (pI x1.2.2.2.2.2.2.2.2.1) (.cn (pI x1.2.2.2.2.2.2.2.2.2.1) (.cn (.sl 4 none none) (.cn (.sl 5 none none) .e0)))))))))))), .B (.cn (pI x3.1) (.cn (pI x3.2.1) (.cn (pI x3.2.2.1) (.cn (pI x3.2.2.2.1) (.cn (pI x3.2.2.2.2.1) (.cn (pI x3.2.2.2.2.2.1) (.cn (pI x3.2.2.2.2.2.2.1) (.cn (pI x3.2.2.2.2.2.2.2.1) (.cn (pI x3.2.2.2.2.2.2.2.2.1) (.cn (pI x3.2.2.2.2.2.2.2.2.2.1) (.cn (.sl 6 none none) (.cn (.sl 7 none none) .e0)))))))))))), .L T6 (x5:List DT6), .L T6 (x6:List DT6), .L T0 (x1.2.2.2.2.2.2.2.2.2.2.1:List DT0), .L T1 (x1.2.2.2.2.2.2.2.2.2.2.2:List DT1), .L T0 (x3.2.2.2.2.2.2.2.2.2.2.1:List DT0), .L T1 (x3.2.2.2.2.2.2.2.2.2.2.2:List DT1)]
noncomputable def S9_3:((List Int)×DT2×DT2×DT2)→St:=fun(x1,x2,x3,x4)=>stC [(2, .p (.sl tI) (x1:List Int)),(3, .ptr 0 0 0),(7, .ptr 1 0 0),(10, .ptr 2 0 0)] [.B (toC T2 x2), .B (.cn (pI x3.1) (.cn (pI x3.2.1) (.cn (pI x3.2.2.1) (.cn (pI x3.2.2.2.1) (.cn (pI x3.2.2.2.2.1) (.cn (pI x3.2.2.2.2.2.1) (.cn (pI x3.2.2.2.2.2.2.1) (.cn (pI x3.2.2.2.2.2.2.2.1) (.cn (pI x3.2.2.2.2.2.2.2.2.1) (.cn (pI x3.2.2.2.2.2.2.2.2.2.1) (.cn (.sl 3 none none) (.cn (.sl 4 none none) .e0)))))))))))), .B (.cn (pI x4.1) (.cn (pI x4.2.1) (.cn (pI x4.2.2.1) (.cn (pI x4.2.2.2.1) (.cn (pI x4.2.2.2.2.1) (.cn (pI x4.2.2.2.2.2.1) (.cn (pI x4.2.2.2.2.2.2.1) (.cn (pI x4.2.2.2.2.2.2.2.1) (.cn (pI x4.2.2.2.2.2.2.2.2.1) (.cn (pI x4.2.2.2.2.2.2.2.2.2.1) (.cn (.sl 5 none none) (.cn (.sl 6 none none) .e0)))))))))))), .L T0 (x3.2.2.2.2.2.2.2.2.2.2.1:List DT0), .L T1 (x3.2.2.2.2.2.2.2.2.2.2.2:List DT1), .L T0 (x4.2.2.2.2.2.2.2.2.2.2.1:List DT0), .L T1 (x4.2.2.2.2.2.2.2.2.2.2.2:List DT1)]
noncomputable def S9_4:((List Int)×DT2×(List Int)×DT2×Int×DT2×Int×(List DT6))→St:=fun(x1,x2,x3,x4,x5,x6,x7,x8)=>stC [(2, .p (.sl tI) (x1:List Int)),(3, .ptr 0 0 0),(4, .ptr 1 0 0),(7, .ptr 2 0 0),(9,pI x5),(10, .ptr 3 0 0),(13,pI x7),(14, .sl 4 none none)] [.B (toC T2 x2), .L tI (x3:List Int), .B (.cn (pI x4.1) (.cn (pI x4.2.1) (.cn (pI x4.2.2.1) (.cn (pI x4.2.2.2.1) (.cn (pI x4.2.2.2.2.1) (.cn (pI x4.2.2.2.2.2.1) (.cn (pI x4.2.2.2.2.2.2.1) (.cn (pI x4.2.2.2.2.2.2.2.1) (.cn (pI x4.2.2.2.2.2.2.2.2.1) (.cn (pI x4.2.2.2.2.2.2.2.2.2.1) (.cn (.sl 5 none none) (.cn (.sl 6 none none) .e0)))))))))))), .B (.cn (pI x6.1) (.cn (pI x6.2.1) (.cn (pI x6.2.2.1) (.cn (pI x6.2.2.2.1) (.cn (pI x6.2.2.2.2.1) (.cn (pI x6.2.2.2.2.2.1) (.cn (pI x6.2.2.2.2.2.2.1) (.cn (pI x6.2.2.2.2.2.2.2.1) (.cn (pI x6.2.2.2.2.2.2.2.2.1) (.cn (pI x6.2.2.2.2.2.2.2.2.2.1) (.cn (.sl 7 none none) (.cn (.sl 8 none none) .e0)))))))))))), .L T6 (x8:List DT6), .L T0 (x4.2.2.2.2.2.2.2.2.2.2.1:List DT0), .L T1 (x4.2.2.2.2.2.2.2.2.2.2.2:List DT1), .L T0 (x6.2.2.2.2.2.2.2.2.2.2.1:List DT0), .L T1 (x6.2.2.2.2.2.2.2.2.2.2.2:List DT1)]
noncomputable def S9_5:((List Int)×DT2×(List Int)×DT2×DT8×Int×DT2×DT8×Int)→St:=fun(x1,x2,x3,x4,x5,x6,x7,x8,x9)=>stC [(2, .p (.sl tI) (x1:List Int)),(3, .ptr 0 0 0),(4, .ptr 1 0 0),(7, .ptr 2 0 0),(8, .ptr 3 0 0),(9,pI x6),(10, .ptr 4 0 0),(11, .ptr 5 0 0),(12,pI x9)] [.B (toC T2 x2), .L tI (x3:List Int), .B (.cn (pI x4.1) (.cn (pI x4.2.1) (.cn (pI x4.2.2.1) (.cn (pI x4.2.2.2.1) (.cn (pI x4.2.2.2.2.1) (.cn (pI x4.2.2.2.2.2.1) (.cn (pI x4.2.2.2.2.2.2.1) (.cn (pI x4.2.2.2.2.2.2.2.1) (.cn (pI x4.2.2.2.2.2.2.2.2.1) (.cn (pI x4.2.2.2.2.2.2.2.2.2.1) (.cn (.sl 6 none none) (.cn (.sl 7 none none) .e0)))))))))))), .B (.cn (pI x5.1) (.cn (.p (.sl tY) (x5.2.1:List Int)) (.cn (.sl 8 none none) .e0))), .B (.cn (pI x7.1) (.cn (pI x7.2.1) (.cn (pI x7.2.2.1) (.cn (pI x7.2.2.2.1) (.cn (pI x7.2.2.2.2.1) (.cn (pI x7.2.2.2.2.2.1) (.cn (pI x7.2.2.2.2.2.2.1) (.cn (pI x7.2.2.2.2.2.2.2.1) (.cn (pI x7.2.2.2.2.2.2.2.2.1) (.cn (pI x7.2.2.2.2.2.2.2.2.2.1) (.cn (.sl 9 none none) (.cn (.sl 10 none none) .e0)))))))))))), .B (.cn (pI x8.1) (.cn (.p (.sl tY) (x8.2.1:List Int)) (.cn (.sl 11 none none) .e0))), .L T0 (x4.2.2.2.2.2.2.2.2.2.2.1:List DT0), .L T1 (x4.2.2.2.2.2.2.2.2.2.2.2:List DT1), .L tI (x5.2.2:List Int), .L T0 (x7.2.2.2.2.2.2.2.2.2.2.1:List DT0), .L T1 (x7.2.2.2.2.2.2.2.2.2.2.2:List DT1), .L tI (x8.2.2:List Int)]
noncomputable def e9 (k:Nat):List (Nat×List Nat×Spec):=[(18,[],p18 k),(19,[],p19 k),(20,[],p20 k),(25,[],p25 k),(26,[],p26 k),(27,[],p27 k),(28,[],p28 k),(29,[],p29 k),(30,[],p30 k)]
noncomputable def h9:H:=(hr (hr (.n [] [.kp [2,3,4,7,8,9,10,11,12]] .d (hb (hr (hl (hr (.n [.kp [6]] [] .d .d)))) (.n [] [.kp [2,3,4,7,9,10,13,14]] .d (hr (.n [] [.kp [2,3,7,10]] (hr (hl (hr (.n [.kp [6]] [] .d .d)))) (hr (.n [] [.kp [7,9,10,12,14,16]] .d (hr (.n [.kp [6]] [] .d .d)))))))))))
noncomputable def s9 (k:Nat):SumT (mkE (e9 k)) 0 k (bodyOf Tryz.f9) h9 [.kp [6]] d9.St S49_1 S49_1 q0:=
 .pre 3 S9_5 (fun(x1,x2,x3) N R Z=>if 0<[x2.1,x2.2].length then(f18 k x1 ([x2.1,x2.2].getD 0 (0:Int)) x3 fun x4 x5 x6=>if 0<[x2.1,x2.2].length then(f26 k x1 ([x2.1,x2.2].getD 0 (0:Int)) x3 fun x7 x8 x9=>N (x3,x1,[x2.1,x2.2],x4,x5,x6,x7,x8,x9))else none)else none)
 (.pre 2 S9_4 (fun(x10,x11,x12,x13,x14,x15,x16,x17,x18) N R Z=>bif x15 !=x18 then(R false)else(f20 k x14 x17 fun x20=>bif !x20 then(R false)else(f19 k x13 x16 fun x21=>bif !x21 then(R false)else(if 0<x12.length then(if 1<x12.length then(f27 k x11 (x12.getD 0 (0:Int)) (x12.getD 1 (0:Int)) x10 fun x22 x23 x24 x25=>N (x10,x11,x12,x22,x25,x16,x23,x24))else none)else none))))
 (.pre 2 S9_3 (fun(x26,x27,x28,x29,x30,x31,x32,x33) N R Z=>if 0<x28.length then(if 1<x28.length then(f28 k x27 (x28.getD 0 (0:Int)) (x28.getD 1 (0:Int)) x26 fun x34 x35 x36 x37=>bif x30 !=x37 then(R false)else(bif x32 !=x35 then(R false)else(f29 k x33 x36 fun x38=>bif !x38 then(R false)else(f19 k x29 x34 fun x39=>bif !x39 then(R false)else(N (x26,x27,x29,x34))))))else none)else none)
 (.pre 2 S9_2 (fun(x40,x41,x42,x43) N R Z=>f25 k x41 x40 fun x44 x45 x46=>f30 k x41 x40 fun x47 x48 x49=>N (x44,x46,x47,x49,x45,x48))
 (.leaf fun(x50,x51,x52,x53,x54,x55) N R Z=>bif x51==x53 then(f29 k x54 x55 fun x56=>bif x56 then(f19 k x50 x52 fun x57=>R x57)else(R false))else(R false)))))
noncomputable def f9 {α:Type} (k:Nat) (x1:DT2) (x2:DT3) (x3:(List Int)) (K:Bool→Option α):Option α:=
  (s9 k).F (x1,x2,x3) (fun x19=>K x19) (fun x19=>K x19) fun z=>nomatch z
noncomputable def p9 (k:Nat):Spec:={ own:=[false,false,false],run:=fun a o K=>(d9.dec a o).bind fun x=>f9 k x.1 x.2.1 x.2.2 fun x19=>K (o37 x19) }
theorem i9 (k:Nat):Impl Tryz.prog glTab 9 (p9 k):=
  .of w0 (l:=e9 k) ⟨i18 k,i19 k,i20 k,i25 k,i26 k,i27 k,i28 k,i29 k,i30 k,trivial⟩ (s9 k) (dA_ok (dS_ok T2) (dA_ok (dS_ok T3) (d1_ok (dP_ok (.sl tI))))) _ fun x19 K=>K (o37 x19)
noncomputable def e10 (k:Nat):List (Nat×List Nat×Spec):=[]
noncomputable def h10:H:=(hr (hr (.n [.kp [2]] [] .d .d)))
noncomputable def s10 (k:Nat):SumT (mkE (e10 k)) 0 k (bodyOf Tryz.f10) h10 [.kp [2]] d73.St S37_1 S37_1 q0:=
 .leaf fun x1 N R Z=>R (decide ((x1.length:Int)≤400))
noncomputable def f10 {α:Type} (k:Nat) (x1:(List Int)) (K:Bool→Option α):Option α:=
  (s10 k).F x1 (fun x2=>K x2) (fun x2=>K x2) fun z=>nomatch z
noncomputable def p10 (k:Nat):Spec:={ own:=[false],run:=fun a o K=>(d73.dec a o).bind fun x=>f10 k x fun x2=>K (o37 x2) }
theorem i10 (k:Nat):Impl Tryz.prog glTab 10 (p10 k):=
  .of w0 (l:=e10 k) trivial (s10 k) (d1_ok (dP_ok (.sl tI))) _ fun x2 K=>K (o37 x2)
noncomputable def S11_1:DT9→St:=fun x1=>stC [(2, .ptr 0 0 0)] [.B (toC T9 x1)]
noncomputable def e11 (k:Nat):List (Nat×List Nat×Spec):=[]
noncomputable def h11:H:=(hr (hr (.n [.kp [2]] [] .d .d)))
noncomputable def s11 (k:Nat):SumT (mkE (e11 k)) 0 k (bodyOf Tryz.f11) h11 [.kp [2]] d73.St S11_1 S11_1 q0:=
 .leaf fun x1 N R Z=>R (x1,0)
noncomputable def f11 {α:Type} (k:Nat) (x1:(List Int)) (K:DT9→Option α):Option α:=
  (s11 k).F x1 (fun x2=>K x2) (fun x2=>K x2) fun z=>nomatch z
noncomputable def o11:DT9→FRes:=fun x1=>{ ret:= .ptr 0 0 0,objs:=[.B (toC T9 x1)] }
noncomputable def p11 (k:Nat):Spec:={ own:=[false],run:=fun a o K=>(d73.dec a o).bind fun x=>f11 k x fun x2=>K (o11 x2) }
theorem i11 (k:Nat):Impl Tryz.prog glTab 11 (p11 k):=
  .of w0 (l:=e11 k) trivial (s11 k) (d1_ok (dP_ok (.sl tI))) _ fun x2 K=>K (o11 x2)
noncomputable def e17 (k:Nat):List (Nat×List Nat×Spec):=[]
noncomputable def h17:H:=(hr (hb (hr (hl (hr (.n [.kp [4]] [] .d .d)))) (hr (hr (hr (.n [.kp [4]] [] .d .d))))))
noncomputable def s17 (k:Nat):SumT (mkE (e17 k)) 0 k (bodyOf Tryz.f17) h17 [.kp [4]] d141.St S37_4 S37_4 q0:=
 .leaf fun(x1,x2) N R Z=>bif decide (x2<1)then(R 0)else(if x2=0 then none else(bif decide (Int.tmod x1 x2<0)then(R (w64 ((Int.tmod x1 x2)+x2)))else(R (Int.tmod x1 x2))))
noncomputable def f17 {α:Type} (k:Nat) (x1:Int) (x2:Int) (K:Int→Option α):Option α:=
  (s17 k).F (x1,x2) (fun x3=>K x3) (fun x3=>K x3) fun z=>nomatch z
noncomputable def p17 (k:Nat):Spec:={ own:=[false,false],run:=fun a o K=>(d141.dec a o).bind fun x=>f17 k x.1 x.2 fun x3=>K (o16 x3) }
theorem i17 (k:Nat):Impl Tryz.prog glTab 17 (p17 k):=
  .of w0 (l:=e17 k) trivial (s17 k) (dA_ok (dP_ok tI) (d1_ok (dP_ok tI))) _ fun x3 K=>K (o16 x3)
noncomputable def d14w:Dec (DT9×Int):=dA (dB T9 [false,false]) (d1 (dP tI))
noncomputable def S14w_1:(DT9×Int)→St:=fun(x1,x2)=>stC [(0, .ptr 0 0 0),(4,pI x2)] [.B (toC T9 x1)]
noncomputable def e14w (k:Nat):List (Nat×List Nat×Spec):=[(17,[],p17 k)]
noncomputable def h14w:H:=(hr (hb (hr (hl (hr (.n [.kp [0,4]] [] .d .d)))) (hr (hr (.n [.kp [0,4]] [] .d .d)))))
noncomputable def s14w (k:Nat):SumT (mkE (e14w k)) 1 k (bodyOf Tryz.f14) h14w [.kp [0,4]] d14w.St S14w_1 S14w_1 q0:=
 .leaf fun(x1,x2) N R Z=>bif decide (x1.2≥(x1.1.length:Int))then(R (x1,0))else(if 0≤w64 ((w64 (x1.2+1))-1)∧w64 ((w64 (x1.2+1))-1)<(x1.1.length:Int)then(f17 k (x1.1.getD ((w64 ((w64 (x1.2+1))-1)).toNat) (0:Int)) x2 fun x5=>R ((x1.1,w64 (x1.2+1)),x5))else none)
noncomputable def f14w {α:Type} (k:Nat) (x1:DT9) (x2:Int) (K:DT9→Int→Option α):Option α:=
  (s14w k).F (x1,x2) (fun(x3,x4)=>K x3 x4) (fun(x3,x4)=>K x3 x4) fun z=>nomatch z
noncomputable def o14w:(DT9×Int)→FRes:=fun(x1,x2)=>{ ret:=pI x2,objs:=[.B (toC T9 x1)] }
noncomputable def p14w (k:Nat):Spec:={ own:=[true,false],run:=fun a o K=>(d14w.dec a o).bind fun x=>f14w k x.1 x.2 fun x3 x4=>K (o14w (x3,x4)) }
theorem i14w (k:Nat):Impl Tryz.prog glTab 14 (p14w k):=
  .of w0 (l:=e14w k) ⟨i17 k,trivial⟩ (s14w k) (dA_ok (dB_ok T9 [false,false]) (d1_ok (dP_ok tI))) _ fun(x3,x4) K=>K (o14w (x3,x4))
noncomputable def S31w_1:(DT9×DT4)→St:=fun(x1,x2)=>stC [(0, .ptr 0 0 0),(4, .ptr 1 0 0)] [.B (toC T9 x1), .B (toC T4 x2)]
noncomputable def S31w_2:(DT9×DT4×(List Int)×Int)→St:=fun(x1,x2,x3,x4)=>stC [(0, .ptr 0 0 0),(4, .ptr 1 0 0),(5, .ptr 2 0 0),(6,pI x4)] [.B (toC T9 x1), .B (toC T4 x2), .L tI (x3:List Int)]
noncomputable def S31w_4:(DT9×DT4×(List Int))→St:=fun(x1,x2,x3)=>stC [(0, .ptr 0 0 0),(4, .ptr 1 0 0),(5, .ptr 2 0 0)] [.B (toC T9 x1), .B (toC T4 x2), .L tI (x3:List Int)]
noncomputable def S31w_5:(DT9×Int×DT4×(List Int))→St:=fun(x1,x2,x3,x4)=>stC [(0, .ptr 0 0 0),(1,pI x2),(4, .ptr 1 0 0),(5, .ptr 2 0 0)] [.B (toC T9 x1), .B (toC T4 x3), .L tI (x4:List Int)]
noncomputable def e31w (k:Nat):List (Nat×List Nat×Spec):=[(14,[],p14w k)]
noncomputable def h31w:H:=(hr (.n [] [.kp [0,1,4,5]] .d (.n [] [.kp [0,4,5]] (.n [] [.kp [0,4,5,6]] .d (.n [] [.kp [0,4,5]] (.n [.kp [0,4,5,6]] [.kp [0,4,5,6]] (hl (hr (hr (.n [.kp [0,4,5]] [] .d .d)))) .d) .d)) (hr (.n [.kp [0,4]] [] .d .d)))))
noncomputable def s31w (k:Nat):SumT (mkE (e31w k)) 1 k (bodyOf Tryz.f31) h31w [.kp [0,4]] d14w.St S31w_1 S31w_1 q0:=
 .pre 2 S31w_5 (fun(x1,x2) N R Z=>N (x1,x2,(0,0,0,0,0,0),[0,0,0,0,0,0]))
 (.seq S31w_4
 (.pre 1 S31w_2 (fun(x3,x4,x5,x6) N R Z=>f14w k x3 (w64 (x4+1)) fun x7 x8=>N (x7,x5,x6,x8))
  (.blockP (.loop S31w_2 (fun x=>x)
  (.leaf fun(x13,x14,x15,x16) N R Z=>bif decide (x16>0)then(f14w k x13 6 fun x17 x18=>if 0≤x18∧x18<(6:Int)then(if(x18.toNat)+0<x15.length then(if 0≤x18∧x18<(6:Int)then(if(x18.toNat)+0<x15.length then(N (x17,x14,x15.set ((x18.toNat)+0) (w64 ((x15.getD ((x18.toNat)+0) (0:Int))+1)),w64 (x16-1)))else none)else none)else none)else none)else(Z (.inl (x13,x14,x15)))))))
 (.leaf fun(x19,x20,x21) N R Z=>if 0<x21.length then(if 1<x21.length then(if 2<x21.length then(if 3<x21.length then(if 4<x21.length then(if 5<x21.length then(R (x19,(x21.getD 0 (0:Int),x21.getD 1 (0:Int),x21.getD 2 (0:Int),x21.getD 3 (0:Int),x21.getD 4 (0:Int),x21.getD 5 (0:Int))))else none)else none)else none)else none)else none)else none))
noncomputable def f31w {α:Type} (k:Nat) (x1:DT9) (x2:Int) (K:DT9→DT4→Option α):Option α:=
  (s31w k).F (x1,x2) (fun(x22,x23)=>K x22 x23) (fun(x22,x23)=>K x22 x23) fun z=>nomatch z
noncomputable def o31w:(DT9×DT4)→FRes:=fun(x1,x2)=>{ ret:= .agg (toC T4 x2),objs:=[.B (toC T9 x1)] }
noncomputable def p31w (k:Nat):Spec:={ own:=[true,false],run:=fun a o K=>(d14w.dec a o).bind fun x=>f31w k x.1 x.2 fun x22 x23=>K (o31w (x22,x23)) }
theorem i31w (k:Nat):Impl Tryz.prog glTab 31 (p31w k):=
  .of w0 (l:=e31w k) ⟨i14w k,trivial⟩ (s31w k) (dA_ok (dB_ok T9 [false,false]) (d1_ok (dP_ok tI))) _ fun(x22,x23) K=>K (o31w (x22,x23))
noncomputable def S15w_1:(DT9×Bool)→St:=fun(x1,x2)=>stC [(0, .ptr 0 0 0),(4,pB x2)] [.B (toC T9 x1)]
noncomputable def e15w (k:Nat):List (Nat×List Nat×Spec):=[(14,[],p14w k)]
noncomputable def h15w:H:=(hr (hr (.n [.kp [0,4]] [] .d .d)))
noncomputable def s15w (k:Nat):SumT (mkE (e15w k)) 1 k (bodyOf Tryz.f15) h15w [.kp [0,4]] d14w.St S15w_1 S15w_1 q0:=
 .leaf fun(x1,x2) N R Z=>f14w k x1 x2 fun x3 x4=>R (x3,x4==(w64 (x2-1)))
noncomputable def f15w {α:Type} (k:Nat) (x1:DT9) (x2:Int) (K:DT9→Bool→Option α):Option α:=
  (s15w k).F (x1,x2) (fun(x5,x6)=>K x5 x6) (fun(x5,x6)=>K x5 x6) fun z=>nomatch z
noncomputable def o15w:(DT9×Bool)→FRes:=fun(x1,x2)=>{ ret:=pB x2,objs:=[.B (toC T9 x1)] }
noncomputable def p15w (k:Nat):Spec:={ own:=[true,false],run:=fun a o K=>(d14w.dec a o).bind fun x=>f15w k x.1 x.2 fun x5 x6=>K (o15w (x5,x6)) }
theorem i15w (k:Nat):Impl Tryz.prog glTab 15 (p15w k):=
  .of w0 (l:=e15w k) ⟨i14w k,trivial⟩ (s15w k) (dA_ok (dB_ok T9 [false,false]) (d1_ok (dP_ok tI))) _ fun(x5,x6) K=>K (o15w (x5,x6))
noncomputable def d56w:Dec DT9:=d1 (dB T9 [false,false])
noncomputable def S56w_1:(DT9×DT5)→St:=fun(x1,x2)=>stC [(0, .ptr 0 0 0),(2, .ptr 1 0 0)] [.B (toC T9 x1), .B (toC T5 x2)]
noncomputable def S56w_2:(DT9×DT5×DT5)→St:=fun(x1,x2,x3)=>stC [(0, .ptr 0 0 0),(2, .ptr 1 0 0),(3, .ptr 2 0 0)] [.B (toC T9 x1), .B (toC T5 x2), .B (toC T5 x3)]
noncomputable def e56w (k:Nat):List (Nat×List Nat×Spec):=[(14,[],p14w k),(15,[],p15w k)]
noncomputable def h56w:H:=(hr (hr (.n [] [.kp [0,2,3]] .d (hr (hr (.n [.kp [0,2]] [] .d .d))))))
noncomputable def s56w (k:Nat):SumT (mkE (e56w k)) 1 k (bodyOf Tryz.f56) h56w [.kp [0,2]] d56w.St S56w_1 S56w_1 q0:=
 .pre 3 S56w_2 (fun x1 N R Z=>f14w k x1 3 fun x2 x3=>if 0≤x3∧x3<([4,8,32].length:Int)then(f14w k x2 ([4,8,32].getD (x3.toNat) (0:Int)) fun x4 x5=>f14w k x4 8 fun x6 x7=>N (x6,(0,0,0,0),(2,w64 (1+x5),w64 (1+x7),w64 (Int.tdiv (w64 (1+x7)) 2))))else none)
 (.leaf fun(x8,x9,x10) N R Z=>f15w k x8 3 fun x11 x12=>bif x12 then(f14w k x11 (w64 ((w64 (Int.tdiv x10.2.2.1 2))+1)) fun x13 x14=>R (x13,(x10.1,x10.2.1,x10.2.2.1,x14)))else(R (x11,x10)))
noncomputable def f56w {α:Type} (k:Nat) (x1:DT9) (K:DT9→DT5→Option α):Option α:=
  (s56w k).F x1 (fun(x15,x16)=>K x15 x16) (fun(x15,x16)=>K x15 x16) fun z=>nomatch z
noncomputable def o56w:(DT9×DT5)→FRes:=fun(x1,x2)=>{ ret:= .agg (toC T5 x2),objs:=[.B (toC T9 x1)] }
noncomputable def p56w (k:Nat):Spec:={ own:=[true],run:=fun a o K=>(d56w.dec a o).bind fun x=>f56w k x fun x15 x16=>K (o56w (x15,x16)) }
theorem i56w (k:Nat):Impl Tryz.prog glTab 56 (p56w k):=
  .of w0 (l:=e56w k) ⟨i14w k,i15w k,trivial⟩ (s56w k) (d1_ok (dB_ok T9 [false,false])) _ fun(x15,x16) K=>K (o56w (x15,x16))
noncomputable def e32w (k:Nat):List (Nat×List Nat×Spec):=[(15,[],p15w k),(56,[],p56w k)]
noncomputable def h32w:H:=(hr (hb (hr (hl (hr (.n [.kp [0,2]] [] .d .d)))) (hr (.n [.kp [0,2]] [] .d .d))))
noncomputable def s32w (k:Nat):SumT (mkE (e32w k)) 1 k (bodyOf Tryz.f32) h32w [.kp [0,2]] d56w.St S56w_1 S56w_1 q0:=
 .leaf fun x1 N R Z=>f15w k x1 4 fun x2 x3=>bif x3 then(R (x2,(1,8,1,1)))else(f56w k x2 fun x6 x7=>R (x6,x7))
noncomputable def f32w {α:Type} (k:Nat) (x1:DT9) (K:DT9→DT5→Option α):Option α:=
  (s32w k).F x1 (fun(x4,x5)=>K x4 x5) (fun(x4,x5)=>K x4 x5) fun z=>nomatch z
noncomputable def p32w (k:Nat):Spec:={ own:=[true],run:=fun a o K=>(d56w.dec a o).bind fun x=>f32w k x fun x4 x5=>K (o56w (x4,x5)) }
theorem i32w (k:Nat):Impl Tryz.prog glTab 32 (p32w k):=
  .of w0 (l:=e32w k) ⟨i15w k,i56w k,trivial⟩ (s32w k) (d1_ok (dB_ok T9 [false,false])) _ fun(x4,x5) K=>K (o56w (x4,x5))
noncomputable def S34w_1:(DT9×(List Int))→St:=fun(x1,x2)=>stC [(0, .ptr 0 0 0),(4, .sl 1 none none)] [.B (toC T9 x1), .L tY (x2:List Int)]
noncomputable def S34w_2:(DT9×Int×(List Int))→St:=fun(x1,x2,x3)=>stC [(0, .ptr 0 0 0),(1,pI x2),(5, .sl 1 none none)] [.B (toC T9 x1), .L tY (x3:List Int)]
noncomputable def S34w_3:(DT9×(List Int))→St:=fun(x1,x2)=>stC [(0, .ptr 0 0 0),(5, .sl 1 none none)] [.B (toC T9 x1), .L tY (x2:List Int)]
noncomputable def e34w (k:Nat):List (Nat×List Nat×Spec):=[(14,[],p14w k)]
noncomputable def h34w:H:=(hr (.n [] [.own 5 none tY, .kp [0,1,5]] .d (hb (.n [] [.kp [0,5]] (.n [.kp [0,1,5]] [.kp [0,1,5]] (hl (hr (hr (.n [.kp [0,5]] [] .d .d)))) .d) .d) (hr (.n [.kp [0,4]] [] .d .d)))))
noncomputable def s34w (k:Nat):SumT (mkE (e34w k)) 1 k (bodyOf Tryz.f34) h34w [.kp [0,4]] d14w.St S34w_1 S34w_1 q0:=
 .pre 2 S34w_2 (fun(x1,x2) N R Z=>N (x1,x2,[]))
 (.seq S34w_3
 (.block (.loop S34w_2 (fun x=>x)
  (.leaf fun(x6,x7,x8) N R Z=>bif decide (x7>0)then(f14w k x6 256 fun x9 x10=>if(x8.length+[w8 x10].length)*1≤room then(N (x9,w64 (x7-1),x8++[w8 x10]))else none)else(Z (.inl (x6,x8))))))
 (.leaf fun(x11,x12) N R Z=>R (x11,x12)))
noncomputable def f34w {α:Type} (k:Nat) (x1:DT9) (x2:Int) (K:DT9→(List Int)→Option α):Option α:=
  (s34w k).F (x1,x2) (fun(x13,x14)=>K x13 x14) (fun(x13,x14)=>K x13 x14) fun z=>nomatch z
noncomputable def o34w:(DT9×(List Int))→FRes:=fun(x1,x2)=>{ ret:= .sl 1 none none,objs:=[.B (toC T9 x1), .L tY (x2:List Int)] }
noncomputable def p34w (k:Nat):Spec:={ own:=[true,false],run:=fun a o K=>(d14w.dec a o).bind fun x=>f34w k x.1 x.2 fun x13 x14=>K (o34w (x13,x14)) }
theorem i34w (k:Nat):Impl Tryz.prog glTab 34 (p34w k):=
  .of w0 (l:=e34w k) ⟨i14w k,trivial⟩ (s34w k) (dA_ok (dB_ok T9 [false,false]) (d1_ok (dP_ok tI))) _ fun(x13,x14) K=>K (o34w (x13,x14))
noncomputable def e35 (k:Nat):List (Nat×List Nat×Spec):=[(48,[],p48 k),(52,[],p52 k),(57,[],p57 k)]
noncomputable def h35:H:=(hr (hr (hb (hr (hl (hr (.n [.kp [4,5]] [] .d .d)))) (hr (hr (.n [.kp [4,5]] [] .d .d))))))
noncomputable def s35 (k:Nat):SumT (mkE (e35 k)) 0 k (bodyOf Tryz.f35) h35 [.kp [4,5]] d51.St S23_1 S23_1 q0:=
 .leaf fun(x1,x2) N R Z=>f57 k x1 x2 fun x3 x4=>bif x4 !=0 then(f48 k x1 fun x5=>R (x5,x4))else(f52 k x1 (x3.1,x3.2.1,true) fun x8=>R (x8,0))
noncomputable def f35 {α:Type} (k:Nat) (x1:DT2) (x2:Int) (K:DT2→Int→Option α):Option α:=
  (s35 k).F (x1,x2) (fun(x6,x7)=>K x6 x7) (fun(x6,x7)=>K x6 x7) fun z=>nomatch z
noncomputable def p35 (k:Nat):Spec:={ own:=[false,false],run:=fun a o K=>(d51.dec a o).bind fun x=>f35 k x.1 x.2 fun x6 x7=>K (o23 (x6,x7)) }
theorem i35 (k:Nat):Impl Tryz.prog glTab 35 (p35 k):=
  .of w0 (l:=e35 k) ⟨i48 k,i52 k,i57 k,trivial⟩ (s35 k) (dA_ok (dS_ok T2) (d1_ok (dP_ok tI))) _ fun(x6,x7) K=>K (o23 (x6,x7))
noncomputable def d59w:Dec (DT9×DT4):=dA (dB T9 [false,false]) (d1 (dS T4))
noncomputable def S59w_3:(DT9×DT4×DT4)→St:=fun(x1,x2,x3)=>stC [(0, .ptr 0 0 0),(3, .ptr 1 0 0),(4, .ptr 2 0 0)] [.B (toC T9 x1), .B (toC T4 x2), .B (toC T4 x3)]
noncomputable def e59w (k:Nat):List (Nat×List Nat×Spec):=[(14,[],p14w k)]
noncomputable def h59w:H:=(.n [] [.kp [0,3,4]] .d (.n [] [.kp [0,4]] .d (.n [.kp [0,4]] [] .d .d)))
noncomputable def s59w (k:Nat):SumT (mkE (e59w k)) 1 k (bodyOf Tryz.f59) h59w [.kp [0,4]] d59w.St S31w_1 S31w_1 q0:=
 .pre 1 S59w_3 (fun(x1,x2) N R Z=>N (x1,x2,(0,0,0,0,0,0)))
 (.pre 1 S31w_1 (fun(x3,x4,x5) N R Z=>if 0≤wu64 x4.1 then(f14w k x3 (w64 (1*2^(min (wu64 x4.1).toNat 64))) fun x6 x7=>if 0≤wu64 x4.2.1 then(f14w k x6 (w64 (1*2^(min (wu64 x4.2.1).toNat 64))) fun x8 x9=>if 0≤wu64 x4.2.2.1 then(f14w k x8 (w64 (1*2^(min (wu64 x4.2.2.1).toNat 64))) fun x10 x11=>if 0≤wu64 x4.2.2.2.1 then(f14w k x10 (w64 (1*2^(min (wu64 x4.2.2.2.1).toNat 64))) fun x12 x13=>if 0≤wu64 x4.2.2.2.2.1 then(f14w k x12 (w64 (1*2^(min (wu64 x4.2.2.2.2.1).toNat 64))) fun x14 x15=>if 0≤wu64 x4.2.2.2.2.2 then(f14w k x14 (w64 (1*2^(min (wu64 x4.2.2.2.2.2).toNat 64))) fun x16 x17=>N (x16,(x7,x9,x11,x13,x15,x17)))else none)else none)else none)else none)else none)else none)
 (.leaf fun(x18,x19) N R Z=>R (x18,x19)))
noncomputable def f59w {α:Type} (k:Nat) (x1:DT9) (x2:DT4) (K:DT9→DT4→Option α):Option α:=
  (s59w k).F (x1,x2) (fun(x20,x21)=>K x20 x21) (fun(x20,x21)=>K x20 x21) fun z=>nomatch z
noncomputable def p59w (k:Nat):Spec:={ own:=[true,false],run:=fun a o K=>(d59w.dec a o).bind fun x=>f59w k x.1 x.2 fun x20 x21=>K (o31w (x20,x21)) }
theorem i59w (k:Nat):Impl Tryz.prog glTab 59 (p59w k):=
  .of w0 (l:=e59w k) ⟨i14w k,trivial⟩ (s59w k) (dA_ok (dB_ok T9 [false,false]) (d1_ok (dS_ok T4))) _ fun(x20,x21) K=>K (o31w (x20,x21))
noncomputable def d36w:Dec (DT9×DT4×Int×Bool):=dA (dB T9 [false,false]) (dA (dS T4) (dA (dP tI) (d1 (dP .bool))))
noncomputable def S36w_1:(DT9×DT1)→St:=fun(x1,x2)=>stC [(0, .ptr 0 0 0),(8, .ptr 1 0 0)] [.B (toC T9 x1), .B (toC T1 x2)]
noncomputable def S36w_2:(DT9×DT1×DT1)→St:=fun(x1,x2,x3)=>stC [(0, .ptr 0 0 0),(8, .ptr 1 0 0),(9, .ptr 2 0 0)] [.B (toC T9 x1), .B (toC T1 x2), .B (toC T1 x3)]
noncomputable def S36w_3:(DT9×Bool×DT1×DT1)→St:=fun(x1,x2,x3,x4)=>stC [(0, .ptr 0 0 0),(3,pB x2),(8, .ptr 1 0 0),(9, .ptr 2 0 0)] [.B (toC T9 x1), .B (toC T1 x3), .B (toC T1 x4)]
noncomputable def S36w_4:(DT9×Int×Bool×DT4×DT1)→St:=fun(x1,x2,x3,x4,x5)=>stC [(0, .ptr 0 0 0),(2,pI x2),(3,pB x3),(5, .ptr 1 0 0),(8, .ptr 2 0 0)] [.B (toC T9 x1), .B (toC T4 x4), .B (toC T1 x5)]
noncomputable def e36w (k:Nat):List (Nat×List Nat×Spec):=[(14,[],p14w k),(15,[],p15w k),(59,[],p59w k)]
noncomputable def h36w:H:=(.n [] [.kp [0,2,3,5,8]] .d (.n [] [.kp [0,3,8,9]] .d (hr (.n [] [.kp [0,8,9]] .d (hr (hr (.n [.kp [0,8]] [] .d .d)))))))
noncomputable def s36w (k:Nat):SumT (mkE (e36w k)) 1 k (bodyOf Tryz.f36) h36w [.kp [0,8]] d36w.St S36w_1 S36w_1 q0:=
 .pre 1 S36w_4 (fun(x1,x2,x3,x4) N R Z=>N (x1,x3,x4,x2,(0,0,0,0,0,0,0,0,0,0,false)))
 (.pre 1 S36w_3 (fun(x5,x6,x7,x8,x9) N R Z=>f14w k x5 6 fun x10 x11=>f59w k x10 x8 fun x12 x13=>f14w k x12 x6 fun x14 x15=>f14w k x14 255 fun x16 x17=>N (x16,x7,x9,(w64 (1+x11),x13.1,x13.2.1,x13.2.2.1,x13.2.2.2.1,x13.2.2.2.2.1,x13.2.2.2.2.2,x15,w8 (w64 (1+x17)),0,x7)))
 (.pre 2 S36w_2 (fun(x18,x19,x20,x21) N R Z=>f15w k x18 2 fun x22 x23=>bif x23 then(f14w k x22 8 fun x24 x25=>if 0≤wu64 x25 then(bif x19 then(f14w k x24 256 fun x26 x27=>N (x26,x20,(x21.1,x21.2.1,x21.2.2.1,x21.2.2.2.1,x21.2.2.2.2.1,x21.2.2.2.2.2.1,x21.2.2.2.2.2.2.1,x21.2.2.2.2.2.2.2.1,w8 (1*2^(min (wu64 x25).toNat 8)),bitI .and .u8 (w8 x27) (w8 (1*2^(min (wu64 x25).toNat 8))),x21.2.2.2.2.2.2.2.2.2.2)))else(N (x24,x20,(x21.1,x21.2.1,x21.2.2.1,x21.2.2.2.1,x21.2.2.2.2.1,x21.2.2.2.2.2.1,x21.2.2.2.2.2.2.1,x21.2.2.2.2.2.2.2.1,w8 (1*2^(min (wu64 x25).toNat 8)),x21.2.2.2.2.2.2.2.2.2.1,x21.2.2.2.2.2.2.2.2.2.2))))else none)else(bif x19 then(f14w k x22 256 fun x31 x32=>N (x31,x20,(x21.1,x21.2.1,x21.2.2.1,x21.2.2.2.1,x21.2.2.2.2.1,x21.2.2.2.2.2.1,x21.2.2.2.2.2.2.1,x21.2.2.2.2.2.2.2.1,x21.2.2.2.2.2.2.2.2.1,bitI .and .u8 (w8 x32) x21.2.2.2.2.2.2.2.2.1,x21.2.2.2.2.2.2.2.2.2.2)))else(N (x22,x20,x21))))
 (.leaf fun(x28,x29,x30) N R Z=>bif x30.1==2 then(R (x28,(x30.1,x30.2.1,x30.2.2.1,x30.2.2.2.1,x30.2.2.2.2.1,x30.2.2.2.2.2.1,0,x30.2.2.2.2.2.2.2.1,x30.2.2.2.2.2.2.2.2.1,x30.2.2.2.2.2.2.2.2.2.1,x30.2.2.2.2.2.2.2.2.2.2)))else(bif x30.1==3 then(R (x28,(x30.1,x30.2.1,x30.2.2.1,x30.2.2.2.1,x30.2.2.2.2.1,0,x30.2.2.2.2.2.2.1,x30.2.2.2.2.2.2.2.1,x30.2.2.2.2.2.2.2.2.1,x30.2.2.2.2.2.2.2.2.2.1,x30.2.2.2.2.2.2.2.2.2.2)))else(bif x30.1==4 then(R (x28,(x30.1,x30.2.1,x30.2.2.1,x30.2.2.2.1,x30.2.2.2.2.1,0,0,x30.2.2.2.2.2.2.2.1,x30.2.2.2.2.2.2.2.2.1,x30.2.2.2.2.2.2.2.2.2.1,x30.2.2.2.2.2.2.2.2.2.2)))else(bif x30.1==5 then(R (x28,(x30.1,x30.2.1,x30.2.2.1,x30.2.2.2.1,0,0,0,x30.2.2.2.2.2.2.2.1,x30.2.2.2.2.2.2.2.2.1,x30.2.2.2.2.2.2.2.2.2.1,x30.2.2.2.2.2.2.2.2.2.2)))else(bif x30.1==6 then(R (x28,(x30.1,x30.2.1,x30.2.2.1,0,0,0,0,x30.2.2.2.2.2.2.2.1,x30.2.2.2.2.2.2.2.2.1,x30.2.2.2.2.2.2.2.2.2.1,x30.2.2.2.2.2.2.2.2.2.2)))else(R (x28,x30)))))))))
noncomputable def f36w {α:Type} (k:Nat) (x1:DT9) (x2:DT4) (x3:Int) (x4:Bool) (K:DT9→DT1→Option α):Option α:=
  (s36w k).F (x1,x2,x3,x4) (fun(x33,x34)=>K x33 x34) (fun(x33,x34)=>K x33 x34) fun z=>nomatch z
noncomputable def o36w:(DT9×DT1)→FRes:=fun(x1,x2)=>{ ret:= .agg (toC T1 x2),objs:=[.B (toC T9 x1)] }
noncomputable def p36w (k:Nat):Spec:={ own:=[true,false,false,false],run:=fun a o K=>(d36w.dec a o).bind fun x=>f36w k x.1 x.2.1 x.2.2.1 x.2.2.2 fun x33 x34=>K (o36w (x33,x34)) }
theorem i36w (k:Nat):Impl Tryz.prog glTab 36 (p36w k):=
  .of w0 (l:=e36w k) ⟨i14w k,i15w k,i59w k,trivial⟩ (s36w k) (dA_ok (dB_ok T9 [false,false]) (dA_ok (dS_ok T4) (dA_ok (dP_ok tI) (d1_ok (dP_ok .bool))))) _ fun(x33,x34) K=>K (o36w (x33,x34))
noncomputable def S12w_1:(DT9×DT2)→St:=fun(x1,x2)=>stC [(0, .ptr 0 0 0),(2, .ptr 1 0 0)] [.B (toC T9 x1), .B (.cn (pI x2.1) (.cn (pI x2.2.1) (.cn (pI x2.2.2.1) (.cn (pI x2.2.2.2.1) (.cn (pI x2.2.2.2.2.1) (.cn (pI x2.2.2.2.2.2.1) (.cn (pI x2.2.2.2.2.2.2.1) (.cn (pI x2.2.2.2.2.2.2.2.1) (.cn (pI x2.2.2.2.2.2.2.2.2.1) (.cn (pI x2.2.2.2.2.2.2.2.2.2.1) (.cn (.sl 2 none none) (.cn (.sl 3 none none) .e0)))))))))))), .L T0 (x2.2.2.2.2.2.2.2.2.2.2.1:List DT0), .L T1 (x2.2.2.2.2.2.2.2.2.2.2.2:List DT1)]
noncomputable def S12w_2:(DT9×DT2×DT2×Int×Int)→St:=fun(x1,x2,x3,x4,x5)=>stC [(0, .ptr 0 0 0),(2, .ptr 1 0 0),(3, .ptr 2 0 0),(5,pI x4),(6,pI x5)] [.B (toC T9 x1), .B (.cn (pI x2.1) (.cn (pI x2.2.1) (.cn (pI x2.2.2.1) (.cn (pI x2.2.2.2.1) (.cn (pI x2.2.2.2.2.1) (.cn (pI x2.2.2.2.2.2.1) (.cn (pI x2.2.2.2.2.2.2.1) (.cn (pI x2.2.2.2.2.2.2.2.1) (.cn (pI x2.2.2.2.2.2.2.2.2.1) (.cn (pI x2.2.2.2.2.2.2.2.2.2.1) (.cn (.sl 3 none none) (.cn (.sl 4 none none) .e0)))))))))))), .B (.cn (pI x3.1) (.cn (pI x3.2.1) (.cn (pI x3.2.2.1) (.cn (pI x3.2.2.2.1) (.cn (pI x3.2.2.2.2.1) (.cn (pI x3.2.2.2.2.2.1) (.cn (pI x3.2.2.2.2.2.2.1) (.cn (pI x3.2.2.2.2.2.2.2.1) (.cn (pI x3.2.2.2.2.2.2.2.2.1) (.cn (pI x3.2.2.2.2.2.2.2.2.2.1) (.cn (.sl 5 none none) (.cn (.sl 6 none none) .e0)))))))))))), .L T0 (x2.2.2.2.2.2.2.2.2.2.2.1:List DT0), .L T1 (x2.2.2.2.2.2.2.2.2.2.2.2:List DT1), .L T0 (x3.2.2.2.2.2.2.2.2.2.2.1:List DT0), .L T1 (x3.2.2.2.2.2.2.2.2.2.2.2:List DT1)]
noncomputable def S12w_7:(DT9×DT2×DT2×Int×DT1)→St:=fun(x1,x2,x3,x4,x5)=>stC [(0, .ptr 0 0 0),(2, .ptr 1 0 0),(3, .ptr 2 0 0),(7,pI x4),(8, .ptr 3 0 0)] [.B (toC T9 x1), .B (.cn (pI x2.1) (.cn (pI x2.2.1) (.cn (pI x2.2.2.1) (.cn (pI x2.2.2.2.1) (.cn (pI x2.2.2.2.2.1) (.cn (pI x2.2.2.2.2.2.1) (.cn (pI x2.2.2.2.2.2.2.1) (.cn (pI x2.2.2.2.2.2.2.2.1) (.cn (pI x2.2.2.2.2.2.2.2.2.1) (.cn (pI x2.2.2.2.2.2.2.2.2.2.1) (.cn (.sl 4 none none) (.cn (.sl 5 none none) .e0)))))))))))), .B (.cn (pI x3.1) (.cn (pI x3.2.1) (.cn (pI x3.2.2.1) (.cn (pI x3.2.2.2.1) (.cn (pI x3.2.2.2.2.1) (.cn (pI x3.2.2.2.2.2.1) (.cn (pI x3.2.2.2.2.2.2.1) (.cn (pI x3.2.2.2.2.2.2.2.1) (.cn (pI x3.2.2.2.2.2.2.2.2.1) (.cn (pI x3.2.2.2.2.2.2.2.2.2.1) (.cn (.sl 6 none none) (.cn (.sl 7 none none) .e0)))))))))))), .B (toC T1 x5), .L T0 (x2.2.2.2.2.2.2.2.2.2.2.1:List DT0), .L T1 (x2.2.2.2.2.2.2.2.2.2.2.2:List DT1), .L T0 (x3.2.2.2.2.2.2.2.2.2.2.1:List DT0), .L T1 (x3.2.2.2.2.2.2.2.2.2.2.2:List DT1)]
noncomputable def S12w_8:(DT9×DT2×DT2×Int)→St:=fun(x1,x2,x3,x4)=>stC [(0, .ptr 0 0 0),(2, .ptr 1 0 0),(3, .ptr 2 0 0),(7,pI x4)] [.B (toC T9 x1), .B (.cn (pI x2.1) (.cn (pI x2.2.1) (.cn (pI x2.2.2.1) (.cn (pI x2.2.2.2.1) (.cn (pI x2.2.2.2.2.1) (.cn (pI x2.2.2.2.2.2.1) (.cn (pI x2.2.2.2.2.2.2.1) (.cn (pI x2.2.2.2.2.2.2.2.1) (.cn (pI x2.2.2.2.2.2.2.2.2.1) (.cn (pI x2.2.2.2.2.2.2.2.2.2.1) (.cn (.sl 3 none none) (.cn (.sl 4 none none) .e0)))))))))))), .B (.cn (pI x3.1) (.cn (pI x3.2.1) (.cn (pI x3.2.2.1) (.cn (pI x3.2.2.2.1) (.cn (pI x3.2.2.2.2.1) (.cn (pI x3.2.2.2.2.2.1) (.cn (pI x3.2.2.2.2.2.2.1) (.cn (pI x3.2.2.2.2.2.2.2.1) (.cn (pI x3.2.2.2.2.2.2.2.2.1) (.cn (pI x3.2.2.2.2.2.2.2.2.2.1) (.cn (.sl 5 none none) (.cn (.sl 6 none none) .e0)))))))))))), .L T0 (x2.2.2.2.2.2.2.2.2.2.2.1:List DT0), .L T1 (x2.2.2.2.2.2.2.2.2.2.2.2:List DT1), .L T0 (x3.2.2.2.2.2.2.2.2.2.2.1:List DT0), .L T1 (x3.2.2.2.2.2.2.2.2.2.2.2:List DT1)]
noncomputable def S12w_12:(DT9×DT2×DT2)→St:=fun(x1,x2,x3)=>stC [(0, .ptr 0 0 0),(2, .ptr 1 0 0),(3, .ptr 2 0 0)] [.B (toC T9 x1), .B (.cn (pI x2.1) (.cn (pI x2.2.1) (.cn (pI x2.2.2.1) (.cn (pI x2.2.2.2.1) (.cn (pI x2.2.2.2.2.1) (.cn (pI x2.2.2.2.2.2.1) (.cn (pI x2.2.2.2.2.2.2.1) (.cn (pI x2.2.2.2.2.2.2.2.1) (.cn (pI x2.2.2.2.2.2.2.2.2.1) (.cn (pI x2.2.2.2.2.2.2.2.2.2.1) (.cn (.sl 3 none none) (.cn (.sl 4 none none) .e0)))))))))))), .B (.cn (pI x3.1) (.cn (pI x3.2.1) (.cn (pI x3.2.2.1) (.cn (pI x3.2.2.2.1) (.cn (pI x3.2.2.2.2.1) (.cn (pI x3.2.2.2.2.2.1) (.cn (pI x3.2.2.2.2.2.2.1) (.cn (pI x3.2.2.2.2.2.2.2.1) (.cn (pI x3.2.2.2.2.2.2.2.2.1) (.cn (pI x3.2.2.2.2.2.2.2.2.2.1) (.cn (.sl 5 none none) (.cn (.sl 6 none none) .e0)))))))))))), .L T0 (x2.2.2.2.2.2.2.2.2.2.2.1:List DT0), .L T1 (x2.2.2.2.2.2.2.2.2.2.2.2:List DT1), .L T0 (x3.2.2.2.2.2.2.2.2.2.2.1:List DT0), .L T1 (x3.2.2.2.2.2.2.2.2.2.2.2:List DT1)]
noncomputable def S12w_14:(DT9×DT2×DT2×Int)→St:=fun(x1,x2,x3,x4)=>stC [(0, .ptr 0 0 0),(2, .ptr 1 0 0),(3, .ptr 2 0 0),(5,pI x4)] [.B (toC T9 x1), .B (.cn (pI x2.1) (.cn (pI x2.2.1) (.cn (pI x2.2.2.1) (.cn (pI x2.2.2.2.1) (.cn (pI x2.2.2.2.2.1) (.cn (pI x2.2.2.2.2.2.1) (.cn (pI x2.2.2.2.2.2.2.1) (.cn (pI x2.2.2.2.2.2.2.2.1) (.cn (pI x2.2.2.2.2.2.2.2.2.1) (.cn (pI x2.2.2.2.2.2.2.2.2.2.1) (.cn (.sl 3 none none) (.cn (.sl 4 none none) .e0)))))))))))), .B (.cn (pI x3.1) (.cn (pI x3.2.1) (.cn (pI x3.2.2.1) (.cn (pI x3.2.2.2.1) (.cn (pI x3.2.2.2.2.1) (.cn (pI x3.2.2.2.2.2.1) (.cn (pI x3.2.2.2.2.2.2.1) (.cn (pI x3.2.2.2.2.2.2.2.1) (.cn (pI x3.2.2.2.2.2.2.2.2.1) (.cn (pI x3.2.2.2.2.2.2.2.2.2.1) (.cn (.sl 5 none none) (.cn (.sl 6 none none) .e0)))))))))))), .L T0 (x2.2.2.2.2.2.2.2.2.2.2.1:List DT0), .L T1 (x2.2.2.2.2.2.2.2.2.2.2.2:List DT1), .L T0 (x3.2.2.2.2.2.2.2.2.2.2.1:List DT0), .L T1 (x3.2.2.2.2.2.2.2.2.2.2.2:List DT1)]
noncomputable def e12w (k:Nat):List (Nat×List Nat×Spec):=[(13,[],p13 k),(14,[],p14w k),(15,[],p15w k),(16,[],p16 k),(23,[],p23 k),(24,[],p24 k),(31,[],p31w k),(32,[],p32w k),(33,[],p33 k),(34,[],p34w k),(35,[],p35 k),(36,[],p36w k)]
noncomputable def h12w:H:=(hr (.n [] [.own 2 (some 10) T0, .own 2 (some 11) T1, .kp [0,2,3]] .d (.n [] [.kp [0,2,3,5]] .d (.n [] [.kp [0,2,3]] (.n [] [.kp [0,2,3,5,6]] .d (.n [] [.kp [0,2,3]] (.n [.kp [0,2,3,5,6]] [.kp [0,2,3,5,6]] (.n [] [.kp [0,2,3,5,6]] (hr (hr (.n [.kp [0,2,3]] [] .d .d))) (hl (.n [] [.kp [0,2,3,5,6]] (.n [] [.kp [0,2,3,5,6]] .d .d) .d))) .d) .d)) (.n [] [.kp [0,2,3]] (.n [] [.kp [0,2,3,7]] .d (.n [] [.kp [0,2,3]] (.n [.kp [0,2,3,7]] [.kp [0,2,3,7]] (.n [] [.kp [0,2,3,7]] (hr (hr (.n [.kp [0,2,3]] [] .d .d))) (hl (.n [] [.kp [0,2,3,7]] (.n [] [.kp [0,2,3,7,8]] .d .d) .d))) .d) .d)) (hr (.n [.kp [0,2]] [] .d .d)))))))
noncomputable def s12w (k:Nat):SumT (mkE (e12w k)) 1 k (bodyOf Tryz.f12) h12w [.kp [0,2]] d56w.St S12w_1 S12w_1 q0:=
 .pre 2 S12w_12 (fun x1 N R Z=>f31w k x1 5 fun x2 x3=>f32w k x2 fun x4 x5=>f23 k x3 x5 fun x6 x7=>N (x4,(0,0,0,0,0,0,0,0,0,0,[],[]),x6))
 (.pre 1 S12w_14 (fun(x8,x9,x10) N R Z=>f13 k (x10.1,x10.2.1,x10.2.2.1,x10.2.2.2.1,x10.2.2.2.2.1,x10.2.2.2.2.2.1) fun x11=>N (x8,x9,x10,x11))
 (.seq S12w_12
 (.pre 1 S12w_2 (fun(x12,x13,x14,x15) N R Z=>f14w k x12 6 fun x16 x17=>N (x16,x13,x14,x15,x17))
  (.blockP (.loop S12w_2 (fun x=>x)
  (.pre 1 S12w_2 (fun(x23,x24,x25,x26,x27) N R Z=>bif decide (x27>0)then(N (x23,x24,x25,x26,x27))else(Z (.inl (x23,x24,x25))))
  (.seq S12w_2
  (.block (.pre 1 S12w_2 (fun(x28,x29,x30,x31,x32) N R Z=>f14w k x28 x31 fun x36 x37=>f34w k x36 x30.2.2.2.2.2.2.2.1 fun x38 x39=>f33 k x30 x37 x39 fun x40 x41=>N (x38,x29,x40,x31,x32))
   (.leaf fun(x42,x43,x44,x45,x46) N R Z=>f15w k x42 6 fun x47 x48=>bif x48 then(f14w k x47 x45 fun x49 x50=>f35 k x44 x50 fun x51 x52=>N (x49,x43,x51,x45,x46))else(N (x47,x43,x44,x45,x46)))))
  (.leaf fun(x53,x54,x55,x56,x57) N R Z=>N (x53,x54,x55,x56,w64 (x57-1))))))))
 (.seq S12w_12
 (.pre 1 S12w_8 (fun(x33,x34,x35) N R Z=>f14w k x33 6 fun x58 x59=>N (x58,x34,x35,x59))
  (.blockP (.loop S12w_8 (fun x=>x)
  (.pre 1 S12w_8 (fun(x64,x65,x66,x67) N R Z=>bif decide (x67>0)then(N (x64,x65,x66,x67))else(Z (.inl (x64,x65,x66))))
  (.seq S12w_8
  (.block (.pre 1 S12w_7 (fun(x68,x69,x70,x71) N R Z=>f16 k (x70.2.2.2.2.2.2.1,x70.2.2.2.2.2.2.2.1,x70.2.2.2.2.2.2.2.2.1,x70.2.2.2.2.2.2.2.2.2.1) fun x75=>f15w k x68 3 fun x76 x77=>f36w k x76 (x70.1,x70.2.1,x70.2.2.1,x70.2.2.2.1,x70.2.2.2.2.1,x70.2.2.2.2.2.1) x75 x77 fun x78 x79=>N (x78,x69,x70,x71,x79))
   (.leaf fun(x80,x81,x82,x83,x84) N R Z=>f15w k x80 2 fun x85 x86=>bif x86 then(f14w k x85 8 fun x87 x88=>if 0≤wu64 x88 then(f24 k x82 (x84.1,x84.2.1,x84.2.2.1,x84.2.2.2.1,x84.2.2.2.2.1,x84.2.2.2.2.2.1,x84.2.2.2.2.2.2.1,x84.2.2.2.2.2.2.2.1,w8 (1*2^(min (wu64 x88).toNat 8)),0,x84.2.2.2.2.2.2.2.2.2.2) fun x89 x90=>N (x87,x81,x89,x83))else none)else(f24 k x82 x84 fun x95 x96=>N (x85,x81,x95,x83)))))
  (.leaf fun(x91,x92,x93,x94) N R Z=>N (x91,x92,x93,w64 (x94-1))))))))
 (.leaf fun(x72,x73,x74) N R Z=>R (x72,x74)))))
noncomputable def f12w {α:Type} (k:Nat) (x1:DT9) (K:DT9→DT2→Option α):Option α:=
  (s12w k).F x1 (fun(x97,x98)=>K x97 x98) (fun(x97,x98)=>K x97 x98) fun z=>nomatch z
noncomputable def o12w:(DT9×DT2)→FRes:=fun(x1,x2)=>{ ret:= .agg (.cn (pI x2.1) (.cn (pI x2.2.1) (.cn (pI x2.2.2.1) (.cn (pI x2.2.2.2.1) (.cn (pI x2.2.2.2.2.1) (.cn (pI x2.2.2.2.2.2.1) (.cn (pI x2.2.2.2.2.2.2.1) (.cn (pI x2.2.2.2.2.2.2.2.1) (.cn (pI x2.2.2.2.2.2.2.2.2.1) (.cn (pI x2.2.2.2.2.2.2.2.2.2.1) (.cn (.sl 1 none none) (.cn (.sl 2 none none) .e0)))))))))))),objs:=[.B (toC T9 x1), .L T0 (x2.2.2.2.2.2.2.2.2.2.2.1:List DT0), .L T1 (x2.2.2.2.2.2.2.2.2.2.2.2:List DT1)] }
noncomputable def p12w (k:Nat):Spec:={ own:=[true],run:=fun a o K=>(d56w.dec a o).bind fun x=>f12w k x fun x97 x98=>K (o12w (x97,x98)) }
theorem i12w (k:Nat):Impl Tryz.prog glTab 12 (p12w k):=
  .of w0 (l:=e12w k) ⟨i13 k,i14w k,i15w k,i16 k,i23 k,i24 k,i31w k,i32w k,i33 k,i34w k,i35 k,i36w k,trivial⟩ (s12w k) (d1_ok (dB_ok T9 [false,false])) _ fun(x97,x98) K=>K (o12w (x97,x98))
noncomputable def S4_2:(DT2×(List Int)×(List Int))→St:=fun(x1,x2,x3)=>stC [(4, .ptr 0 0 0),(6, .ptr 1 0 0),(7, .sl 2 none none)] [.B (.cn (pI x1.1) (.cn (pI x1.2.1) (.cn (pI x1.2.2.1) (.cn (pI x1.2.2.2.1) (.cn (pI x1.2.2.2.2.1) (.cn (pI x1.2.2.2.2.2.1) (.cn (pI x1.2.2.2.2.2.2.1) (.cn (pI x1.2.2.2.2.2.2.2.1) (.cn (pI x1.2.2.2.2.2.2.2.2.1) (.cn (pI x1.2.2.2.2.2.2.2.2.2.1) (.cn (.sl 3 none none) (.cn (.sl 4 none none) .e0)))))))))))), .L tI (x2:List Int), .L tI (x3:List Int), .L T0 (x1.2.2.2.2.2.2.2.2.2.2.1:List DT0), .L T1 (x1.2.2.2.2.2.2.2.2.2.2.2:List DT1)]
noncomputable def S4_3:(DT9×DT2×(List Int)×(List Int))→St:=fun(x1,x2,x3,x4)=>stC [(3, .ptr 0 0 0),(4, .ptr 1 0 0),(6, .ptr 2 0 0),(7, .sl 3 none none)] [.B (toC T9 x1), .B (.cn (pI x2.1) (.cn (pI x2.2.1) (.cn (pI x2.2.2.1) (.cn (pI x2.2.2.2.1) (.cn (pI x2.2.2.2.2.1) (.cn (pI x2.2.2.2.2.2.1) (.cn (pI x2.2.2.2.2.2.2.1) (.cn (pI x2.2.2.2.2.2.2.2.1) (.cn (pI x2.2.2.2.2.2.2.2.2.1) (.cn (pI x2.2.2.2.2.2.2.2.2.2.1) (.cn (.sl 4 none none) (.cn (.sl 5 none none) .e0)))))))))))), .L tI (x3:List Int), .L tI (x4:List Int), .L T0 (x2.2.2.2.2.2.2.2.2.2.2.1:List DT0), .L T1 (x2.2.2.2.2.2.2.2.2.2.2.2:List DT1)]
noncomputable def S4_4:(DT9×DT2×Int)→St:=fun(x1,x2,x3)=>stC [(3, .ptr 0 0 0),(4, .ptr 1 0 0),(5,pI x3)] [.B (toC T9 x1), .B (.cn (pI x2.1) (.cn (pI x2.2.1) (.cn (pI x2.2.2.1) (.cn (pI x2.2.2.2.1) (.cn (pI x2.2.2.2.2.1) (.cn (pI x2.2.2.2.2.2.1) (.cn (pI x2.2.2.2.2.2.2.1) (.cn (pI x2.2.2.2.2.2.2.2.1) (.cn (pI x2.2.2.2.2.2.2.2.2.1) (.cn (pI x2.2.2.2.2.2.2.2.2.2.1) (.cn (.sl 2 none none) (.cn (.sl 3 none none) .e0)))))))))))), .L T0 (x2.2.2.2.2.2.2.2.2.2.2.1:List DT0), .L T1 (x2.2.2.2.2.2.2.2.2.2.2.2:List DT1)]
noncomputable def S4_5:DT9→St:=fun x1=>stC [(3, .ptr 0 0 0)] [.B (toC T9 x1)]
noncomputable def e4 (k:Nat):List (Nat×List Nat×Spec):=[(7,[],p7 k),(9,[],p9 k),(10,[],p10 k),(11,[],p11 k),(12,[],p12w k),(13,[],p13 k),(14,[],p14w k),(15,[],p15w k),(16,[],p16 k)]
noncomputable def h4:H:=(hr (hb (hr (hl (hr (.n [.kp [2]] [] .d .d)))) (.n [] [.kp [3]] .d (hr (.n [] [.kp [3,4,5]] .d (hr (.n [] [.own 7 none tI, .kp [3,4,6,7]] .d (.n [] [.kp [4,6,7]] .d (hr (.n [.kp [2]] [] .d .d))))))))))
noncomputable def s4 (k:Nat):SumT (mkE (e4 k)) 0 k (bodyOf Tryz.f4) h4 [.kp [2]] d73.St S37_1 S37_1 q0:=
 .pre 3 S4_5 (fun x1 N R Z=>f10 k x1 fun x2=>bif !x2 then(f7 k fun x3=>R x3)else(f11 k x1 fun x5=>N x5))
 (.pre 2 S4_4 (fun x6 N R Z=>f12w k x6 fun x7 x8=>f13 k (x8.1,x8.2.1,x8.2.2.1,x8.2.2.2.1,x8.2.2.2.2.1,x8.2.2.2.2.2.1) fun x9=>N (x7,x8,x9))
 (.pre 2 S4_3 (fun(x10,x11,x12) N R Z=>f14w k x10 (w64 (x12+2)) fun x13 x14=>f14w k x13 (w64 ((w64 (3*x12))+2)) fun x15 x16=>N (x15,x11,[w64 (x14-1),w64 (x16-1)],[]))
 (.pre 1 S4_2 (fun(x17,x18,x19,x20) N R Z=>f15w k x17 3 fun x21 x22=>bif x22 then(f16 k (x18.2.2.2.2.2.2.1,x18.2.2.2.2.2.2.2.1,x18.2.2.2.2.2.2.2.2.1,x18.2.2.2.2.2.2.2.2.2.1) fun x23=>f14w k x21 (w64 (x23+1)) fun x24 x25=>if(x20.length+[x25].length)*8≤room then(N (x18,x19,x20++[x25]))else none)else(N (x18,x19,x20)))
 (.leaf fun(x26,x27,x28) N R Z=>f7 k fun x29=>bif x29 then(if 0+2≤x27.length then(f9 k x26 (x27.getD 0 (0:Int),x27.getD 1 (0:Int)) x28 fun x30=>R x30)else none)else(R false)))))
noncomputable def f4 {α:Type} (k:Nat) (x1:(List Int)) (K:Bool→Option α):Option α:=
  (s4 k).F x1 (fun x4=>K x4) (fun x4=>K x4) fun z=>nomatch z
noncomputable def p4 (k:Nat):Spec:={ own:=[false],run:=fun a o K=>(d73.dec a o).bind fun x=>f4 k x fun x4=>K (o37 x4) }
theorem i4 (k:Nat):Impl Tryz.prog glTab 4 (p4 k):=
  .of w0 (l:=e4 k) ⟨i7 k,i9 k,i10 k,i11 k,i12w k,i13 k,i14w k,i15w k,i16 k,trivial⟩ (s4 k) (d1_ok (dP_ok (.sl tI))) _ fun x4 K=>K (o37 x4)
end Go.Proofs.YtkeiedikiiccpaaGreatDoor.Am
