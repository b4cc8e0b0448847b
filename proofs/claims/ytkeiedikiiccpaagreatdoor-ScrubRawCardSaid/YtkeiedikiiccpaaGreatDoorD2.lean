/- Contracts by hand: slices.Delete, slices.Insert, poly.Eval. -/
import Derived.Test.YtkeiedikiiccpaaGreatDoorC10
import Derived.Test.YtkeiedikiiccpaaGreatDoorProg
set_option linter.all false
namespace Go.Proofs.YtkeiedikiiccpaaGreatDoor.Am
open Go
set_option maxRecDepth 100000
noncomputable abbrev T0 : Ty := .pr tI (.pr (.sl tY) (.bool))
abbrev DT0 : Type := Int×(List Int)×Bool
abbrev zT0 : DT0 := ((0 : Int),([] : List Int),false)
noncomputable abbrev T1 : Ty := .pr tI (.pr tI (.pr tI (.pr tI (.pr tI (.pr tI (.pr tI (.pr tI (.pr tY (.pr tY (.bool))))))))))
abbrev DT1 : Type := Int×Int×Int×Int×Int×Int×Int×Int×Int×Int×Bool
abbrev zT1 : DT1 := ((0 : Int),(0 : Int),(0 : Int),(0 : Int),(0 : Int),(0 : Int),(0 : Int),(0 : Int),(0 : Int),(0 : Int),false)
noncomputable abbrev T2 : Ty := .pr tI (.pr tI (.pr tI (.pr tI (.pr tI (.pr tI (.pr tI (.pr tI (.pr tI (.pr tI (.pr (.sl T0) ((.sl T1))))))))))))
abbrev DT2 : Type := Int×Int×Int×Int×Int×Int×Int×Int×Int×Int×(List DT0)×(List DT1)
abbrev zT2 : DT2 := ((0 : Int),(0 : Int),(0 : Int),(0 : Int),(0 : Int),(0 : Int),(0 : Int),(0 : Int),(0 : Int),(0 : Int),([] : List DT0),([] : List DT1))
noncomputable abbrev T3 : Ty := .pr tI (tI)
abbrev DT3 : Type := Int×Int
noncomputable abbrev T4 : Ty := .pr tI (.pr tI (.pr tI (.pr tI (.pr tI (tI)))))
abbrev DT4 : Type := Int×Int×Int×Int×Int×Int
noncomputable abbrev T5 : Ty := .pr tI (.pr tI (.pr tI (tI)))
abbrev DT5 : Type := Int×Int×Int×Int
noncomputable abbrev T6 : Ty := .pr tI (.pr tI (.pr (.sl tY) ((.sl tI))))
abbrev DT6 : Type := Int×Int×(List Int)×(List Int)
abbrev zT6 : DT6 := ((0 : Int),(0 : Int),([] : List Int),([] : List Int))
noncomputable abbrev T7 : Ty := .pr .bool (.pr .bool (.pr .bool (.pr .bool (.pr .bool (.bool)))))
abbrev DT7 : Type := Bool×Bool×Bool×Bool×Bool×Bool
noncomputable abbrev T8 : Ty := .pr tI (.pr (.sl tY) ((.sl tI)))
abbrev DT8 : Type := Int×(List Int)×(List Int)
noncomputable abbrev T9 : Ty := .pr .bool (.pr .bool (.pr .bool (.pr .bool (.pr .bool (.pr .bool (.pr .bool (.pr .bool (.pr .bool (.pr .bool (.pr .bool (.pr .bool (.pr .bool (.pr .bool (.pr .bool (.pr .bool (.pr .bool (.pr .bool (.pr .bool (.pr .bool (.pr .bool (.pr .bool (.pr .bool (.pr .bool (.pr .bool (.pr .bool (.pr .bool (.pr .bool (.pr .bool (.pr .bool (.pr .bool (.pr .bool (.pr .bool (.pr .bool (.pr .bool (.pr .bool (.pr .bool (.pr .bool (.pr .bool (.pr .bool (.pr .bool (.bool)))))))))))))))))))))))))))))))))))))))))
noncomputable abbrev T10 : Ty := .pr .bool (.pr .bool (.pr .bool (.pr .bool (.pr .bool (.pr .bool (.pr .bool (.pr .bool (.pr .bool (.pr .bool (.pr .bool (.pr .bool (.pr .bool (.pr .bool (.pr .bool (.pr .bool (.pr .bool (.pr .bool (.pr .bool (.pr .bool (.pr .bool (.pr .bool (.pr .bool (.pr .bool (.pr .bool (.pr .bool (.pr .bool (.pr .bool (.pr .bool (.pr .bool (.pr .bool (.pr .bool (.pr .bool (.pr .bool (.pr .bool (.pr .bool (.pr .bool (.pr .bool (.pr .bool (.pr .bool (.pr .bool (.pr .bool (.pr .bool (.pr .bool (.pr .bool (.pr .bool (.pr .bool (.pr .bool (.pr .bool (.pr .bool (.pr .bool (.pr .bool (.pr .bool (.pr .bool (.pr .bool (.pr .bool (.pr .bool (.pr .bool (.pr .bool (.pr .bool (.pr .bool (.pr .bool (.pr .bool (.pr .bool (.pr .bool (.pr .bool (.pr .bool (.pr .bool (.pr .bool (.pr .bool (.pr .bool (.pr .bool (.pr .bool (.pr .bool (.pr .bool (.pr .bool (.pr .bool (.pr .bool (.pr .bool (.pr .bool (.pr .bool (.pr .bool (.pr .bool (.pr .bool (.pr .bool (.pr .bool (.pr .bool (.pr .bool (.pr .bool (.pr .bool (.pr .bool (.pr .bool (.pr .bool (.pr .bool (.pr .bool (.pr .bool (.pr .bool (.pr .bool (.pr .bool (.pr .bool (.pr .bool (.pr .bool (.pr .bool (.pr .bool (.pr .bool (.pr .bool (.pr .bool (.pr .bool (.pr .bool (.pr .bool (.pr .bool (.pr .bool (.pr .bool (.pr .bool (.pr .bool (.pr .bool (.pr .bool (.pr .bool (.pr .bool (.pr .bool (.pr .bool (.pr .bool (.pr .bool (.pr .bool (.pr .bool (.pr .bool (.pr .bool (.pr .bool (.pr .bool (.pr .bool (.pr .bool (.pr .bool (.pr .bool (.pr .bool (.pr .bool (.pr .bool (.pr .bool (.pr .bool (.pr .bool (.pr .bool (.pr .bool (.pr .bool (.pr .bool (.pr .bool (.pr .bool (.pr .bool (.pr .bool (.pr .bool (.pr .bool (.pr .bool (.pr .bool (.pr .bool (.pr .bool (.pr .bool (.pr .bool (.pr .bool (.pr .bool (.pr .bool (.pr .bool (.pr .bool (.pr .bool (.pr .bool (.pr .bool (.pr .bool (.pr .bool (.pr .bool (.pr .bool (.pr .bool (.pr .bool (.pr .bool (.pr .bool (.pr .bool (.pr .bool (.pr .bool (.pr .bool (.pr .bool (.pr .bool (.pr .bool (.pr .bool (.pr .bool (.pr .bool (.pr .bool (.pr .bool (.pr .bool (.pr .bool (.pr .bool (.pr .bool (.pr .bool (.pr .bool (.pr .bool (.pr .bool (.pr .bool (.pr .bool (.pr .bool (.pr .bool (.pr .bool (.pr .bool (.pr .bool (.pr .bool (.pr .bool (.pr .bool (.pr .bool (.pr .bool (.pr .bool (.pr .bool (.pr .bool (.pr .bool (.pr .bool (.pr .bool (.pr .bool (.pr .bool (.pr .bool (.pr .bool (.pr .bool (.pr .bool (.pr .bool (.pr .bool (.pr .bool (.pr .bool (.pr .bool (.pr .bool (.pr .bool (.pr .bool (.pr .bool (.pr .bool (.pr .bool (.pr .bool (.pr .bool (.pr .bool (.pr .bool (.pr .bool (.pr .bool (.pr .bool (.pr .bool (.pr .bool (.pr .bool (.pr .bool (.pr .bool (.pr .bool (.pr .bool (.pr .bool (.pr .bool (.pr .bool (.pr .bool (.pr .bool (.pr .bool (.pr .bool (.pr .bool (.pr .bool (.pr .bool (.pr .bool (.pr .bool (.pr .bool (.pr .bool (.pr .bool (.bool)))))))))))))))))))))))))))))))))))))))))))))))))))))))))))))))))))))))))))))))))))))))))))))))))))))))))))))))))))))))))))))))))))))))))))))))))))))))))))))))))))))))))))))))))))))))))))))))))))))))))))))))))))))))))))))))))))))))))))))))))))))))))))))))
noncomputable def y3 : TI := { u := .int .i64,size := 1,bytes := 8,z := .cn (pI 0) .e0,ec := tI,ab := none,cq := false }
noncomputable def y4 : TI := { u := .bool,size := 1,bytes := 1,z := .cn (pB false) .e0,ec := .bool,ab := none,cq := false }
noncomputable def y5 : TI := { u := .int .u8,size := 1,bytes := 1,z := .cn (pY 0) .e0,ec := tY,ab := none,cq := false }
noncomputable def y9 : TI := { u := .str,size := 1,bytes := 16,z := .cn (.p .str (ByteArray.empty : ByteArray)) .e0,ec := .str,ab := none,cq := false }
noncomputable def y23 : TI := { u := .st [(0,3),(1,3),(2,3),(3,3),(4,3),(5,3)],size := 6,bytes := 48,z := .cn (pI 0) (.cn (pI 0) (.cn (pI 0) (.cn (pI 0) (.cn (pI 0) (.cn (pI 0) .e0))))),ec := T4,ab := none,cq := true }
noncomputable def y25 : TI := { u := .st [(0,3),(1,3),(2,3),(3,3)],size := 4,bytes := 32,z := .cn (pI 0) (.cn (pI 0) (.cn (pI 0) (.cn (pI 0) .e0))),ec := T5,ab := none,cq := true }
noncomputable def y26 : TI := { u := .sl 87,size := 1,bytes := 24,z := .cn (.nil) .e0,ec := (.sl T0),ab := none,cq := false }
noncomputable def y27 : TI := { u := .sl 61,size := 1,bytes := 24,z := .cn (.nil) .e0,ec := (.sl T1),ab := none,cq := false }
noncomputable def y29 : TI := { u := .st [(0,23),(6,25),(10,26),(11,27)],size := 12,bytes := 128,z := .cn (pI 0) (.cn (pI 0) (.cn (pI 0) (.cn (pI 0) (.cn (pI 0) (.cn (pI 0) (.cn (pI 0) (.cn (pI 0) (.cn (pI 0) (.cn (pI 0) (.cn (.nil) (.cn (.nil) .e0))))))))))),ec := T2,ab := none,cq := false }
noncomputable def y30 : TI := { u := .ar 2 3,size := 2,bytes := 16,z := .cn (pI 0) (.cn (pI 0) .e0),ec := T3,ab := (some (tI,2)),cq := false }
noncomputable def y31 : TI := { u := .sl 3,size := 1,bytes := 24,z := .cn (.nil) .e0,ec := (.sl tI),ab := none,cq := false }
noncomputable def y40 : TI := { u := .fn,size := 1,bytes := 8,z := .cn (.k (.nilFunc)) .e0,ec := .un,ab := none,cq := false }
noncomputable def y43 : TI := { u := .sl 5,size := 1,bytes := 24,z := .cn (.nil) .e0,ec := (.sl tY),ab := none,cq := false }
noncomputable def y45 : TI := { u := .st [(0,3),(1,43),(2,31)],size := 3,bytes := 56,z := .cn (pI 0) (.cn (.nil) (.cn (.nil) .e0)),ec := T8,ab := none,cq := false }
noncomputable def y46 : TI := { u := .int .i64,size := 1,bytes := 8,z := .cn (pI 0) .e0,ec := tI,ab := none,cq := false }
noncomputable def y59 : TI := { u := .st [(0,3),(1,3),(2,3),(3,3),(4,3),(5,3)],size := 6,bytes := 48,z := .cn (pI 0) (.cn (pI 0) (.cn (pI 0) (.cn (pI 0) (.cn (pI 0) (.cn (pI 0) .e0))))),ec := T4,ab := none,cq := true }
noncomputable def y61 : TI := { u := .st [(0,3),(1,59),(7,3),(8,5),(9,5),(10,4)],size := 11,bytes := 72,z := .cn (pI 0) (.cn (pI 0) (.cn (pI 0) (.cn (pI 0) (.cn (pI 0) (.cn (pI 0) (.cn (pI 0) (.cn (pI 0) (.cn (pY 0) (.cn (pY 0) (.cn (pB false) .e0)))))))))),ec := T1,ab := none,cq := true }
noncomputable def y62 : TI := { u := .sl 66,size := 1,bytes := 24,z := .cn (.nil) .e0,ec := (.sl T6),ab := none,cq := false }
noncomputable def y66 : TI := { u := .st [(0,3),(1,45)],size := 4,bytes := 64,z := .cn (pI 0) (.cn (pI 0) (.cn (.nil) (.cn (.nil) .e0))),ec := T6,ab := none,cq := false }
noncomputable def y78 : TI := { u := .int .u64,size := 1,bytes := 8,z := .cn (pU 0) .e0,ec := tU,ab := none,cq := false }
noncomputable def y84 : TI := { u := .pt 29,size := 1,bytes := 8,z := .cn (.k (.pointer none)) .e0,ec := .un,ab := none,cq := false }
noncomputable def y87 : TI := { u := .st [(0,3),(1,43),(2,4)],size := 3,bytes := 40,z := .cn (pI 0) (.cn (.nil) (.cn (pB false) .e0)),ec := T0,ab := none,cq := false }
noncomputable def y96 : TI := { u := .ar 6 3,size := 6,bytes := 48,z := .cn (pI 0) (.cn (pI 0) (.cn (pI 0) (.cn (pI 0) (.cn (pI 0) (.cn (pI 0) .e0))))),ec := T4,ab := (some (tI,6)),cq := false }
noncomputable def y114 : TI := { u := .st [(0,3),(1,43),(2,31)],size := 3,bytes := 56,z := .cn (pI 0) (.cn (.nil) (.cn (.nil) .e0)),ec := T8,ab := none,cq := false }
noncomputable def y117 : TI := { u := .fn,size := 1,bytes := 8,z := .cn (.k (.nilFunc)) .e0,ec := .un,ab := none,cq := false }
noncomputable def y118 : TI := { u := .ar 6 4,size := 6,bytes := 6,z := .cn (pB false) (.cn (pB false) (.cn (pB false) (.cn (pB false) (.cn (pB false) (.cn (pB false) .e0))))),ec := T7,ab := (some (.bool,6)),cq := false }
noncomputable def y130 : TI := { u := .fn,size := 1,bytes := 8,z := .cn (.k (.nilFunc)) .e0,ec := .un,ab := none,cq := false }
noncomputable def y131 : TI := { u := .ar 7 118,size := 42,bytes := 42,z := .cn (pB false) (.cn (pB false) (.cn (pB false) (.cn (pB false) (.cn (pB false) (.cn (pB false) (.cn (pB false) (.cn (pB false) (.cn (pB false) (.cn (pB false) (.cn (pB false) (.cn (pB false) (.cn (pB false) (.cn (pB false) (.cn (pB false) (.cn (pB false) (.cn (pB false) (.cn (pB false) (.cn (pB false) (.cn (pB false) (.cn (pB false) (.cn (pB false) (.cn (pB false) (.cn (pB false) (.cn (pB false) (.cn (pB false) (.cn (pB false) (.cn (pB false) (.cn (pB false) (.cn (pB false) (.cn (pB false) (.cn (pB false) (.cn (pB false) (.cn (pB false) (.cn (pB false) (.cn (pB false) (.cn (pB false) (.cn (pB false) (.cn (pB false) (.cn (pB false) (.cn (pB false) (.cn (pB false) .e0))))))))))))))))))))))))))))))))))))))))),ec := T9,ab := (some (.bool,42)),cq := false }
noncomputable def y162 : TI := { u := .fn,size := 1,bytes := 8,z := .cn (.k (.nilFunc)) .e0,ec := .un,ab := none,cq := false }
noncomputable def y170 : TI := { u := .sl 43,size := 1,bytes := 24,z := .cn (.nil) .e0,ec := (.sl (.sl tY)),ab := none,cq := false }
noncomputable def y179 : TI := { u := .int .u32,size := 1,bytes := 4,z := .cn (.p tU32 (0 : Int)) .e0,ec := tU32,ab := none,cq := false }
noncomputable def y181 : TI := { u := .int .u64,size := 1,bytes := 8,z := .cn (pU 0) .e0,ec := tU,ab := none,cq := false }
noncomputable def y186 : TI := { u := .fn,size := 1,bytes := 8,z := .cn (.k (.nilFunc)) .e0,ec := .un,ab := none,cq := false }
noncomputable def y196 : TI := { u := .int .i64,size := 1,bytes := 8,z := .cn (pI 0) .e0,ec := tI,ab := none,cq := false }
noncomputable def y204 : TI := { u := .ar 256 4,size := 256,bytes := 256,z := .cn (pB false) (.cn (pB false) (.cn (pB false) (.cn (pB false) (.cn (pB false) (.cn (pB false) (.cn (pB false) (.cn (pB false) (.cn (pB false) (.cn (pB false) (.cn (pB false) (.cn (pB false) (.cn (pB false) (.cn (pB false) (.cn (pB false) (.cn (pB false) (.cn (pB false) (.cn (pB false) (.cn (pB false) (.cn (pB false) (.cn (pB false) (.cn (pB false) (.cn (pB false) (.cn (pB false) (.cn (pB false) (.cn (pB false) (.cn (pB false) (.cn (pB false) (.cn (pB false) (.cn (pB false) (.cn (pB false) (.cn (pB false) (.cn (pB false) (.cn (pB false) (.cn (pB false) (.cn (pB false) (.cn (pB false) (.cn (pB false) (.cn (pB false) (.cn (pB false) (.cn (pB false) (.cn (pB false) (.cn (pB false) (.cn (pB false) (.cn (pB false) (.cn (pB false) (.cn (pB false) (.cn (pB false) (.cn (pB false) (.cn (pB false) (.cn (pB false) (.cn (pB false) (.cn (pB false) (.cn (pB false) (.cn (pB false) (.cn (pB false) (.cn (pB false) (.cn (pB false) (.cn (pB false) (.cn (pB false) (.cn (pB false) (.cn (pB false) (.cn (pB false) (.cn (pB false) (.cn (pB false) (.cn (pB false) (.cn (pB false) (.cn (pB false) (.cn (pB false) (.cn (pB false) (.cn (pB false) (.cn (pB false) (.cn (pB false) (.cn (pB false) (.cn (pB false) (.cn (pB false) (.cn (pB false) (.cn (pB false) (.cn (pB false) (.cn (pB false) (.cn (pB false) (.cn (pB false) (.cn (pB false) (.cn (pB false) (.cn (pB false) (.cn (pB false) (.cn (pB false) (.cn (pB false) (.cn (pB false) (.cn (pB false) (.cn (pB false) (.cn (pB false) (.cn (pB false) (.cn (pB false) (.cn (pB false) (.cn (pB false) (.cn (pB false) (.cn (pB false) (.cn (pB false) (.cn (pB false) (.cn (pB false) (.cn (pB false) (.cn (pB false) (.cn (pB false) (.cn (pB false) (.cn (pB false) (.cn (pB false) (.cn (pB false) (.cn (pB false) (.cn (pB false) (.cn (pB false) (.cn (pB false) (.cn (pB false) (.cn (pB false) (.cn (pB false) (.cn (pB false) (.cn (pB false) (.cn (pB false) (.cn (pB false) (.cn (pB false) (.cn (pB false) (.cn (pB false) (.cn (pB false) (.cn (pB false) (.cn (pB false) (.cn (pB false) (.cn (pB false) (.cn (pB false) (.cn (pB false) (.cn (pB false) (.cn (pB false) (.cn (pB false) (.cn (pB false) (.cn (pB false) (.cn (pB false) (.cn (pB false) (.cn (pB false) (.cn (pB false) (.cn (pB false) (.cn (pB false) (.cn (pB false) (.cn (pB false) (.cn (pB false) (.cn (pB false) (.cn (pB false) (.cn (pB false) (.cn (pB false) (.cn (pB false) (.cn (pB false) (.cn (pB false) (.cn (pB false) (.cn (pB false) (.cn (pB false) (.cn (pB false) (.cn (pB false) (.cn (pB false) (.cn (pB false) (.cn (pB false) (.cn (pB false) (.cn (pB false) (.cn (pB false) (.cn (pB false) (.cn (pB false) (.cn (pB false) (.cn (pB false) (.cn (pB false) (.cn (pB false) (.cn (pB false) (.cn (pB false) (.cn (pB false) (.cn (pB false) (.cn (pB false) (.cn (pB false) (.cn (pB false) (.cn (pB false) (.cn (pB false) (.cn (pB false) (.cn (pB false) (.cn (pB false) (.cn (pB false) (.cn (pB false) (.cn (pB false) (.cn (pB false) (.cn (pB false) (.cn (pB false) (.cn (pB false) (.cn (pB false) (.cn (pB false) (.cn (pB false) (.cn (pB false) (.cn (pB false) (.cn (pB false) (.cn (pB false) (.cn (pB false) (.cn (pB false) (.cn (pB false) (.cn (pB false) (.cn (pB false) (.cn (pB false) (.cn (pB false) (.cn (pB false) (.cn (pB false) (.cn (pB false) (.cn (pB false) (.cn (pB false) (.cn (pB false) (.cn (pB false) (.cn (pB false) (.cn (pB false) (.cn (pB false) (.cn (pB false) (.cn (pB false) (.cn (pB false) (.cn (pB false) (.cn (pB false) (.cn (pB false) (.cn (pB false) (.cn (pB false) (.cn (pB false) (.cn (pB false) (.cn (pB false) (.cn (pB false) (.cn (pB false) (.cn (pB false) (.cn (pB false) (.cn (pB false) (.cn (pB false) (.cn (pB false) (.cn (pB false) (.cn (pB false) (.cn (pB false) (.cn (pB false) (.cn (pB false) (.cn (pB false) (.cn (pB false) (.cn (pB false) (.cn (pB false) (.cn (pB false) (.cn (pB false) (.cn (pB false) (.cn (pB false) (.cn (pB false) (.cn (pB false) (.cn (pB false) (.cn (pB false) (.cn (pB false) (.cn (pB false) (.cn (pB false) (.cn (pB false) (.cn (pB false) (.cn (pB false) (.cn (pB false) (.cn (pB false) (.cn (pB false) (.cn (pB false) (.cn (pB false) .e0))))))))))))))))))))))))))))))))))))))))))))))))))))))))))))))))))))))))))))))))))))))))))))))))))))))))))))))))))))))))))))))))))))))))))))))))))))))))))))))))))))))))))))))))))))))))))))))))))))))))))))))))))))))))))))))))))))))))))))))))))))))))))))))),ec := T10,ab := (some (.bool,256)),cq := false }
noncomputable def y208 : TI := { u := .pt 204,size := 1,bytes := 8,z := .cn (.k (.pointer none)) .e0,ec := .un,ab := none,cq := false }
noncomputable def tyTab : TT := (.nd 66 y66 (.nd 30 y30 (.nd 23 y23 (.nd 5 y5 (.nd 4 y4 (.nd 3 y3 .lf .lf) .lf) (.nd 9 y9 .lf .lf)) (.nd 27 y27 (.nd 26 y26 (.nd 25 y25 .lf .lf) .lf) (.nd 29 y29 .lf .lf))) (.nd 46 y46 (.nd 43 y43 (.nd 40 y40 (.nd 31 y31 .lf .lf) .lf) (.nd 45 y45 .lf .lf)) (.nd 61 y61 (.nd 59 y59 .lf .lf) (.nd 62 y62 .lf .lf)))) (.nd 131 y131 (.nd 114 y114 (.nd 87 y87 (.nd 84 y84 (.nd 78 y78 .lf .lf) .lf) (.nd 96 y96 .lf .lf)) (.nd 118 y118 (.nd 117 y117 .lf .lf) (.nd 130 y130 .lf .lf))) (.nd 186 y186 (.nd 179 y179 (.nd 170 y170 (.nd 162 y162 .lf .lf) .lf) (.nd 181 y181 .lf .lf)) (.nd 204 y204 (.nd 196 y196 .lf .lf) (.nd 208 y208 .lf .lf)))))
noncomputable def glTab : Nat→AV
  | 0 => .rl .bool (namesT : List Bool) 0 0
  | _ => .any
noncomputable abbrev mkE (l : List (Nat×List Nat×Spec)) : Env := { ti := tyTab.get,gl := glTab,orc := lkS l }
theorem w0 : World0 Tryz.prog glTab tyTab := ⟨by kernel_rfl,by kernel_rfl,fun g => by unfold glTab; split <;> rfl⟩
noncomputable def d175 : Dec Int := d1 (dP tY)
noncomputable def S175_1 : Int→St := fun x1 => stC [(2,pY x1)] []
noncomputable def e175 (k : Nat) : List (Nat×List Nat×Spec) := []
noncomputable def h175 : H := (hr (hb (hr (hl (hr (.n [.kp [2]] [] .d .d)))) (hr (.n [.kp [2]] [] .d .d))))
noncomputable def s175 (k : Nat) : SumT (mkE (e175 k)) 0 k (bodyOf Tryz.f175) h175 [.kp [2]] d175.St S175_1 S175_1 q0 :=
 .leaf fun x1 N R Z => bif decide (x1 < 128) then (R (w8 (x1 * 2 ^ 1))) else (R (bitI .xor .u8 (w8 (x1 * 2 ^ 1)) 29))
noncomputable def f175 {α : Type} (k : Nat) (x1 : Int) (K : Int→Option α) : Option α :=
  (s175 k).F x1 (fun x2 => K x2) (fun x2 => K x2) fun z => nomatch z
noncomputable def o175 : Int→FRes := fun x1 => { ret := pY x1,objs := [] }
noncomputable def p175 (k : Nat) : Spec := { own := [false],run := fun a o K => (d175.dec a o).bind fun x => f175 k x fun x2 => K (o175 x2) }
theorem i175 (k : Nat) : Impl Tryz.prog glTab 175 (p175 k) :=
  .of w0 (l := e175 k) trivial (s175 k) (d1_ok (dP_ok tY)) _ fun x2 K => K (o175 x2)
noncomputable def d146 : Dec (Int×Int) := dA (dP tY) (d1 (dP tY))
noncomputable def S146_1 : Int→St := fun x1 => stC [(4,pY x1)] []
noncomputable def S146_2 : (Int×Int×Int)→St := fun (x1,x2,x3) => stC [(0,pY x1),(1,pY x2),(5,pY x3)] []
noncomputable def S146_3 : Int→St := fun x1 => stC [(5,pY x1)] []
noncomputable def e146 (k : Nat) : List (Nat×List Nat×Spec) := [(175,[],p175 k)]
noncomputable def h146 : H := (hr (.n [] [.kp [0,1,5]] .d (hb (.n [] [.kp [5]] (.n [.kp [0,1,5]] [.kp [0,1,5]] (hl (hr (hr (.n [.kp [5]] [] .d .d)))) .d) .d) (hr (.n [.kp [4]] [] .d .d)))))
noncomputable def s146 (k : Nat) : SumT (mkE (e146 k)) 0 k (bodyOf Tryz.f146) h146 [.kp [4]] d146.St S146_1 S146_1 q0 :=
 .pre 2 S146_2 (fun (x1,x2) N R Z => N (x1,x2,0))
 (.seq S146_3
 (.block (.loop S146_2 (fun x => x)
  (.leaf fun (x6,x7,x8) N R Z => bif decide (x7 > 0) then (bif (bitI .and .u8 x7 1) == 1 then (f175 k x6 fun x9 => N (x9,Int.fdiv x7 (2 ^ 1),bitI .xor .u8 x8 x6)) else (f175 k x6 fun x10 => N (x10,Int.fdiv x7 (2 ^ 1),x8))) else (Z (.inl x8)))))
 (.leaf fun x11 N R Z => R x11))
noncomputable def f146 {α : Type} (k : Nat) (x1 : Int) (x2 : Int) (K : Int→Option α) : Option α :=
  (s146 k).F (x1,x2) (fun x12 => K x12) (fun x12 => K x12) fun z => nomatch z
noncomputable def p146 (k : Nat) : Spec := { own := [false,false],run := fun a o K => (d146.dec a o).bind fun x => f146 k x.1 x.2 fun x12 => K (o175 x12) }
theorem i146 (k : Nat) : Impl Tryz.prog glTab 146 (p146 k) :=
  .of w0 (l := e146 k) ⟨i175 k,trivial⟩ (s146 k) (dA_ok (dP_ok tY) (d1_ok (dP_ok tY))) _ fun x12 K => K (o175 x12)
end Go.Proofs.YtkeiedikiiccpaaGreatDoor.Am
