/- ScrubRaw: over every memory, pair of numbers and list of erased places the law answers true and nothing that was there is changed. Conditions: those of the given row (what comes in is well formed and within the reach of the machine; the listed variable holds what the program laid). -/
import Derived.Test.YtkeiedikiiccpaaGreatDoorC10
import Derived.Test.YtkeiedikiiccpaaGreatDoorRows
import Derived.ProofKit
import Derived.LaidMore
import Derived.Lay
import Derived.OpenShut
import Derived.Stop.Joined
import Derived.Test.YtkeiedikiiccpaaGreatDoorTie
import Derived.Test.YtkeiedikiiccpaaGreatDoorCards
import Derived.Test.YtkeiedikiiccpaaGreatDoorL11
set_option linter.all false
namespace Go.Proofs.YtkeiedikiiccpaaGreatDoor
open Go.ChangeShapes Go.WideShapes Go.ChangeAt Go.WideMaps Go.WideElems Go.RowKit
open Am (VR Zw tyIs tyOk toC Impl Ty AV namesT)
theorem r_own : ownKnob Tryz.prog.godebug = none := by kernel_rfl
theorem r_out : laidOutB Tryz.prog = true := by kernel_rfl
theorem r_names : Tryz.prog.globalNamed "memfault/part.names" = some 0 := by kernel_rfl
theorem r_ty : (Tryz.prog.globals[0]?).map (·.type) = some 131 := by kernel_rfl
theorem r_met (os : Os) (args : Array Value) : laidMetH Tryz.prog Rows.scrubRawRow.laid ((World.laidAll Tryz.prog os Rows.scrubRawRow.laid).forCall (fun _ _ => 0) ⟨#[],args,[]⟩).memory := by
 rw [MakeChecks.laidMetH_plain _ _ _ (by kernel_rfl)]
 exact laidMet_laidAll _ (by kernel_rfl) (by kernel_rfl)
def r_gl : Nat → AV
 | 0 => .rl .bool (namesT : List Bool) 0 0
 | _ => .any
theorem r_glv {W : World} (h : laidMetH Tryz.prog Rows.scrubRawRow.laid W) : ∀ g,VR (Zw W) W (fun _ => .un) (r_gl g) [.pointer (some ⟨g,0,none⟩)] := by
 rw [MakeChecks.laidMetH_plain _ _ _ (by kernel_rfl)] at h
 obtain ⟨cs,h1,h2⟩ := Am.laid_cells (m := 4) (vs := namesT.map fun b => Value.bool b) h r_names r_ty (by kernel_rfl) (by kernel_rfl)
 intro g
 unfold r_gl
 split
 ·exact Am.gl_bools r_names h1 h2 (by decide)
 ·exact ⟨_,rfl⟩
def r_zero : Value := .agg #[.int .i64 0,.int .i64 0,.int .i64 0,.int .i64 0,.int .i64 0,.int .i64 0,.int .i64 0,.int .i64 0,.int .i64 0,.int .i64 0,.slice none 0 0,.slice none 0 0]
set_option maxRecDepth 100000 in
theorem raw_lifted {e1 e2 : Ty} (h1 : tyIs Tryz.prog 9 29 e1) (h2 : tyIs Tryz.prog 9 30 e2)
  (law : ∀ (m : e1.den) (n : e2.den) (er : List Int),tyOk e1 m → tyOk e2 n → tyOk (.sl (.int .i64)) er → ∃ sp,Impl Tryz.prog r_gl 3 sp ∧
   sp.run (.cn (.agg (toC e1 m)) (.cn (.agg (toC e2 n)) (.cn (.p (.sl (.int .i64)) er) .e0))) [] some = some { ret := .p .bool true,objs := [] })
  (os : Os) (started : os.Started) (H : Type) (enc : TypeId × Value → H) :
  ReturnsInHanded {} Tryz.checked os 3 .any (fun w args => (Rows.scrubRawSpec.pre enc Tryz.prog Tryz.f3 [] false w args ∧ laidMetH Tryz.prog Rows.scrubRawRow.laid w) ∧ sizedMet enc Tryz.prog Tryz.f3 (OpenSpec.ofChange Rows.scrubRawSpec) false w args)
   (Rows.scrubRawSpec.post enc Tryz.prog Tryz.f3 false true false false) := by
 refine returnsInHanded_of_change_and (C := Tryz.checked) (X := fun w _ => laidMetH Tryz.prog Rows.scrubRawRow.laid w) (fun _ _ _ hh h => h.of_heap hh) r_own started (by kernel_rfl) Tryz.func3
  (ChangeSpec.witness_shaped (enc := enc) (C := Tryz.checked) (os := os) (X := fun w _ => laidMetH Tryz.prog Rows.scrubRawRow.laid w) false (World.laidAll Tryz.prog os Rows.scrubRawRow.laid) #[r_zero,.agg #[.int .i64 0,.int .i64 0],.slice none 0 0] 8 (World.laidAll_os _ _ _)
   (World.shaped_of_ZipB (by kernel_rfl) (by kernel_rfl)) (by kernel_rfl) (by kernel_rfl) (by kernel_rfl) (r_met os _)) ?_
 intro W base args ds gs before hval0 hW _ hz0 hL _
 have hval : ∀ (j : Nat) t v,Tryz.f3.params[j]? = some t → args[j]? = some v → Value.okWide Tryz.prog W .any base t v := hval0
 have hW' := hW
 obtain ⟨p,q,hA0,hV,rfl,hfz,hnd⟩ := hW
 have hA : DataW.TrodAll enc Tryz.prog W 0 (fun _ => true) true Tryz.f3.params.toList args.toList ds p := hA0
 have hp : Tryz.f3.params.toList = [29,30,31] := by kernel_rfl
 rw [hp] at hA
 obtain ⟨rfl,rfl⟩ := trodVars_none hV
 obtain ⟨v1,vs1,d1,ds1,p1,q1,ea,rfl,rfl,t1,hA⟩ := trodAll_cons hA
 obtain ⟨v2,vs2,d2,ds2,p2,q2,eb,rfl,rfl,t2,hA⟩ := trodAll_cons hA
 obtain ⟨v3,vs3,d3,ds3,p3,q3,ec,rfl,rfl,t3,hA⟩ := trodAll_cons hA
 obtain ⟨ed,rfl,rfl⟩ := trodAll_nil hA
 subst ed ec eb
 rw [hp] at hz0
 have hz : ∀ n ∈ d1.weights Tryz.prog 29 ++ (d2.weights Tryz.prog 30 ++ (d3.weights Tryz.prog 31 ++ [])),n ≤ reachBytes := fun n hn => by
  have := List.all_eq_true.1 hz0 n (by
   simp only [List.cons_append,DataW.weightsEach]
   simp only [List.mem_append,List.not_mem_nil,or_false] at hn ⊢
   rcases hn with h | h | h
   ·exact .inl h
   ·exact .inr (.inl h)
   ·exact .inr (.inr (.inl h)))
  exact of_decide_eq_true this
 have hargs : args = #[v1,v2,v3] := Array.ext' ea
 subst hargs
 obtain ⟨m,m1,m2⟩ := Am.arg_struct (σ := fun _ => .un) (show Tryz.prog.underlying 29 = some (.struct _) from rfl) h1 (hval 0 29 v1 (by kernel_rfl) rfl) t1 fun n hn => hz n (by simp [hn])
 obtain ⟨n,n1,n2⟩ := Am.arg_array (σ := fun _ => .un) (show Tryz.prog.underlying 30 = some (.array 2 3) by kernel_rfl) h2 (hval 1 30 v2 (by kernel_rfl) rfl) t2 fun n hn => hz n (by simp [hn])
 obtain ⟨er,r1,r2⟩ := Am.arg_slice (m := 9) (σ := fun _ => .un) (show Tryz.prog.underlying 31 = some (.slice 3) by kernel_rfl) (show (Am.cellsTy Tryz.prog 9 31).map Am.prOf = some (.sl (.int .i64)) by kernel_rfl) (hval 2 31 v3 (by kernel_rfl) rfl) t3 fun n hn => hz n (by simp [hn])
 obtain ⟨sp,I,hrun⟩ := law m n er m2 n2 r2
 refine (Am.run_law I hrun (W := W) (vs := #[v1,v2,v3]) ⟨v1,_,rfl,m1,⟨v2,_,rfl,n1,⟨v3,_,rfl,r1,rfl,rfl⟩,rfl⟩,rfl⟩ rfl (r_glv hL)).mono fun e W' ⟨he,hb⟩ => ?_
 subst he
 exact ⟨_,rfl,Am.law_post r_out rfl hW' rfl (show Tryz.f3.resultTypes = #[4] by kernel_rfl) (show Tryz.prog.underlying 4 = some .bool by kernel_rfl) (by rw [hp]; intro t ht; simp at ht; rcases ht with rfl | rfl | rfl <;> exact ⟨by kernel_rfl,of_decide_eq_true (by kernel_rfl)⟩) hb⟩
end Go.Proofs.YtkeiedikiiccpaaGreatDoor
namespace Go.Proofs.YtkeiedikiiccpaaGreatDoor
open Go.ChangeShapes Go.WideShapes Go.ChangeAt Go.WideMaps Go.WideElems Go.RowKit
open Am (tyIs tyOk toC Impl Ty AV)
theorem raw_said {e1 e2 : Ty} (h1 : tyIs Tryz.prog 9 29 e1) (h2 : tyIs Tryz.prog 9 30 e2)
  (law : ∀ (m : e1.den) (n : e2.den) (er : List Int),tyOk e1 m → tyOk e2 n → tyOk (.sl (.int .i64)) er → ∃ sp,Impl Tryz.prog r_gl 3 sp ∧
   sp.run (.cn (.agg (toC e1 m)) (.cn (.agg (toC e2 n)) (.cn (.p (.sl (.int .i64)) er) .e0))) [] some = some { ret := .p .bool true,objs := [] }) : Rows.ScrubRawSaid :=
 OpenClaim.holds_of_wide 3 Tryz.f3 rfl rfl rfl rfl rfl rfl rfl ⟨rfl,rfl,rfl,rfl,rfl⟩ rfl rfl rfl rfl rfl (by kernel_rfl) Tryz.func3 (by kernel_rfl)
  (of_decide_eq_true (by kernel_rfl)) (by unfold Func.isWrapper; rw [if_neg (of_decide_eq_false (by kernel_rfl))]; exact ⟨rfl,rfl⟩)
  (fun os started H enc _ => raw_lifted h1 h2 law os started H enc)
theorem raw_card (h : Rows.ScrubRawSaid) : Rows.ScrubRawCardSaid :=
 Claim7.holds_tied_plain_at .later [] [.data,.data,.pinned] true (true, "de3eb7d455de91ab071a109ef917c396faf86d8c636ac7e42c68fac18a4d3652") false
  h (fun _ h => by cases h) (by kernel_rfl) (fun _ h => by cases h) scrubRaw_row_tie rfl ⟨rfl,rfl⟩ (by kernel_rfl) rfl
  (fun f fn hf hfn => by
   obtain rfl : f = 3 := Option.some.inj ((show Tryz.prog.funcNamed "memfault/memfaultlaw15.ScrubRaw" = some 3 by kernel_rfl).symm.trans hf) |>.symm
   obtain rfl : fn = Tryz.f3 := (Option.some.inj (Tryz.func3.symm.trans hfn)).symm
   exact ⟨by kernel_rfl,fun j t ht => by
    have hp : Tryz.f3.params.toList = [29,30,31] := by kernel_rfl
    have hm : t ∈ Tryz.f3.params.toList := Array.mem_toList_iff.2 (Array.mem_of_getElem? ht)
    rw [hp] at hm
    simp at hm
    rcases hm with rfl | rfl | rfl
    ·exact (show Tryz.prog.wantsStandIn 29 = false by kernel_rfl)
    ·exact (show Tryz.prog.wantsStandIn 30 = false by kernel_rfl)
    ·exact (show Tryz.prog.wantsStandIn 31 = false by kernel_rfl)⟩)
  (by kernel_rfl)
end Go.Proofs.YtkeiedikiiccpaaGreatDoor
namespace Go.Proofs.YtkeiedikiiccpaaGreatDoor
open Go
open Am (tyIs tyOk toC Impl Ty AV T2 T3 DT2 DT3)
theorem raw_law (m : T2.den) (n : T3.den) (er : List Int) (hm : tyOk T2 m) : ∃ sp,Impl Tryz.prog r_gl 3 sp ∧
  sp.run (.cn (.agg (toC T2 m)) (.cn (.agg (toC T3 n)) (.cn (.p (.sl (.int .i64)) er) .e0))) [] some = some { ret := .p .bool true,objs := [] } := by
 obtain ⟨k,hk⟩ := Am.law_ty m n er hm
 have hd : Am.d9.dec (.cn (.agg (toC T2 m)) (.cn (.agg (toC T3 n)) (.cn (.p (.sl (.int .i64)) er) .e0))) [] = some (m,n,er) := by kernel_rfl
 refine ⟨Am.p3 k,Am.i3 k,?_⟩
 show (Am.d9.dec (.cn (.agg (toC T2 m)) (.cn (.agg (toC T3 n)) (.cn (.p (.sl (.int .i64)) er) .e0))) []).bind (fun x => Am.f3 k x.1 x.2.1 x.2.2 fun b => some (Am.o37 b)) = _
 rw [hd]
 exact hk _
theorem raw_done : Rows.ScrubRawCardSaid :=
 raw_card (raw_said (e1 := T2) (e2 := T3) (by unfold tyIs; kernel_rfl) (by unfold tyIs; kernel_rfl) fun m n er h1 _ _ => raw_law m n er h1)
end Go.Proofs.YtkeiedikiiccpaaGreatDoor
