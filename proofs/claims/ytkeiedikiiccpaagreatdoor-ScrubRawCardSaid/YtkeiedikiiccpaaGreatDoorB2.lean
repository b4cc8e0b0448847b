/- Bytes as the field of 256 elements; slices.Backward as an iterator. -/
import Derived.RangeFuncNested
import Derived.RangeFuncBound
import Derived.RangeFuncCalls
import Derived.RangeFuncLeaves
import Derived.RangeFuncBox
import Derived.Shelf.Abstract
import Derived.Shelf.RegionOpen
import Derived.WalkKit
import Derived.OwnWalkIn
import Derived.TacticsInMore
import Derived.LoopNIn
import Derived.LoopIn
import Derived.Test.YtkeiedikiiccpaaGreatDoorProg
import Derived.Test.YtkeiedikiiccpaaGreatDoorA1
import Derived.Test.YtkeiedikiiccpaaGreatDoorB1
set_option linter.all false
namespace Go.Proofs.YtkeiedikiiccpaaGreatDoor.Am
open Go Go.RowKit Go.Shelf
attribute [local go_sem] Oper.semAt_some
def upto {α : Type} (f : Nat → α) (k : Nat) : List α := (List.range k).map f
theorem upto_succ {α : Type} (f : Nat → α) (k : Nat) : upto f (k + 1) = upto f k ++ [f k] := by simp [upto,List.range_succ]
theorem upto_length {α : Type} (f : Nat → α) (k : Nat) : (upto f k).length = k := by simp [upto]
set_option maxRecDepth 100000 in
set_option maxHeartbeats 2000000 in
theorem back1_in (F : Fence) (n : Nat) (h8 : F.fn 185) (hro : F.round = none) (hn : 1 ≤ n) (l Bs n₀ b off len cap : Nat) (zs : Nat → F8) (hreach : len ≤ 140737488355328) (hb : b < n₀) (J Jx : List (Nat × F8) → World → Prop)
  (hY : ∀ pre x W,J pre W → pre.length < len → YieldAt F (n - 1) Tryz.prog l #[.int .i64 (x.1 : Int),.int .u8 (ofG x.2)] W fun e W' =>
   (e = .returned (.bool true) ∧ J (pre ++ [x]) W' ∧ (Below n₀ W W' ∧ W'.heap[Bs]? = W.heap[Bs]?)) ∨ (e = .returned (.bool false) ∧ Jx (pre ++ [x]) W'))
  (W : World) (hBs : W.cell? ⟨Bs,0,none⟩ = some (.slice (some ⟨b,off,none⟩) len cap)) (hc : ∀ j,j < len → W.cell? ⟨b,off + j,none⟩ = some (.int .u8 (ofG (zs j)))) (h0 : J [] W) :
  CallsIn F n Tryz.prog 185 #[.func (.yield l) #[] #[],.pointer (some ⟨Bs,0,none⟩)] W fun e W' => (∃ v,e = .returned v) ∧
   ((∃ ys,ys = upto (fun j => (len - 1 - j,zs (len - 1 - j))) len ∧ J ys W') ∨ (∃ pre,(∃ k,k ≤ len ∧ pre = upto (fun j => (len - 1 - j,zs (len - 1 - j))) k) ∧ Jx pre W')) := by
 refine callsIn_of_wp Tryz.func185 rfl h8 ?_ hro
 simp only [Tryz.ntmps185,List.size_toArray,List.length_cons,List.length_nil,Nat.reduceAdd,Nat.reduceSub,Array.replicate_succ,Array.replicate_zero,List.push_toArray,List.append_toArray,List.nil_append,List.cons_append]
 have hw0 : IntKind.i64.wrap ((len : Int) - 1) = (len : Int) - 1 := by rw [IntKind.wrap_i64]; omega
 gi_wp2
 gi_loopw [3] (fun i wr => ∃ k : Nat,k ≤ len ∧ i = .int .i64 ((len : Int) - 1 - k) ∧ J (upto (fun j => (len - 1 - j,zs (len - 1 - j))) k) wr ∧ Below n₀ W wr ∧ wr.heap[Bs]? = W.heap[Bs]?)
  (fun i _ => (intOf i + 1).toNat)
 case atStart => exact ⟨0,Nat.zero_le _,by simp,h0,Below.refl _ _,rfl⟩
 case round =>
  obtain ⟨k,hk,rfl,hJs,hnx,hnb⟩ := hrel
  have hBs' : wr.cell? ⟨Bs,0,none⟩ = some (.slice (some ⟨b,off,none⟩) len cap) := by rw [← hBs]; simp only [World.cell?,hnb]
  by_cases hlt : k < len
  ·obtain ⟨q,hq⟩ : ∃ q : Nat,len - 1 - k = q := ⟨_,rfl⟩
   have hqi : (len : Int) - 1 - (k : Int) = (q : Int) := by omega
   have hql : q < len := by omega
   obtain ⟨fn,tmps,assign,body,hy,hR⟩ := hY _ (q,zs q) wr hJs (by rw [upto_length]; exact hlt)
   dsimp only at hy
   have hcx' : wr.cell? ⟨b,off + q,none⟩ = some (.int .u8 (ofG (zs q))) := (hnx.cell (p := ⟨b,off + q,none⟩) hb).trans (hc q hql)
   have hq0 : (0 : Int) ≤ (q : Int) := by omega
   have hqw : IntKind.i64.wrap ((q : Int) - 1) = (q : Int) - 1 := by rw [IntKind.wrap_i64]; omega
   rw [hqi]
   gi_wp2
   refine hR.mono ?_
   rintro e W3 (⟨rfl,hJ3,hk3⟩ | ⟨rfl,hJx3⟩)
   ·gi_wp2
    go_roundw
    case rel => exact ⟨k + 1,by omega,by congr 1; omega,by rw [upto_succ,hq]; exact hJ3,hnx.trans hk3.1,hk3.2.trans hnb⟩
    case measure => simp [intOf] <;> omega
   ·gi_wp2
    refine bodyPost_ret (results_none rfl _ _ _) rfl ?_
    exact ⟨⟨_,rfl⟩,.inr ⟨_,⟨k + 1,by omega,by rw [upto_succ,hq]⟩,hJx3⟩⟩
  ·obtain rfl : k = len := by omega
   have hneg : (k : Int) - 1 - (k : Int) = -1 := by omega
   rw [hneg]
   gi_wp2
   go_end0
   exact ⟨⟨_,rfl⟩,.inl ⟨_,rfl,hJs⟩⟩
set_option maxRecDepth 100000 in
set_option maxHeartbeats 1000000 in
theorem back1_nil_in (F : Fence) (n : Nat) (h8 : F.fn 185) (hro : F.round = none) (l Bs cap : Nat) (a : Option Addr) (J : List (Nat × F8) → World → Prop) (W : World) (hBs : W.cell? ⟨Bs,0,none⟩ = some (.slice a 0 cap)) (h0 : J [] W) :
  CallsIn F n Tryz.prog 185 #[.func (.yield l) #[] #[],.pointer (some ⟨Bs,0,none⟩)] W fun e W' => (∃ v,e = .returned v) ∧ J [] W' := by
 refine callsIn_of_wp Tryz.func185 rfl h8 ?_ hro
 simp only [Tryz.ntmps185,List.size_toArray,List.length_cons,List.length_nil,Nat.reduceAdd,Nat.reduceSub,Array.replicate_succ,Array.replicate_zero,List.push_toArray,List.append_toArray,List.nil_append,List.cons_append]
 gi_wp2
 gi_loopw [3] (fun i wr => i = .int .i64 (-1) ∧ J [] wr) (fun _ _ => 0)
 case atStart => exact ⟨rfl,h0⟩
 case round =>
  obtain ⟨rfl,hJs⟩ := hrel
  gi_wp2
  go_end0
  exact ⟨⟨_,rfl⟩,hJs⟩
set_option maxHeartbeats 1000000 in
theorem back_in (F : Fence) (n : Nat) (h6 : F.fn 177) (hro : F.round = none) (a : Option Addr) (len cap : Nat) (w : World) :
  CallsIn F n Tryz.prog 177 #[.slice a len cap] w fun e w' => e = .returned (.func (.func 185) #[] #[.pointer (some ⟨w.heap.size,0,none⟩)]) ∧ w' = w.alloc (.cells #[.slice a len cap] 43) := by
 refine callsIn_of_wp Tryz.func177 rfl h6 ?_ hro
 simp only [Tryz.ntmps177,List.size_toArray,List.length_cons,List.length_nil,Nat.reduceAdd,Nat.reduceSub,Array.replicate_succ,Array.replicate_zero,List.push_toArray,List.append_toArray,List.nil_append,List.cons_append]
 gi_wp2
 go_ret
 exact ⟨rfl,rfl⟩
def BytesAt (n₀ : Nat) (W : World) (a : Option Addr) (len : Nat) (zs : Nat → F8) : Prop := len = 0 ∨ ∃ b off,a = some ⟨b,off,none⟩ ∧ b < n₀ ∧ ∀ j,j < len → W.cell? ⟨b,off + j,none⟩ = some (.int .u8 (ofG (zs j)))
theorem back_stops (F : Fence) (n : Nat) (h8 : F.fn 185) (hro : F.round = none) (hn : 1 ≤ n) (Bs n₀ : Nat) (a : Option Addr) (len cap : Nat) (zs : Nat → F8) (hreach : len ≤ 140737488355328) (w : World) (hBs : Bs < w.heap.size) (hn₀ : n₀ ≤ w.heap.size)
  (hc : w.cell? ⟨Bs,0,none⟩ = some (.slice a len cap)) (hI : BytesAt n₀ w a len zs) :
  SeqStopsK F n Tryz.prog 185 #[.pointer (some ⟨Bs,0,none⟩)] (fun x : Nat × F8 => #[Value.int .i64 (x.1 : Int),Value.int .u8 (ofG x.2)]) (fun A B => Below n₀ A B ∧ B.heap[Bs]? = A.heap[Bs]?) (fun ys => ys = upto (fun j => (len - 1 - j,zs (len - 1 - j))) len)
   (fun pre => ∃ k,k ≤ len ∧ pre = upto (fun j => (len - 1 - j,zs (len - 1 - j))) k) len w := fun l J Jx W hW _ _ hY h0 => by
 have hc' := (hW.cell (p := ⟨Bs,0,none⟩) hBs).trans hc
 rcases hI with rfl | ⟨b,off,rfl,hb,hcs⟩
 ·exact (back1_nil_in F n h8 hro l Bs cap a J W hc' h0).mono fun e W' ⟨he,hj⟩ => ⟨he,.inl ⟨_,rfl,hj⟩⟩
 ·exact back1_in F n h8 hro hn l Bs n₀ b off len cap zs hreach hb J Jx hY W hc' (fun j hj => (hW.cell (p := ⟨b,off + j,none⟩) (Nat.lt_of_lt_of_le hb hn₀)).trans (hcs j hj)) h0
end Go.Proofs.YtkeiedikiiccpaaGreatDoor.Am
namespace Go.Proofs.YtkeiedikiiccpaaGreatDoor.Am
open Go Go.RowKit Go.Shelf
attribute [local go_sem] Oper.semAt_some
def hor (x : F8) (l : List (Nat × F8)) : F8 := l.foldl (fun v c => gmul v x ^^^ c.2) 0
theorem hor_snoc (x : F8) (l : List (Nat × F8)) (c : Nat × F8) : hor x (l ++ [c]) = gmul (hor x l) x ^^^ c.2 := by simp [hor]
theorem bits_xor (u v : F8) : bits .xor .u8 (ofG u) (ofG v) = ofG (u ^^^ v) := ofG_xor u v
set_option maxRecDepth 100000 in
set_option maxHeartbeats 2000000 in
theorem eval_in (a : Option Addr) (len cap : Nat) (zs : Nat → F8) (x : F8) (w : World) (hreach : len ≤ 140737488355328) (hI : BytesAt w.heap.size w a len zs)
  (hmul : ∀ (u v : F8) (W : World),Below w.heap.size w W → Calls Tryz.prog 146 #[.int .u8 (ofG u),.int .u8 (ofG v)] W fun e W' => e = .returned (.int .u8 (ofG (gmul u v))) ∧ Below W.heap.size W W') :
  CallsIn Fence.wide 3 Tryz.prog 152 #[.slice a len cap,.int .u8 (ofG x)] w fun e W' => e = .returned (.int .u8 (ofG (hor x (upto (fun j => (len - 1 - j,zs (len - 1 - j))) len)))) ∧ Below w.heap.size w W' := by
 have hro : Fence.wide.round = none := rfl
 have h1 : 1 ≤ 3 := by decide
 refine callsIn_of_wp_marks Tryz.func152 rfl trivial ?_ hro
 simp only [Tryz.ntmps152,List.size_toArray,List.length_cons,List.length_nil,Nat.reduceAdd,Nat.reduceSub,Array.replicate_succ,Array.replicate_zero,List.push_toArray,List.append_toArray,List.nil_append,List.cons_append]
 gi_wp2_with (refine ⟨trivial,?_⟩; gi_at_call 177; refine (back_in Fence.wide (3 - 1) trivial hro _ _ _ _).mono ?_; rintro e w' ⟨rfl,rfl⟩)
 have bX := Boxed.new w 5 (.int .u8 (ofG x))
 have bV := Boxed.new (w.alloc (.cells #[.int .u8 (ofG x)] 5)) 5 (.int .u8 0)
 have bN := Boxed.new ((w.alloc (.cells #[.int .u8 (ofG x)] 5)).alloc (.cells #[.int .u8 0] 5)) 43 (.slice a len cap)
 simp only [World.size_alloc] at bV bN
 have hB0 : Below w.heap.size w (((w.alloc (.cells #[.int .u8 (ofG x)] 5)).alloc (.cells #[.int .u8 0] 5)).alloc (.cells #[.slice a len cap] 43)) := (((Below.refl _ w).alloc (Nat.le_refl _) _).alloc (by simp) _).alloc (by simp; omega) _
 have hI' : BytesAt w.heap.size (((w.alloc (.cells #[.int .u8 (ofG x)] 5)).alloc (.cells #[.int .u8 0] 5)).alloc (.cells #[.slice a len cap] 43)) a len zs := by
  rcases hI with h | ⟨b,off,h1,h2,h3⟩
  ·exact .inl h
  ·exact .inr ⟨b,off,h1,h2,fun j hj => (hB0.cell (p := ⟨b,off + j,none⟩) h2).trans (h3 j hj)⟩
 refine wpIn_rangeFunc_ownG hro h1 (gf := 185) (lb := #[.pointer (some ⟨w.heap.size + 1 + 1,0,none⟩)]) rfl trivial (enters_of Tryz.func185 (by kernel_rfl) rfl)
  (back_stops Fence.wide (3 - 1) trivial hro (by omega) (w.heap.size + 1 + 1) w.heap.size a len cap zs hreach _ (by simp) (by simp; omega) bN.cell hI') (fun h k => ⟨h.1.trans k.1,k.2.trans h.2⟩)
  (fun W l o o' hl ho hc hw => ⟨belowK_b (w := ((w.alloc (.cells #[.int .u8 (ofG x)] 5)).alloc (.cells #[.int .u8 0] 5)).alloc (.cells #[.slice a len cap] 43)) (by simp; omega) W l o o' hl ho hc hw,World.putObj_heap_other (by simp at hl; omega)⟩) (Below.refl _ _) (fun _ => rfl)
  (fun pre W => (W.cell? ⟨w.heap.size,0,none⟩ = some (.int .u8 (ofG x)) ∧ W.cell? ⟨w.heap.size + 1,0,none⟩ = some (.int .u8 (ofG (hor x pre))) ∧ W.frozen? ⟨w.heap.size + 1,0,none⟩ = false) ∧ Below w.heap.size w W ∧ w.heap.size + 3 ≤ W.heap.size)
  (fun _ _ _ => False)
  (OwnFrom.and (Own.from (fun s A B row hs hg hr => ⟨cell_kept hs.1 hg hr,cell_kept hs.2.1 hg hr,(frozen_kept hs.2.1 hg hr).trans hs.2.2⟩) _) (OwnFrom.and (ownFrom_below (Nat.le_refl _) (by simp; omega)) (Own.from (fun s A B row hs hg hr => Nat.le_trans hs hg.size) _)))
  (fun _ _ _ _ _ hs _ _ => hs)
  ⟨⟨((bX.alloc _).alloc _).cell,(bV.alloc _).cell,(bV.alloc _).frozen⟩,hB0,by simp⟩
  (fun y => { tmps := #[.slice a len cap,.int .u8 (ofG x),undef,.pointer (some ⟨w.heap.size,0,none⟩),.int .u8 0,.pointer (some ⟨w.heap.size + 1,0,none⟩),undef,.int .u8 (ofG y.2),.slice a len cap,.func (.func 185) #[] #[.pointer (some ⟨w.heap.size + 1 + 1,0,none⟩)],.int .i64 (y.1 : Int),.int .u8 (ofG y.2),undef,undef,undef,undef,undef,undef],defers := [] }) ?assign ?body ?done ?stop
 case assign =>
  intro l x W K hK
  gi_wp2
  exact hK
 case body =>
  rintro l pre y W ⟨⟨hcx,hcv,hfv⟩,hB,hsz⟩ _
  have hm := hmul (hor x pre) x W hB
  gi_wp2_with (refine ⟨trivial,?_⟩; gi_at_call 146; refine (CallsIn.inRound l (callsIn_wide.2 hm)).mono ?_; rintro e W1 ⟨rfl,hB1⟩; have hcv1 := (hB1.cell (p := ⟨w.heap.size + 1,0,none⟩) (by simp; omega)).trans hcv; have hcx1 := (hB1.cell (p := ⟨w.heap.size,0,none⟩) (by simp; omega)).trans hcx; have hfv1 := (World.frozen?_of_block (a := ⟨w.heap.size + 1,0,none⟩) (hB1.block (w.heap.size + 1) (by omega))).trans hfv)
  have hBW : Below w.heap.size W (W1.setCell ⟨w.heap.size + 1,0,none⟩ (.int .u8 (ofG (hor x (pre ++ [y]))))) := (hB1.mono (by omega)).setCell (p := ⟨w.heap.size + 1,0,none⟩) (by simp) _
  rw [bits_xor,← hor_snoc]
  refine ⟨((KeepsOthers.mk hB1.size fun k o hk _ => (hB1.block k (Array.getElem?_eq_some_iff.1 hk).1).trans hk).trans (KeepsOthers.setCell _ _ _)).from _,⟨hBW,?_⟩,⟨?_,World.cell?_setCell_same' _ _ _ (by rw [hcv1]; rfl),by rw [World.frozen?_setCell]; exact hfv1⟩,hB.trans hBW,Nat.le_trans hsz hBW.size⟩
  ·rw [Below.heap_setCell _ _ _ _ (by simp)]
   exact hB1.block _ (by omega)
  ·rw [World.cell?_setCell_other _ _ _ _ (by simp)]
   exact hcx1
 case done =>
  rintro D ys W hD rfl ⟨⟨_,hc,_⟩,hB,_⟩ hK
  gi_wp2
  refine ⟨by simp,.inl ⟨_,_,rfl,run_takeDeferred hK,?_⟩⟩
  exact ⟨_,results_tmp rfl _ _ _,rfl,hB.trans (belowK_b (w := w) (Nat.le_refl _) W D _ _ (by simp at hD; omega) hK rfl rfl)⟩
 case stop =>
  rintro D c pre W _ _ h _
  exact h.elim
end Go.Proofs.YtkeiedikiiccpaaGreatDoor.Am
