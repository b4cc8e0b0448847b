/- The plain law: the program and the reference answer alike. -/
import Derived.Test.YtkeiedikiiccpaaGreatDoorL8
set_option linter.all false
namespace Go.Proofs.YtkeiedikiiccpaaGreatDoor.Am
open Go
theorem peta {A B : Type} (p : A × B) : (p.1,p.2) = p := rfl
abbrev mk (s : DT4) (c : DT5) (ws : List DT0) (fs : List DT1) : DT2 := (s.1,s.2.1,s.2.2.1,s.2.2.2.1,s.2.2.2.2.1,s.2.2.2.2.2,c.1,c.2.1,c.2.2.1,c.2.2.2,ws,fs)
theorem mk_eta (m : DT2) : m = mk (m.1,m.2.1,m.2.2.1,m.2.2.2.1,m.2.2.2.2.1,m.2.2.2.2.2.1) (m.2.2.2.2.2.2.1,m.2.2.2.2.2.2.2.1,m.2.2.2.2.2.2.2.2.1,m.2.2.2.2.2.2.2.2.2.1) m.2.2.2.2.2.2.2.2.2.2.1 m.2.2.2.2.2.2.2.2.2.2.2 := rfl
def chips (c : DT5) : Int := w64 (c.2.1 + c.2.2.1)
def zer (l : List Int) : Bool := l.all (· == 0)
def blank (w : DT0) : Bool := !w.2.2 && zer w.2.1
def eqf (a b : DT1) : Bool := eqI a.1 b.1 (eqI a.2.1 b.2.1 (eqI a.2.2.1 b.2.2.1 (eqI a.2.2.2.1 b.2.2.2.1 (eqI a.2.2.2.2.1 b.2.2.2.2.1 (eqI a.2.2.2.2.2.1 b.2.2.2.2.2.1 (eqI a.2.2.2.2.2.2.1 b.2.2.2.2.2.2.1 (eqI a.2.2.2.2.2.2.2.1 b.2.2.2.2.2.2.2.1 (eqI a.2.2.2.2.2.2.2.2.1 b.2.2.2.2.2.2.2.2.1 (eqI a.2.2.2.2.2.2.2.2.2.1 b.2.2.2.2.2.2.2.2.2.1 (eqB a.2.2.2.2.2.2.2.2.2.2 b.2.2.2.2.2.2.2.2.2.2 true))))))))))
def vws (size n : Int) : List DT0 → Int → Bool
 | [],_ => true
 | w :: ws,last => bif decide (w.1 ≤ last) then false else bif decide (w.1 ≥ size) then false else bif ((List.length w.2.1 : Nat) : Int) != n then false else bif blank w then false else vws size n ws w.1
def vfs (s : DT4) (n : Int) : List DT1 → List DT1 → Bool
 | _,[] => true
 | pre,f :: r => bif !f.2.2.2.2.2.2.2.2.2.2 then false else bif !vfault s n f then false else bif pre.any (fun x => eqf f x) then false else vfs s n (pre ++ [f]) r
def vmem (s : DT4) (c : DT5) (ws : List DT0) (fs : List DT1) : Bool := bif !vshape s then false else bif !vcode c then false else bif decide (((fs.length : Nat) : Int) > 64) then false else
 (vws (szOf s) (chips c) ws (-1) && vfs s (chips c) [] fs)
section
variable {α : Type} {k : Nat}
theorem f66_eq (c : DT5) (K : Int → Option α) : f66 k c K = K (chips c) := rfl
theorem f16_eq (c : DT5) (K : Int → Option α) : f16 k c K = K (chips c) := rfl
theorem chips_le {c : DT5} (h : vcode c = true) : 0 ≤ chips c ∧ chips c ≤ 40 := by
 by_cases h2 : c.1 = 2
 ·obtain ⟨d,ch,f,rfl,h3,h4,h5,h6,h7⟩ := vcode_sym h h2
  unfold chips
  simp only []
  rw [w64_id (by omega) (by omega)]
  omega
 ·rw [vcode_bit h h2]
  exact ⟨by decide,by decide⟩
theorem zer_walk (hk : 10000 ≤ k) (l : List Int) (hl : l.length < 1000) (K : Bool → Option α) : f91_92 k l K = K (!zer l) := by
 simp only [f91_92,s91_92,SumT.leaf,SumT.pre,SumT.seq,SumT.cond,SumT.block,SumT.blockP,SumT.loop,zB]
 simp only [f112_92,s112_92,SumT.leaf,SumT.pre,SumT.seq,SumT.cond,SumT.block,SumT.blockP,SumT.loop,zB]
 refine lp_rule (fun m x => ∃ i : Nat,i + m = l.length ∧ x = (l,(l.length : Int),(i : Int)) ∧ zer (l.drop i) = zer l) ?_ (m := l.length) ⟨0,by omega,rfl,rfl⟩ (by omega)
 rintro m x n ⟨i,hi,rfl,hc⟩ hn
 cases m with
 | zero =>
  simp only []
  rw [← hc,dge (by omega),cond_false,List.drop_eq_nil_of_le (by omega)]
  rfl
 | succ m =>
  have hi' : i < l.length := by omega
  have hd := drop_getD 0 hi'
  simp only []
  rw [dlt (by omega),cond_true,gd (by omega),Int.toNat_natCast]
  simp only [f92,s92,SumT.leaf,SumT.pre,SumT.seq,SumT.cond,SumT.block,SumT.blockP,SumT.loop,zB]
  by_cases he : l.getD i 0 = 0
  ·rw [he,show ((0 : Int) != 0) = false from rfl,cond_false,w64_id (by omega) (by omega)]
   refine hn m _ (by omega) ⟨i + 1,by omega,rfl,?_⟩
   rw [← hc,hd,he]
   rfl
  ·rw [bne_iff_ne.2 he,cond_true,← hc,hd,decide_eq_true (by omega)]
   unfold zer
   rw [List.all_cons,show (l.getD i 0 == 0) = false from beq_eq_false_iff_ne.2 he]
   rfl
theorem f67_eq (hk : 10000 ≤ k) (w : DT0) (hl : List.length w.2.1 < 1000) (K : Bool → Option α) : f67 k w K = K (blank w) := by
 simp only [f67,s67,SumT.leaf,SumT.pre,SumT.seq,SumT.cond,SumT.block,SumT.blockP,SumT.loop,zB]
 unfold blank
 rw [zer_walk hk _ hl,Bool.not_not]
 cases w.2.2 <;> rfl
theorem f79_eq (hk : 10000 ≤ k) (l : List Int) (hl : l.length < 1000) (K : Bool → Option α) : f79 k l K = K (zer l) := by
 simp only [f79,s79,SumT.leaf,SumT.pre,SumT.seq,SumT.cond,SumT.block,SumT.blockP,SumT.loop,zB]
 refine lp_rule (fun m x => ∃ i : Nat,i + m = l.length ∧ x = (l,(i : Int)) ∧ zer (l.drop i) = zer l) ?_ (m := l.length) ⟨0,by omega,rfl,rfl⟩ (by omega)
 rintro m x n ⟨i,hi,rfl,hc⟩ hn
 cases m with
 | zero =>
  simp only []
  rw [← hc,dge (by omega),cond_false,List.drop_eq_nil_of_le (by omega)]
  rfl
 | succ m =>
  have hi' : i < l.length := by omega
  have hd := drop_getD 0 hi'
  simp only []
  rw [dlt (by omega),cond_true,gd (by omega),Int.toNat_natCast]
  by_cases he : l.getD i 0 = 0
  ·rw [he,show ((0 : Int) != 0) = false from rfl,cond_false,w64_id (by omega) (by omega)]
   refine hn m _ (by omega) ⟨i + 1,by omega,rfl,?_⟩
   rw [← hc,hd,he]
   rfl
  ·rw [bne_iff_ne.2 he,cond_true,← hc,hd]
   unfold zer
   rw [List.all_cons,show (l.getD i 0 == 0) = false from beq_eq_false_iff_ne.2 he]
   rfl
theorem f69_eq (hk : 10000 ≤ k) (l : List DT1) (f : DT1) (hl : l.length < 1000) (K : Bool → Option α) : f69 k l f K = K (l.any fun x => eqf f x) := by
 simp only [f69,s69,SumT.leaf,SumT.pre,SumT.seq,SumT.cond,SumT.block,SumT.blockP,SumT.loop,zB]
 simp only [f96,s96,SumT.leaf,SumT.pre,SumT.seq,SumT.cond,SumT.block,SumT.blockP,SumT.loop,zB]
 refine lp_rule (fun m x => ∃ i : Nat,i + m = l.length ∧ x = (l,f,(l.length : Int),(i : Int)) ∧ ((l.drop i).any fun x => eqf f x) = l.any fun x => eqf f x) ?_ (m := l.length) ⟨0,by omega,rfl,rfl⟩ (by omega)
 rintro m x n ⟨i,hi,rfl,hc⟩ hn
 cases m with
 | zero =>
  simp only []
  rw [← hc,dge (by omega),cond_false,List.drop_eq_nil_of_le (by omega)]
  rfl
 | succ m =>
  have hi' : i < l.length := by omega
  have hd := drop_getD zT1 hi'
  rw [hd,List.any_cons] at hc
  simp only []
  rw [dlt (by omega),cond_true,gd (by omega),Int.toNat_natCast]
  refine Eq.trans (b := bif eqf f (l.getD i zT1) then _ else _) rfl ?_
  cases he : eqf f (l.getD i zT1)
  ·rw [he,Bool.false_or] at hc
   rw [cond_false,w64_id (by omega) (by omega)]
   exact hn m _ (by omega) ⟨i + 1,by omega,rfl,hc⟩
  ·rw [he,Bool.true_or] at hc
   rw [cond_true,← hc,decide_eq_true (by omega)]
structure MB (ws : List DT0) (fs : List DT1) : Prop where
 hw : ws.length ≤ 5000
 hf : fs.length ≤ 500
 hs : ∀ w ∈ ws,List.length w.2.1 ≤ room
theorem f39_eq (hk : 10000 ≤ k) (s : DT4) (c : DT5) (ws : List DT0) (fs : List DT1) (hm : MB ws fs) (K : DT2 → Option α) : f39 k (mk s c ws fs) K = K (mk s c ws fs) := by
 simp only [f39,s39,SumT.leaf,SumT.pre,SumT.seq,SumT.cond,SumT.block,SumT.blockP,SumT.loop,zB,mk,peta]
 have h1 := hm.hw
 have h2 := hm.hf
 simp only [cloneF]
 rw [gd (by unfold room; omega),gd (by unfold room; omega)]
 refine lp_run2 (fun i (_ : Unit) => (mk s c ws fs,zT2,((ws.length : Nat) : Int),(i : Int))) ws.length (fun _ a => a) (fun _ _ => True) (by omega) (a := ()) trivial ?_ ?_
 ·intro i _ n hi _
  refine ⟨?_,trivial⟩
  have hw := hm.hs _ (getD_mem zT0 hi)
  simp only []
  rw [dlt (by omega),cond_true,gd (by omega),Int.toNat_natCast,gd (by omega),gd (by omega),w64_id (by omega) (by omega)]
  rw [set_same (d := zT0) (x := ((ws.getD i zT0).1,(ws.getD i zT0).2.1,(ws.getD i zT0).2.2)) rfl hi]
  rfl
 ·intro n _
  simp only []
  rw [dge (by omega),cond_false]
theorem f48_eq (hk : 10000 ≤ k) (s : DT4) (c : DT5) (ws : List DT0) (fs : List DT1) (hm : MB ws fs) (K : DT2 → Option α) : f48 k (mk s c ws fs) K = K (mk s c ws fs) := by
 simp only [f48,s48,SumT.leaf,SumT.pre,SumT.seq,SumT.cond,SumT.block,SumT.blockP,SumT.loop,zB,mk,peta]
 have h1 := hm.hw
 have h2 := hm.hf
 refine lp_run2 (fun i (ws' : List DT0) => (mk s c ws fs,zT2,mk s c ws' fs,(i : Int))) ws.length (fun i ws' => ws' ++ [ws.getD i zT0]) (fun i ws' => ws'.length = i) (by omega) (a := []) rfl ?_ ?_
 ·intro i ws' n hi hI
  refine ⟨?_,by rw [List.length_append,hI]; rfl⟩
  have hw := hm.hs _ (getD_mem zT0 hi)
  simp only []
  rw [dlt (by omega),cond_true,gd (by omega),Int.toNat_natCast,gd (by omega),hI,gd (by simp; unfold room; omega),w64_id (by omega) (by omega)]
  rfl
 ·intro n _
  have : (List.range ws.length).map (fun i => ws.getD i zT0) = ws := ext_getD zT0 (by simp) fun i hi => by
   rw [map_range_getD _ _ _ _ (by simpa using hi)]
  rw [run_snoc,List.nil_append,this]
  simp only []
  rw [dge (by omega),cond_false,gd (by unfold room; omega)]
theorem f40_eq (hk : 10000 ≤ k) (s : DT4) (c : DT5) (ws : List DT0) (fs : List DT1) (hm : MB ws fs) (K : Bool → Option α) : f40 k (mk s c ws fs) K = K (vmem s c ws fs) := by
 simp only [f40,s40,SumT.leaf,SumT.pre,SumT.seq,SumT.cond,SumT.block,SumT.blockP,SumT.loop,zB,mk,peta]
 have hb1 := hm.hw
 rw [f64_eq hk,f65_eq,f41_eq hk,f66_eq]
 unfold vmem
 cases hs : vshape s
 ·rfl
 rw [Bool.not_true,cond_false,cond_false]
 cases hc : vcode c
 ·rfl
 rw [Bool.not_true,cond_false,cond_false]
 by_cases hf : ((fs.length : Nat) : Int) > 64
 ·rw [decide_eq_true hf]
  rfl
 rw [decide_eq_false hf,cond_false,cond_false]
 have hch := chips_le hc
 generalize hsz : szOf s = size
 generalize hcn : chips c = n at hch
 refine lp_rule (fun q x => ∃ (i : Nat) (last : Int),i + q = ws.length ∧ x = (mk s c ws fs,size,n,last,ws,((ws.length : Nat) : Int),(i : Int)) ∧ vws size n (ws.drop i) last = vws size n ws (-1)) ?_ (m := ws.length) ⟨0,-1,by omega,rfl,rfl⟩ (by omega)
 rintro q x n1 ⟨i,last,hi,rfl,hv⟩ hn1
 rw [← hv]
 cases q with
 | zero =>
  simp only []
  rw [dge (by omega),cond_false,List.drop_eq_nil_of_le (by omega),vws,Bool.true_and]
  refine lp_rule (fun q x => ∃ (j : Nat),j + q = fs.length ∧ x = (mk s c ws fs,n,fs,((fs.length : Nat) : Int),(j : Int)) ∧ vfs s n (fs.take j) (fs.drop j) = vfs s n [] fs) ?_ (m := fs.length) ⟨0,by omega,rfl,rfl⟩ (by omega)
  rintro q x n2 ⟨j,hj,rfl,hv2⟩ hn2
  rw [← hv2]
  cases q with
  | zero =>
   simp only []
   rw [dge (by omega),cond_false,List.drop_eq_nil_of_le (by omega)]
   rfl
  | succ q =>
   have hj' : j < fs.length := by omega
   have htk : fs.take (j + 1) = fs.take j ++ [fs.getD j zT1] := by
    rw [List.take_add_one,List.getElem?_eq_getElem hj',List.getD_eq_getElem?_getD,List.getElem?_eq_getElem hj']
    rfl
   rw [drop_getD zT1 hj',vfs,← htk] at hv2 ⊢
   simp only []
   rw [dlt (by omega),cond_true,gd (by omega),Int.toNat_natCast]
   generalize hfj : fs.getD j zT1 = f at hv2 ⊢
   cases h1 : f.2.2.2.2.2.2.2.2.2.2
   ·rfl
   rw [h1] at hv2
   rw [Bool.not_true,cond_false] at hv2 ⊢
   rw [cond_false,f68_eq hk s]
   cases h2 : vfault s n f
   ·rfl
   rw [h2] at hv2
   rw [Bool.not_true,cond_false] at hv2 ⊢
   rw [cond_false,gd (by omega),f69_eq hk _ _ (by rw [List.length_take]; omega)]
   cases h3 : (fs.take j).any fun x => eqf f x
   ·rw [h3,cond_false] at hv2
    rw [cond_false,cond_false,w64_id (by omega) (by omega),hv2]
    exact hn2 q _ (by omega) ⟨j + 1,by omega,rfl,hv2⟩
   ·rfl
 | succ q =>
  have hi' : i < ws.length := by omega
  rw [drop_getD zT0 hi',vws] at hv ⊢
  simp only []
  rw [dlt (by omega),cond_true,gd (by omega),Int.toNat_natCast]
  generalize hwi : ws.getD i zT0 = w at hv ⊢
  cases h1 : decide (w.1 ≤ last)
  ·rw [h1,cond_false] at hv
   rw [cond_false,cond_false]
   cases h2 : decide (w.1 ≥ size)
   ·rw [h2,cond_false] at hv
    rw [cond_false,cond_false]
    cases h3 : ((List.length w.2.1 : Nat) : Int) != n
    ·rw [h3,cond_false] at hv
     have h3' : ((List.length w.2.1 : Nat) : Int) = n := by simpa using h3
     rw [cond_false,cond_false,f67_eq hk _ (by omega)]
     cases h4 : blank w
     ·rw [h4,cond_false] at hv
      rw [cond_false,cond_false,w64_id (by omega) (by omega),hv]
      exact hn1 q _ (by omega) ⟨i + 1,w.1,by omega,rfl,hv⟩
     ·rfl
    ·rfl
   ·rfl
  ·rfl
theorem f47_eq (hk : 10000 ≤ k) (s : DT4) (c : DT5) (ws : List DT0) (fs : List DT1) (hm : MB ws fs) (K : Bool → Option α) : f47 k (mk s c ws fs) K = K (vmem s c ws fs) := by
 simp only [f47,s47,SumT.leaf,SumT.pre,SumT.seq,SumT.cond,SumT.block,SumT.blockP,SumT.loop,zB,mk,peta]
 have hb1 := hm.hw
 rw [f37_eq hk,f78_eq,f16_eq,f13_eq hk]
 unfold vmem
 cases hs : vshape s
 ·rfl
 rw [Bool.not_true,cond_false,cond_false]
 cases hc : vcode c
 ·rfl
 rw [Bool.not_true,cond_false,cond_false]
 by_cases hf : ((fs.length : Nat) : Int) > 64
 ·rw [decide_eq_true hf]
  rfl
 rw [decide_eq_false hf,cond_false,cond_false]
 have hch := chips_le hc
 generalize hsz : szOf s = size
 generalize hcn : chips c = n at hch
 refine lp_rule (fun q x => ∃ (i : Nat) (last : Int),i + q = ws.length ∧ x = (mk s c ws fs,n,size,(i : Int)) ∧ -1 ≤ last ∧ (i = 0 → last = -1) ∧ (0 < i → last = (ws.getD (i - 1) zT0).1) ∧ vws size n (ws.drop i) last = vws size n ws (-1)) ?_ (m := ws.length) ⟨0,-1,by omega,rfl,Int.le_refl _,fun _ => rfl,fun h => by omega,rfl⟩ (by omega)
 rintro q x n1 ⟨i,last,hi,rfl,hl1,hl2,hl3,hv⟩ hn1
 rw [← hv]
 cases q with
 | zero =>
  simp only []
  rw [dge (by omega),cond_false,List.drop_eq_nil_of_le (by omega),vws,Bool.true_and]
  refine lp_rule (fun q x => ∃ (j : Nat),j + q = fs.length ∧ x = (mk s c ws fs,n,(j : Int)) ∧ vfs s n (fs.take j) (fs.drop j) = vfs s n [] fs) ?_ (m := fs.length) ⟨0,by omega,rfl,rfl⟩ (by omega)
  rintro q x n2 ⟨j,hj,rfl,hv2⟩ hn2
  rw [← hv2]
  cases q with
  | zero =>
   simp only []
   rw [dge (by omega),cond_false,List.drop_eq_nil_of_le (by omega)]
   rfl
  | succ q =>
   have hj' : j < fs.length := by omega
   have htk : fs.take (j + 1) = fs.take j ++ [fs.getD j zT1] := by
    rw [List.take_add_one,List.getElem?_eq_getElem hj',List.getD_eq_getElem?_getD,List.getElem?_eq_getElem hj']
    rfl
   rw [drop_getD zT1 hj',vfs,← htk] at hv2 ⊢
   simp only []
   rw [dlt (by omega),cond_true,gd (by omega),Int.toNat_natCast]
   generalize hfj : fs.getD j zT1 = f at hv2 ⊢
   cases h1 : f.2.2.2.2.2.2.2.2.2.2
   ·rfl
   rw [h1] at hv2
   rw [Bool.not_true,cond_false] at hv2 ⊢
   rw [cond_false,gd (by omega),f49_eq hk s]
   cases h2 : vfault s n f
   ·rfl
   rw [h2] at hv2
   rw [Bool.not_true,cond_false] at hv2 ⊢
   rw [cond_false]
   refine lp_rule (fun q x => ∃ (t : Nat),t + q = j ∧ x = (mk s c ws fs,n,(j : Int),(t : Int)) ∧ (((fs.take j).drop t).any fun x => eqf f x) = (fs.take j).any fun x => eqf f x) ?_ (m := j) ⟨0,by omega,rfl,rfl⟩ (by omega)
   rintro q2 x n3 ⟨t,ht,rfl,hany⟩ hn3
   have hlt : (fs.take j).length = j := by rw [List.length_take]; omega
   cases q2 with
   | zero =>
    rw [List.drop_eq_nil_of_le (by omega),List.any_nil] at hany
    rw [← hany,cond_false] at hv2 ⊢
    simp only []
    rw [dge (by omega),cond_false,w64_id (by omega) (by omega),hv2]
    exact hn2 q _ (by omega) ⟨j + 1,by omega,rfl,hv2⟩
   | succ q2 =>
    have htg : (fs.take j).getD t zT1 = fs.getD t zT1 := by rw [getD_take,if_pos (by omega)]
    rw [drop_getD zT1 (show t < (fs.take j).length by omega),List.any_cons,htg] at hany
    simp only []
    rw [dlt (by omega),cond_true,gd (by omega),gd (by omega),Int.toNat_natCast,Int.toNat_natCast,hfj]
    refine Eq.trans (b := bif eqf f (fs.getD t zT1) then _ else _) rfl ?_
    cases he : eqf f (fs.getD t zT1)
    ·rw [he,Bool.false_or] at hany
     rw [cond_false,w64_id (by omega) (by omega)]
     exact hn3 q2 _ (by omega) ⟨t + 1,by omega,rfl,hany⟩
    ·rw [he,Bool.true_or] at hany
     rw [← hany]
     rfl
 | succ q =>
  have hi' : i < ws.length := by omega
  rw [drop_getD zT0 hi',vws] at hv ⊢
  simp only []
  rw [dlt (by omega),cond_true,gd (by omega),Int.toNat_natCast]
  generalize hwi : ws.getD i zT0 = w at hv ⊢
  have hnext : decide (w.1 ≤ last) = false → decide (w.1 ≥ size) = false → (((List.length w.2.1 : Nat) : Int) != n) = false → blank w = false → n1 (mk s c ws fs,n,size,w64 ((i : Int) + 1)) =
    K ((bif decide (w.1 ≤ last) then false else bif decide (w.1 ≥ size) then false else bif ((List.length w.2.1 : Nat) : Int) != n then false else bif blank w then false else vws size n (ws.drop (i + 1)) w.1) && vfs s n [] fs) := fun h1 h2 h3 h4 => by
   rw [h1,h2,h3,h4,cond_false,cond_false,cond_false,cond_false] at hv ⊢
   rw [w64_id (by omega) (by omega),hv]
   have h1' := of_decide_eq_false h1
   exact hn1 q _ (by omega) ⟨i + 1,w.1,by omega,rfl,by omega,fun h => by omega,fun _ => by rw [Nat.add_sub_cancel,hwi],hv⟩
  have hK : ∀ (b : Bool) (X : Bool),b = true → (K ((bif b then false else X) && vfs s n [] fs)) = K false := fun b X h => by rw [h]; rfl
  by_cases h0 : w.1 < 0
  ·rw [decide_eq_true h0,hK _ _ (decide_eq_true (by omega))]
   rfl
  rw [decide_eq_false h0,cond_false]
  by_cases h1 : w.1 ≤ last
  case pos =>
   rw [hK _ _ (decide_eq_true h1)]
   have hi0 : 0 < i := by
    rcases Nat.eq_zero_or_pos i with h | h
    ·have := hl2 h
     omega
    ·exact h
   have hprev := hl3 hi0
   cases h2 : decide (w.1 ≥ size)
   ·rw [cond_false]
    cases h3 : ((List.length w.2.1 : Nat) : Int) != n
    ·have h3' : ((List.length w.2.1 : Nat) : Int) = n := by simpa using h3
     have e1 : w64 ((i : Int) - 1) = ((i - 1 : Nat) : Int) := by
      rw [w64_id (by omega) (by omega)]
      omega
     rw [cond_false,f79_eq hk _ (by omega),decide_eq_true (show (i : Int) > 0 by omega),cond_true,e1,gd (by omega),Int.toNat_natCast,← hprev,decide_eq_true h1]
     cases zer w.2.1
     ·rfl
     ·cases w.2.2 <;> rfl
    ·rfl
   ·rfl
  have h1f : decide (w.1 ≤ last) = false := decide_eq_false h1
  cases h2 : decide (w.1 ≥ size)
  case true => rw [h1f,cond_false]; rfl
  rw [cond_false]
  cases h3 : ((List.length w.2.1 : Nat) : Int) != n
  case true => rw [h1f,cond_false]; rfl
  have h3' : ((List.length w.2.1 : Nat) : Int) = n := by simpa using h3
  rw [cond_false,f79_eq hk _ (by omega)]
  have hlast : (bif decide ((i : Int) > 0) then (if 0 ≤ w64 ((i : Int) - 1) ∧ w64 ((i : Int) - 1) < (ws.length : Int) then (bif decide (w.1 ≤ (ws.getD (w64 ((i : Int) - 1)).toNat zT0).1) then K false else n1 (mk s c ws fs,n,size,w64 ((i : Int) + 1))) else none) else n1 (mk s c ws fs,n,size,w64 ((i : Int) + 1))) = n1 (mk s c ws fs,n,size,w64 ((i : Int) + 1)) := by
   by_cases hi0 : i = 0
   ·rw [decide_eq_false (by omega),cond_false]
   ·have e1 : w64 ((i : Int) - 1) = ((i - 1 : Nat) : Int) := by
     rw [w64_id (by omega) (by omega)]
     omega
    rw [decide_eq_true (by omega),cond_true,e1,gd (by omega),Int.toNat_natCast,← hl3 (by omega),h1f,cond_false]
  cases hz : zer w.2.1
  ·have hbl : blank w = false := by
    unfold blank
    rw [hz,Bool.and_false]
   have hh := hnext h1f h2 h3 hbl
   rw [h1f,h2,h3] at hh
   rw [h1f]
   exact hlast.trans hh
  ·cases hp : w.2.2
   ·have hbl : blank w = true := by
     unfold blank
     rw [hz,hp]
     rfl
    rw [h1f,hbl]
    rfl
   ·have hbl : blank w = false := by
     unfold blank
     rw [hz,hp]
     rfl
    have hh := hnext h1f h2 h3 hbl
    rw [h1f,h2,h3] at hh
    rw [h1f]
    exact hlast.trans hh
end
def Srt (ws : List DT0) : Prop := ws.Pairwise fun a b => a.1 < b.1
def lb (t : Int) : List DT0 → Nat
 | [] => 0
 | w :: r => if w.1 < t then lb t r + 1 else 0
theorem lb_le (t : Int) : ∀ ws : List DT0,lb t ws ≤ ws.length
 | [] => Nat.le_refl _
 | w :: r => by
  rw [lb]
  have := lb_le t r
  split
  ·simp
   omega
  ·simp
theorem lb_lt {t : Int} : ∀ {ws : List DT0} {i : Nat},i < lb t ws → (ws.getD i zT0).1 < t
 | [],i,h => absurd h (Nat.not_lt_zero _)
 | w :: r,i,h => by
  rw [lb] at h
  split at h
  ·cases i with
   | zero => assumption
   | succ i => exact lb_lt (ws := r) (by omega)
  ·omega
theorem lb_ge {t : Int} : ∀ {ws : List DT0} {i : Nat},Srt ws → lb t ws ≤ i → i < ws.length → t ≤ (ws.getD i zT0).1
 | [],i,_,_,h => absurd h (Nat.not_lt_zero _)
 | w :: r,i,hs,h,hi => by
  rw [lb] at h
  have hs' := List.pairwise_cons.1 hs
  simp only [List.length_cons] at hi
  split at h
  ·cases i with
   | zero => omega
   | succ i => exact lb_ge (ws := r) hs'.2 (by omega) (by omega)
  ·rename_i hw
   cases i with
   | zero => exact Int.not_lt.1 hw
   | succ i =>
    have := hs'.1 _ (getD_mem zT0 (show i < r.length by omega))
    show t ≤ (r.getD i zT0).1
    omega
theorem lb_uniq {t : Int} {ws : List DT0} {i : Nat} (hs : Srt ws) (hi : i ≤ ws.length) (h1 : ∀ p,p < i → (ws.getD p zT0).1 < t) (h2 : ∀ p,i ≤ p → p < ws.length → t ≤ (ws.getD p zT0).1) : i = lb t ws := by
 have hl := lb_le t ws
 rcases Nat.lt_trichotomy i (lb t ws) with h | h | h
 ·have := lb_lt h
  have := h2 i (Nat.le_refl _) (by omega)
  omega
 ·exact h
 ·have := h1 _ h
  have := lb_ge hs (Nat.le_refl (lb t ws)) (by omega)
  omega
def fnd (t : Int) (ws : List DT0) : Bool := decide (lb t ws < ws.length) && (ws.getD (lb t ws) zT0).1 == t
def lkW (t : Int) (n : Nat) (ws : List DT0) : DT0 := bif fnd t ws then ws.getD (lb t ws) zT0 else (t,List.replicate n 0,false)
def putW (ws : List DT0) (w : DT0) : List DT0 :=
 bif fnd w.1 ws then (bif blank w then ws.take (lb w.1 ws) ++ ws.drop (lb w.1 ws + 1) else ws.set (lb w.1 ws) w) else (bif blank w then ws else ws.take (lb w.1 ws) ++ w :: ws.drop (lb w.1 ws))
section
variable {α : Type} {k : Nat}
theorem f140_eq (w : DT0) (t : Int) (K : Int → Option α) : f140 k w t K = K (if w.1 < t then -1 else if w.1 > t then 1 else 0) := by
 simp only [f140,s140,SumT.leaf,SumT.pre,SumT.seq,SumT.cond,SumT.block,SumT.blockP,SumT.loop,zB]
 simp only [f141,s141,SumT.leaf,SumT.pre,SumT.seq,SumT.cond,SumT.block,SumT.blockP,SumT.loop,zB]
 simp only [f169,s169,SumT.leaf,SumT.pre,SumT.seq,SumT.cond,SumT.block,SumT.blockP,SumT.loop,zB]
 cases hx : (w.1 != w.1)
 ·cases hy : (t != t)
  ·simp only [cond_false]
   by_cases h1 : w.1 < t
   ·rw [decide_eq_true h1,if_pos h1]
    rfl
   ·rw [decide_eq_false h1,if_neg h1,cond_false]
    by_cases h2 : w.1 > t
    ·rw [decide_eq_true h2,if_pos h2]
     rfl
    ·rw [decide_eq_false h2,if_neg h2]
     rfl
  ·simp at hy
 ·simp at hx
theorem f115_eq (hk : 10000 ≤ k) (s : DT4) (c : DT5) (ws : List DT0) (fs : List DT1) (t : Int) (hs : Srt ws) (hl : ws.length ≤ 5000) (K : Int → Bool → Option α) : f115 k (mk s c ws fs) t K = K (lb t ws : Int) (fnd t ws) := by
 simp only [f115,s115,SumT.leaf,SumT.pre,SumT.seq,SumT.cond,SumT.block,SumT.blockP,SumT.loop,zB,mk,peta]
 simp only [f139_140,s139_140,SumT.leaf,SumT.pre,SumT.seq,SumT.cond,SumT.block,SumT.blockP,SumT.loop,zB]
 refine lp_rule (fun m x => ∃ i j : Nat,j ≤ i + m ∧ i ≤ j ∧ j ≤ ws.length ∧ x = (ws,t,(ws.length : Int),(i : Int),(j : Int)) ∧ (∀ p,p < i → (ws.getD p zT0).1 < t) ∧ (∀ p,j ≤ p → p < ws.length → t ≤ (ws.getD p zT0).1)) ?_ (m := ws.length)
  ⟨0,ws.length,by omega,by omega,Nat.le_refl _,rfl,fun p h => by omega,fun p h1 h2 => by omega⟩ (by omega)
 rintro m x n ⟨i,j,hm,hij,hj,rfl,h1,h2⟩ hn
 by_cases hlt : i < j
 ·have e : w64 (Int.fdiv (wu64 (w64 ((i : Int) + (j : Int)))) (2 ^ 1)) = (((i + j) / 2 : Nat) : Int) := by
   rw [show w64 ((i : Int) + (j : Int)) = ((i + j : Nat) : Int) from w64_id (by omega) (by omega),wu64_id (by omega) (by omega),Int.fdiv_eq_ediv_of_nonneg _ (by omega),w64_id (by omega) (by omega)]
   omega
  simp only [e]
  rw [dlt (by omega),cond_true,gd (by omega),f140_eq,Int.toNat_natCast]
  generalize hh : (i + j) / 2 = h
  have hi1 : i ≤ h := by omega
  have hj1 : h < j := by omega
  by_cases hw : (ws.getD h zT0).1 < t
  ·rw [if_pos hw,dlt (by omega),cond_true,w64_id (by omega) (by omega)]
   refine hn (m - 1) _ (by omega) ⟨h + 1,j,by omega,by omega,hj,rfl,fun p hp => ?_,h2⟩
   by_cases e2 : p = h
   ·rw [e2]; exact hw
   ·
    rcases Nat.lt_or_ge p i with h3 | h3
    ·exact h1 p h3
    ·have := List.pairwise_iff_getElem.1 hs p h (by omega) (by omega) (by omega)
     rw [show ws[p].1 = (ws.getD p zT0).1 by rw [List.getD_eq_getElem?_getD,List.getElem?_eq_getElem (by omega)]; rfl,show ws[h].1 = (ws.getD h zT0).1 by rw [List.getD_eq_getElem?_getD,List.getElem?_eq_getElem (by omega)]; rfl] at this
     omega
  ·have hge : ¬ (if (ws.getD h zT0).1 < t then (-1 : Int) else if (ws.getD h zT0).1 > t then 1 else 0) < 0 := by
    rw [if_neg hw]
    split <;> omega
   rw [dge hge,cond_false]
   refine hn (m - 1) _ (by omega) ⟨i,h,by omega,by omega,by omega,rfl,h1,fun p hp1 hp2 => ?_⟩
   by_cases e2 : p = h
   ·rw [e2]; omega
   ·have := List.pairwise_iff_getElem.1 hs h p (by omega) (by omega) (by omega)
    rw [show ws[p].1 = (ws.getD p zT0).1 by rw [List.getD_eq_getElem?_getD,List.getElem?_eq_getElem (by omega)]; rfl,show ws[h].1 = (ws.getD h zT0).1 by rw [List.getD_eq_getElem?_getD,List.getElem?_eq_getElem (by omega)]; rfl] at this
    omega
 ·obtain rfl : i = j := by omega
  have hlb := lb_uniq hs hj h1 h2
  subst hlb
  simp only []
  rw [dge (by omega),cond_false]
  unfold fnd
  by_cases h3 : lb t ws < ws.length
  ·rw [dlt (by omega),cond_true,gd (by omega),f140_eq,Int.toNat_natCast,decide_eq_true h3,Bool.true_and]
   have h4 := h2 _ (Nat.le_refl _) h3
   congr 1
   by_cases h5 : (ws.getD (lb t ws) zT0).1 = t
   ·rw [h5,if_neg (by omega),if_neg (by omega)]
    simp
   ·rw [if_neg (by omega),if_pos (by omega),show ((ws.getD (lb t ws) zT0).1 == t) = false from beq_eq_false_iff_ne.2 h5]
    rfl
  ·rw [dge (by omega),cond_false,decide_eq_false h3]
   rfl
theorem f100_eq (hk : 10000 ≤ k) (s : DT4) (c : DT5) (ws : List DT0) (fs : List DT1) (t : Int) (hs : Srt ws) (hm : MB ws fs) (hc : vcode c = true) (K : DT0 → Option α) : f100 k (mk s c ws fs) t K = K (lkW t (chips c).toNat ws) := by
 simp only [f100,s100,SumT.leaf,SumT.pre,SumT.seq,SumT.cond,SumT.block,SumT.blockP,SumT.loop,zB]
 rw [f115_eq hk s c ws fs t hs hm.hw]
 have hch := chips_le hc
 unfold lkW
 simp only [mk,peta]
 cases hf : fnd t ws
 ·rw [Bool.not_false,cond_true,f66_eq,gd (by unfold room; omega)]
  rfl
 ·unfold fnd at hf
  simp only [Bool.and_eq_true,decide_eq_true_eq] at hf
  rw [Bool.not_true,cond_false,gd (by omega),Int.toNat_natCast]
  simp only [cloneF]
  have := hm.hs _ (getD_mem zT0 hf.1)
  rw [gd (by omega)]
  rfl
theorem f51_eq (hk : 10000 ≤ k) (s : DT4) (c : DT5) (ws : List DT0) (fs : List DT1) (t : Int) (hs : Srt ws) (hm : MB ws fs) (hc : vcode c = true) (K : DT0 → Option α) : f51 k (mk s c ws fs) t K = K (lkW t (chips c).toNat ws) := by
 simp only [f51,s51,SumT.leaf,SumT.pre,SumT.seq,SumT.cond,SumT.block,SumT.blockP,SumT.loop,zB,mk,peta]
 have hch := chips_le hc
 have hl := hm.hw
 refine lp_rule (fun m x => ∃ i : Nat,i + m = ws.length ∧ x = (t,mk s c ws fs,zT0,(i : Int)) ∧ ∀ p,p < i → (ws.getD p zT0).1 ≠ t) ?_ (m := ws.length) ⟨0,by omega,rfl,fun p h => by omega⟩ (by omega)
 rintro m x n ⟨i,hi,rfl,hne⟩ hn
 cases m with
 | zero =>
  have hf : fnd t ws = false := by
   unfold fnd
   rw [Bool.and_eq_false_iff,decide_eq_false_iff_not]
   by_cases h : lb t ws < ws.length
   ·exact .inr (beq_eq_false_iff_ne.2 (hne _ (by omega)))
   ·exact .inl h
  simp only []
  rw [dge (by omega),cond_false]
  rw [f16_eq,show chips (c.1,c.2.1,c.2.2.1,c.2.2.2) = chips c from rfl,gd (by unfold room; omega)]
  unfold lkW
  rw [hf]
  rfl
 | succ m =>
  simp only []
  rw [dlt (by omega),cond_true,gd (by omega),Int.toNat_natCast]
  have hsy := hm.hs _ (getD_mem zT0 (show i < ws.length by omega))
  by_cases he : (ws.getD i zT0).1 = t
  ·have hlb : i = lb t ws := lb_uniq hs (by omega) (fun p hp => by
    have := List.pairwise_iff_getElem.1 hs p i (by omega) (by omega) hp
    rw [show ws[p].1 = (ws.getD p zT0).1 by rw [List.getD_eq_getElem?_getD,List.getElem?_eq_getElem (by omega)]; rfl,show ws[i].1 = (ws.getD i zT0).1 by rw [List.getD_eq_getElem?_getD,List.getElem?_eq_getElem (by omega)]; rfl] at this
    omega) (fun p hp1 hp2 => by
    by_cases e2 : p = i
    ·rw [e2]; omega
    ·have := List.pairwise_iff_getElem.1 hs i p (by omega) (by omega) (by omega)
     rw [show ws[p].1 = (ws.getD p zT0).1 by rw [List.getD_eq_getElem?_getD,List.getElem?_eq_getElem (by omega)]; rfl,show ws[i].1 = (ws.getD i zT0).1 by rw [List.getD_eq_getElem?_getD,List.getElem?_eq_getElem (by omega)]; rfl] at this
     omega)
   rw [he,beq_self_eq_true,cond_true,gd (by omega),gd (by omega)]
   unfold lkW fnd
   rw [← hlb,decide_eq_true (by omega),he,beq_self_eq_true]
   rfl
  ·rw [beq_eq_false_iff_ne.2 he,cond_false,w64_id (by omega) (by omega)]
   refine hn m _ (by omega) ⟨i + 1,by omega,rfl,fun p hp => ?_⟩
   by_cases e2 : p = i
   ·rw [e2]; exact he
   ·exact hne p (by omega)
theorem f99w_eq (hk : 10000 ≤ k) (s : DT4) (c : DT5) (ws : List DT0) (fs : List DT1) (w : DT0) (hs : Srt ws) (hl : ws.length ≤ 5000) (hw : List.length w.2.1 < 1000) (K : DT2 → Option α) : f99w k (mk s c ws fs) w K = K (mk s c (putW ws w) fs) := by
 simp only [f99w,s99w,SumT.leaf,SumT.pre,SumT.seq,SumT.cond,SumT.block,SumT.blockP,SumT.loop,zB]
 rw [f115_eq hk s c ws fs w.1 hs hl]
 have hlb := lb_le w.1 ws
 have e1 : w64 ((lb w.1 ws : Int) + 1) = ((lb w.1 ws + 1 : Nat) : Int) := w64_id (by omega) (by omega)
 unfold putW
 simp only [mk,peta,e1]
 cases hf : fnd w.1 ws
 ·simp only [cond_false]
  rw [f67_eq hk w hw]
  cases hb : blank w
  ·rw [Bool.not_false,cond_true]
   unfold insertF
   rw [gd (by simp; unfold room; omega),Int.toNat_natCast,cond_false,List.append_assoc]
   rfl
  ·rfl
 ·have hf' := hf
  unfold fnd at hf'
  simp only [Bool.and_eq_true,decide_eq_true_eq] at hf'
  simp only [cond_true]
  rw [f67_eq hk w hw]
  cases hb : blank w
  ·rw [cond_false,gd (by omega),Int.toNat_natCast,cond_false]
  ·rw [cond_true,cond_true]
   unfold deleteF
   rw [gd (by omega),Int.toNat_natCast,Int.toNat_natCast]
end
def skp (t : Int) (ws : List DT0) : Nat := lb t ws + bif fnd t ws then 1 else 0
def nb (w : DT0) : List DT0 := bif blank w then [] else [w]
theorem putW_eq (ws : List DT0) (w : DT0) : putW ws w = ws.take (lb w.1 ws) ++ nb w ++ ws.drop (skp w.1 ws) := by
 unfold putW skp nb
 cases hf : fnd w.1 ws
 ·rw [cond_false,cond_false,Nat.add_zero]
  cases blank w
  ·simp
  ·simp
 ·have hf' := hf
  unfold fnd at hf'
  simp only [Bool.and_eq_true,decide_eq_true_eq] at hf'
  rw [cond_true,cond_true]
  cases blank w
  ·rw [cond_false,cond_false,List.set_eq_take_append_cons_drop,if_pos hf'.1]
   simp
  ·simp
theorem skp_le (t : Int) (ws : List DT0) : lb t ws ≤ skp t ws ∧ skp t ws ≤ lb t ws + 1 ∧ skp t ws ≤ ws.length := by
 unfold skp
 have := lb_le t ws
 cases hf : fnd t ws
 ·simp
  omega
 ·unfold fnd at hf
  simp only [Bool.and_eq_true,decide_eq_true_eq] at hf
  simp
  omega
section
variable {α : Type} {k : Nat}
theorem f52_eq (hk : 10000 ≤ k) (s : DT4) (c : DT5) (ws : List DT0) (fs : List DT1) (w : DT0) (hs : Srt ws) (hm : MB ws fs) (hw : List.length w.2.1 < 1000) (K : DT2 → Option α) : f52 k (mk s c ws fs) w K = K (mk s c (putW ws w) fs) := by
 simp only [f52,s52,SumT.leaf,SumT.pre,SumT.seq,SumT.cond,SumT.block,SumT.blockP,SumT.loop,zB]
 rw [f48_eq hk s c ws fs hm,gd (by unfold room; omega)]
 have hl := hm.hw
 have hlb := lb_le w.1 ws
 obtain ⟨hs1,hs2,hs3⟩ := skp_le w.1 ws
 refine lp_rule (fun m x => ∃ i : Nat,i + m = ws.length + 1 ∧ x = (mk s c ws fs,w,zT2,bif decide (i ≤ lb w.1 ws) then ws.take i else ws.take (lb w.1 ws) ++ nb w ++ (ws.drop (skp w.1 ws)).take (i - skp w.1 ws),!decide (i ≤ lb w.1 ws),(i : Int))) ?_ (m := ws.length + 1) ⟨0,by omega,?_⟩ (by omega)
 ·rintro m x n ⟨i,hi,rfl⟩ hn
  cases m with
  | zero =>
   simp only []
   rw [dgt (by omega),cond_false,decide_eq_false (by omega),cond_false,putW_eq,List.take_of_length_le (l := ws.drop (skp w.1 ws)) (by rw [List.length_drop]; omega)]
  | succ m =>
   simp only [mk]
   rw [dle (by omega),cond_true]
   have hnb : ∀ (out : List DT0) (A : List DT0 → Option α),out.length ≤ 5002 → (bif w.2.2 then (if (out.length + [w].length) * 40 ≤ room then A (out ++ [w]) else none) else f79 k w.2.1 fun t => bif !t then (if (out.length + [w].length) * 40 ≤ room then A (out ++ [w]) else none) else A out) = A (out ++ nb w) := fun out A ho => by
    rw [gd (by simp; unfold room; omega)]
    unfold nb blank
    cases hp : w.2.2
    ·rw [cond_false,f79_eq hk _ hw]
     cases zer w.2.1 <;> simp
    ·rw [cond_true,Bool.not_true,Bool.false_and,cond_false]
   by_cases h1 : i < lb w.1 ws
   ·have hlt := lb_lt h1
    rw [decide_eq_true (show i ≤ lb w.1 ws by omega),Bool.not_true,Bool.not_false]
    simp only [cond_true]
    rw [show ((i : Int) == (ws.length : Int)) = false from beq_eq_false_iff_ne.2 (by omega),cond_false,gd (by omega),Int.toNat_natCast,show decide ((ws.getD i zT0).1 ≥ w.1) = false from decide_eq_false (by omega)]
    simp only [cond_false]
    rw [dlt (by omega),cond_true,gd (by omega),bne_iff_ne.2 (show (ws.getD i zT0).1 ≠ w.1 by omega),cond_true,gd (by omega),gd (by rw [List.length_take]; simp; unfold room; omega),w64_id (by omega) (by omega)]
    refine hn m _ (by omega) ⟨i + 1,by omega,?_⟩
    rw [decide_eq_true (show i + 1 ≤ lb w.1 ws by omega),cond_true,List.take_add_one,List.getElem?_eq_getElem (show i < ws.length by omega),List.getD_eq_getElem?_getD,List.getElem?_eq_getElem (show i < ws.length by omega)]
    rfl
   ·by_cases h2 : i = lb w.1 ws
    ·rw [decide_eq_true (show i ≤ lb w.1 ws by omega),Bool.not_true,Bool.not_false]
     simp only [cond_true]
     rw [Int.toNat_natCast]
     have hin : i ≠ ws.length → decide ((ws.getD i zT0).1 ≥ w.1) = true := fun h => decide_eq_true (lb_ge hs (Nat.le_of_eq h2.symm) (show i < ws.length by omega))
     by_cases h6 : i = ws.length
     all_goals
      first
       | rw [show ((i : Int) == (ws.length : Int)) = true from beq_iff_eq.2 (congrArg Nat.cast h6),cond_true]
       | rw [show ((i : Int) == (ws.length : Int)) = false from beq_eq_false_iff_ne.2 (by omega),cond_false,gd (by omega),hin h6,cond_true]
      refine (hnb (ws.take i) (fun out => bif decide ((i : Int) < (ws.length : Int)) then (if 0 ≤ (i : Int) ∧ (i : Int) < (ws.length : Int) then (bif (ws.getD i zT0).1 != w.1 then (if 0 ≤ (i : Int) ∧ (i : Int) < (ws.length : Int) then (if (out.length + [ws.getD i zT0].length) * 40 ≤ room then n (mk s c ws fs,w,zT2,out ++ [ws.getD i zT0],true,w64 ((i : Int) + 1)) else none) else none) else n (mk s c ws fs,w,zT2,out,true,w64 ((i : Int) + 1))) else none) else n (mk s c ws fs,w,zT2,out,true,w64 ((i : Int) + 1))) (by rw [List.length_take]; omega)).trans ?_
      have hnext : ∀ out,out = ws.take (lb w.1 ws) ++ nb w ++ (ws.drop (skp w.1 ws)).take (i + 1 - skp w.1 ws) → n (mk s c ws fs,w,zT2,out,true,w64 ((i : Int) + 1)) = K (mk s c (putW ws w) fs) := fun out ho => by
       rw [w64_id (by omega) (by omega)]
       refine hn m _ (by omega) ⟨i + 1,by omega,?_⟩
       rw [decide_eq_false (show ¬ i + 1 ≤ lb w.1 ws by omega),cond_false,ho]
       rfl
      by_cases h3 : i < ws.length
      ·rw [dlt (by omega),cond_true,gd (by omega)]
       by_cases h4 : (ws.getD i zT0).1 = w.1
       ·have hfn : fnd w.1 ws = true := by
         unfold fnd
         rw [← h2,decide_eq_true h3,h4,beq_self_eq_true]
         rfl
        have hsk : skp w.1 ws = i + 1 := by
         unfold skp
         rw [hfn,← h2]
         rfl
        rw [h4,show (w.1 != w.1) = false by simp,cond_false]
        refine hnext _ ?_
        rw [hsk,Nat.sub_self,List.take_zero,List.append_nil,h2]
       ·have hfn : fnd w.1 ws = false := by
         unfold fnd
         rw [← h2,beq_eq_false_iff_ne.2 h4,Bool.and_false]
        have hsk : skp w.1 ws = i := by
         unfold skp
         rw [hfn,← h2]
         rfl
        have hnbl : (nb w).length ≤ 1 := by
         unfold nb
         cases blank w <;> simp
        rw [bne_iff_ne.2 h4,cond_true,gd (by omega),gd (by simp only [List.length_append,List.length_take,List.length_cons,List.length_nil]; unfold room; omega)]
        refine hnext _ ?_
        rw [hsk,Nat.add_sub_cancel_left,drop_getD zT0 h3,List.take_succ_cons,List.take_zero,h2]
      ·have hfn : fnd w.1 ws = false := by
        unfold fnd
        rw [← h2,decide_eq_false h3,Bool.false_and]
       have hsk : skp w.1 ws = i := by
        unfold skp
        rw [hfn,← h2]
        rfl
       rw [dge (by omega),cond_false]
       refine hnext _ ?_
       rw [hsk,List.drop_eq_nil_of_le (by omega),List.take_nil,List.append_nil,h2]
    ·rw [decide_eq_false (show ¬ i ≤ lb w.1 ws by omega),Bool.not_false,Bool.not_true,cond_false,cond_false]
     simp only [cond_false]
     have hnbl : (nb w).length ≤ 1 := by
      unfold nb
      cases blank w <;> simp
     rw [w64_id (by omega) (by omega)]
     have hnext : ∀ out,out = ws.take (lb w.1 ws) ++ nb w ++ (ws.drop (skp w.1 ws)).take (i + 1 - skp w.1 ws) → n (mk s c ws fs,w,zT2,out,true,(i : Int) + 1) = K (mk s c (putW ws w) fs) := fun out ho => by
      refine hn m _ (by omega) ⟨i + 1,by omega,?_⟩
      rw [decide_eq_false (show ¬ i + 1 ≤ lb w.1 ws by omega),cond_false,ho]
      rfl
     by_cases h3 : i < ws.length
     ·have hge := lb_ge hs (show lb w.1 ws ≤ i by omega) h3
      have hgt : (ws.getD i zT0).1 ≠ w.1 := by
       have h5 := lb_ge hs (Nat.le_refl (lb w.1 ws)) (by omega)
       have := List.pairwise_iff_getElem.1 hs (lb w.1 ws) i (by omega) (by omega) (by omega)
       rw [show ws[lb w.1 ws].1 = (ws.getD (lb w.1 ws) zT0).1 by rw [List.getD_eq_getElem?_getD,List.getElem?_eq_getElem (by omega)]; rfl,show ws[i].1 = (ws.getD i zT0).1 by rw [List.getD_eq_getElem?_getD,List.getElem?_eq_getElem (by omega)]; rfl] at this
       omega
      rw [dlt (by omega),cond_true,gd (by omega),Int.toNat_natCast,bne_iff_ne.2 hgt,cond_true,gd (by omega),gd (by simp only [List.length_append,List.length_take,List.length_cons,List.length_nil,List.length_drop]; unfold room; omega)]
      refine hnext _ ?_
      have e : i + 1 - skp w.1 ws = (i - skp w.1 ws) + 1 := by omega
      have hg : (ws.drop (skp w.1 ws))[i - skp w.1 ws]? = some (ws.getD i zT0) := by
       rw [List.getElem?_drop,show skp w.1 ws + (i - skp w.1 ws) = i by omega,List.getElem?_eq_getElem h3,List.getD_eq_getElem?_getD,List.getElem?_eq_getElem h3]
       rfl
      rw [e,List.take_add_one,hg,List.append_assoc,List.append_assoc,List.append_assoc]
      rfl
     ·rw [dge (by omega),cond_false]
      refine hnext _ ?_
      rw [List.take_of_length_le (l := ws.drop (skp w.1 ws)) (i := i - skp w.1 ws) (by rw [List.length_drop]; omega),List.take_of_length_le (l := ws.drop (skp w.1 ws)) (i := i + 1 - skp w.1 ws) (by rw [List.length_drop]; omega)]
 ·rw [decide_eq_true (Nat.zero_le _)]
  rfl
end
end Go.Proofs.YtkeiedikiiccpaaGreatDoor.Am
