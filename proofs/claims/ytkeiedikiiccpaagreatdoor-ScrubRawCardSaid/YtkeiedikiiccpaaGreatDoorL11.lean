/- The plain law: the program and the reference answer alike. -/
import Derived.Test.YtkeiedikiiccpaaGreatDoorL10
set_option linter.all false
namespace Go.Proofs.YtkeiedikiiccpaaGreatDoor.Am
open Go
section
variable {α : Type} {k : Nat} {s : DT4} {c : DT5} {ws : List DT0} {fs : List DT1}
theorem VM.oks (hk : 10000 ≤ k) (h : VM s c ws fs) : Ok k ws fs := ⟨h.mb,fun w hw => by
 have := (h.ok w hw).2.2.1
 have := chips_le h.cd
 omega⟩
theorem lk0 : LkOk (0,[],[]) := ⟨Nat.zero_le _,Nat.zero_le _⟩
theorem f53_eq (hk : 10000 ≤ k) (h : VM s c ws fs) (t : Int) (h0 : 0 ≤ t) (h1 : t < szOf s) {E : List Int} (hE : E.length ≤ 100) (K : DT8 → Int → Option α) :
  f53 k (mk s c ws fs) t E K = bif eok c E != 0 then K (0,[],[]) (eok c E) else f87 k (mk s c ws fs) (seenW fs (atP4 s t) (lkW t (chips c).toNat ws)) E fun r => K r 0 := by
 simp only [f53,s53,SumT.leaf,SumT.pre,SumT.seq,SumT.cond,SumT.block,SumT.blockP,SumT.loop,zB]
 simp only [f85,s85,SumT.leaf,SumT.pre,SumT.seq,SumT.cond,SumT.block,SumT.blockP,SumT.loop,zB]
 rw [f57_eq hk h t h0 h1,z0,cond_false,f88_eq hk h t h0 h1,cond_false]
 show f86 k c E _ = _
 rw [f86_eq hk c h.cd E hE]
theorem f57_bad (hk : 10000 ≤ k) (hm : MB ws fs) (hv : vmem s c ws fs = false) (t : Int) (K : DT0 → Int → Option α) : f57 k (mk s c ws fs) t K = K (0,[],false) 1 := by
 simp only [f57,s57,SumT.leaf,SumT.pre,SumT.seq,SumT.cond,SumT.block,SumT.blockP,SumT.loop,zB]
 rw [f47_eq hk s c ws fs hm,hv,Bool.not_false,cond_true]
theorem f57_out (hk : 10000 ≤ k) (h : VM s c ws fs) (t : Int) (ht : t < 0 ∨ t ≥ szOf s) (K : DT0 → Int → Option α) : f57 k (mk s c ws fs) t K = K (0,[],false) 2 := by
 simp only [f57,s57,SumT.leaf,SumT.pre,SumT.seq,SumT.cond,SumT.block,SumT.blockP,SumT.loop,zB]
 rw [f47_eq hk s c ws fs h.mb,h.mem,Bool.not_true,cond_false]
 by_cases h0 : t < 0
 ·rw [decide_eq_true h0,cond_true]
 ·rw [decide_eq_false h0,cond_false,f13_eq hk,decide_eq_true (show t ≥ szOf s by omega),cond_true]
theorem f53_err {e : Int} (he : e ≠ 0) {m : DT2} {t : Int} (h : ∀ {β : Type} (K : DT0 → Int → Option β),f57 k m t K = K (0,[],false) e) (E : List Int) (K : DT8 → Int → Option α) : f53 k m t E K = K (0,[],[]) e := by
 simp only [f53,s53,SumT.leaf,SumT.pre,SumT.seq,SumT.cond,SumT.block,SumT.blockP,SumT.loop,zB]
 simp only [f85,s85,SumT.leaf,SumT.pre,SumT.seq,SumT.cond,SumT.block,SumT.blockP,SumT.loop,zB]
 rw [h,bne_iff_ne.2 he,cond_true,cond_true]
theorem demand_both (hk : 10000 ≤ k) (ho : Ok k ws fs) (hb : ∀ w ∈ ws,Byt w.2.1) (t : Int) {E : List Int} (hE : E.length ≤ 100) :
  ∃ (ws' : List DT0) (r : DT8) (e : Int),Ok k ws' fs ∧ LkOk r ∧ (∀ K : DT2 → DT8 → Int → Option α,f18 k (mk s c ws fs) t E K = K (mk s c ws' fs) r e) ∧ (∀ K : DT2 → DT8 → Int → Option α,f26 k (mk s c ws fs) t E K = K (mk s c ws' fs) r e) := by
 simp only [f18,s18,SumT.leaf,SumT.pre,SumT.seq,SumT.cond,SumT.block,SumT.blockP,SumT.loop,zB]
 simp only [f26,s26,SumT.leaf,SumT.pre,SumT.seq,SumT.cond,SumT.block,SumT.blockP,SumT.loop,zB]
 simp only [f39_eq hk s c ws fs ho.mb,f40_eq hk s c ws fs ho.mb]
 cases hv : vmem s c ws fs
 ·refine ⟨ws,(0,[],[]),1,ho,lk0,fun K => rfl,fun K => ?_⟩
  rw [f53_err (by decide) (fun K => f57_bad hk ho.mb hv t K) E]
  show f48 k (mk s c ws fs) _ = _
  rw [f48_eq hk s c ws fs ho.mb]
 have h := vm_of hv hb
 simp only [Bool.not_true,cond_false]
 have hsz : ∀ (a : Option α) (b : Option α),(bif decide (t ≥ szOf ((mk s c ws fs).1,(mk s c ws fs).2.1,(mk s c ws fs).2.2.1,(mk s c ws fs).2.2.2.1,(mk s c ws fs).2.2.2.2.1,(mk s c ws fs).2.2.2.2.2.1)) then a else b) = bif decide (t ≥ szOf s) then a else b := fun a b => rfl
 simp only [f41_eq hk,hsz]
 by_cases hin : t < 0 ∨ t ≥ szOf s
 ·refine ⟨ws,(0,[],[]),2,ho,lk0,fun K => ?_,fun K => ?_⟩
  ·by_cases h0 : t < 0
   ·rw [decide_eq_true h0,cond_true]
   ·rw [decide_eq_false h0,cond_false,decide_eq_true (by omega),cond_true]
  ·rw [f53_err (by decide) (fun K => f57_out hk h t hin K) E]
   show f48 k (mk s c ws fs) _ = _
   rw [f48_eq hk s c ws fs ho.mb]
 have h0 : 0 ≤ t := by omega
 have h1 : t < szOf s := by omega
 have pc : ((mk s c ws fs).2.2.2.2.2.2.1,(mk s c ws fs).2.2.2.2.2.2.2.1,(mk s c ws fs).2.2.2.2.2.2.2.2.1,(mk s c ws fs).2.2.2.2.2.2.2.2.2.1) = c := rfl
 rw [decide_eq_false (by omega),decide_eq_false (by omega)]
 simp only [cond_false,pc,f42_eq hk c E hE,f53_eq hk h t h0 h1 hE]
 by_cases he : eok c E = 0
 ·obtain ⟨ws',r,v1,v2,v3,v4,v5⟩ := look_both (α := α) hk h t h0 h1 he
  rw [he]
  simp only [z0,cond_false]
  refine ⟨ws',r,0,v1.oks hk,v2,fun K => v3 _,fun K => ?_⟩
  rw [v5,v4]
  exact f48_eq hk s c ws' fs v1.mb _
 ·refine ⟨ws,(0,[],[]),eok c E,ho,lk0,fun K => ?_,fun K => ?_⟩
  ·rw [bne_iff_ne.2 he,cond_true]
  ·rw [bne_iff_ne.2 he,cond_true,cond_true]
   exact f48_eq hk s c ws fs ho.mb _
def fstep (size : Int) (L : List DT0 × Int → List DT0 × DT8) (a : Int × List DT0 × List DT6) : Int × List DT0 × List DT6 :=
 (Int.tmod (w64 (a.1 + 1)) size,(L (a.2.1,a.1)).1,bif (L (a.2.1,a.1)).2.1 == 1 || (L (a.2.1,a.1)).2.1 == 2 then a.2.2 ++ [(a.1,(L (a.2.1,a.1)).2.1,(L (a.2.1,a.1)).2.2.1,(L (a.2.1,a.1)).2.2.2)] else a.2.2)
theorem patrol_both (hk : 10000 ≤ k) (ho : Ok k ws fs) (hb : ∀ w ∈ ws,Byt w.2.1) (t cnt : Int) {E : List Int} (hE : E.length ≤ 100) :
  ∃ (ws' : List DT0) (t' : Int) (l : List DT6) (e : Int),Ok k ws' fs ∧ FoOk l ∧ (∀ K : DT2 → Int → List DT6 → Int → Option α,f27 k (mk s c ws fs) t cnt E K = K (mk s c ws' fs) t' l e) ∧ (∀ K : DT2 → Int → List DT6 → Int → Option α,f28 k (mk s c ws fs) t cnt E K = K (mk s c ws' fs) t' l e) := by
 have fo0 : FoOk [] := ⟨Nat.zero_le _,fun x h => nomatch h⟩
 simp only [f27,s27,SumT.leaf,SumT.pre,SumT.seq,SumT.cond,SumT.block,SumT.blockP,SumT.loop,zB]
 simp only [f28,s28,SumT.leaf,SumT.pre,SumT.seq,SumT.cond,SumT.block,SumT.blockP,SumT.loop,zB]
 simp only [f55,s55,SumT.leaf,SumT.pre,SumT.seq,SumT.cond,SumT.block,SumT.blockP,SumT.loop,zB]
 simp only [f39_eq hk s c ws fs ho.mb,f40_eq hk s c ws fs ho.mb,f47_eq hk s c ws fs ho.mb,f48_eq hk s c ws fs ho.mb,f41_eq hk,f13_eq hk]
 cases hv : vmem s c ws fs
 ·exact ⟨ws,t,[],1,ho,fo0,fun K => rfl,fun K => rfl⟩
 have h := vm_of hv hb
 simp only [Bool.not_true,cond_false]
 have ps : szOf ((mk s c ws fs).1,(mk s c ws fs).2.1,(mk s c ws fs).2.2.1,(mk s c ws fs).2.2.2.1,(mk s c ws fs).2.2.2.2.1,(mk s c ws fs).2.2.2.2.2.1) = szOf s := rfl
 simp only [ps]
 cases c1 : decide (t < 0)
 case true => exact ⟨ws,t,[],2,ho,fo0,fun K => rfl,fun K => rfl⟩
 cases c2 : decide (t ≥ szOf s)
 case true => exact ⟨ws,t,[],2,ho,fo0,fun K => rfl,fun K => rfl⟩
 cases c3 : decide (cnt < 0)
 case true => exact ⟨ws,t,[],2,ho,fo0,fun K => rfl,fun K => rfl⟩
 cases c4 : decide (cnt > 4096)
 case true => exact ⟨ws,t,[],2,ho,fo0,fun K => rfl,fun K => rfl⟩
 have c1 := of_decide_eq_false c1
 have c2 := of_decide_eq_false c2
 have c3 := of_decide_eq_false c3
 have c4 := of_decide_eq_false c4
 have h0 : 0 ≤ t := by omega
 have h1 : t < szOf s := by omega
 have pc : ((mk s c ws fs).2.2.2.2.2.2.1,(mk s c ws fs).2.2.2.2.2.2.2.1,(mk s c ws fs).2.2.2.2.2.2.2.2.1,(mk s c ws fs).2.2.2.2.2.2.2.2.2.1) = c := rfl
 simp only [cond_false,pc,f42_eq hk c E hE,f53_eq hk h t h0 h1 hE]
 by_cases he : eok c E = 0
 case neg =>
  rw [bne_iff_ne.2 he]
  refine ⟨ws,t,[],eok c E,ho,fo0,fun K => rfl,fun K => ?_⟩
  rw [cond_true,cond_true]
 rw [he]
 simp only [z0,cond_false]
 have hL : ∀ x : List DT0 × Int,∃ y : List DT0 × DT8,VM s c x.1 fs → 0 ≤ x.2 → x.2 < szOf s → VM s c y.1 fs ∧ LkOk y.2 ∧ (∀ K : DT2 → DT8 → Option α,f43w k (mk s c x.1 fs) x.2 E K = K (mk s c y.1 fs) y.2) ∧ (∀ K : DT2 → DT8 → Option α,f54 k (mk s c x.1 fs) x.2 E K = K (mk s c y.1 fs) y.2) := fun x => by
  by_cases hx : VM s c x.1 fs ∧ 0 ≤ x.2 ∧ x.2 < szOf s
  ·obtain ⟨ws',r,v1,v2,v3,v4,_⟩ := look_both (α := α) hk hx.1 x.2 hx.2.1 hx.2.2 he
   exact ⟨(ws',r),fun _ _ _ => ⟨v1,v2,v3,v4⟩⟩
  ·exact ⟨([],(0,[],[])),fun a b d => absurd ⟨a,b,d⟩ hx⟩
 obtain ⟨L,hL⟩ := Classical.axiomOfChoice hL
 have hsz := szOf_le s
 obtain ⟨_,_,_,_,_,_,v5⟩ := look_both (α := α) hk h t h0 h1 he
 obtain ⟨N,rfl⟩ : ∃ N : Nat,cnt = N := ⟨cnt.toNat,by omega⟩
 let Inv := fun (i : Nat) (a : Int × List DT0 × List DT6) => 0 ≤ a.1 ∧ a.1 < szOf s ∧ VM s c a.2.1 fs ∧ List.length a.2.2 ≤ i ∧ ∀ x ∈ a.2.2,LkOk (rdOf x)
 have hI0 : Inv 0 (t,ws,[]) := ⟨h0,h1,h,Nat.le_refl _,fun x h => nomatch h⟩
 have hstep : ∀ i a,Inv i a → Inv (i + 1) (fstep (szOf s) L a) := by
  rintro i ⟨n,w,l⟩ ⟨a1,a2,a3,a4,a5⟩
  obtain ⟨b1,b2,_,_⟩ := hL (w,n) a3 a1 a2
  have a1 : 0 ≤ n := a1
  have a2 : n < szOf s := a2
  have e : Int.tmod (w64 (n + 1)) (szOf s) = (n + 1) % szOf s := by rw [w64_id (by omega) (by omega),Int.tmod_eq_emod_of_nonneg (by omega)]
  refine ⟨?_,?_,b1,?_,?_⟩
  ·show 0 ≤ Int.tmod (w64 (n + 1)) (szOf s)
   rw [e]
   exact Int.emod_nonneg _ (by omega)
  ·show Int.tmod (w64 (n + 1)) (szOf s) < _
   rw [e]
   exact Int.emod_lt_of_pos _ (by omega)
  ·have a4 : l.length ≤ i := a4
   show List.length (bif _ then _ else l) ≤ _
   cases (L (w,n)).2.1 == 1 || (L (w,n)).2.1 == 2
   ·rw [cond_false]
    omega
   ·rw [cond_true,List.length_append]
    simp
    omega
  ·intro x hx
   have hx : x ∈ (bif (L (w,n)).2.1 == 1 || (L (w,n)).2.1 == 2 then l ++ [(n,(L (w,n)).2.1,(L (w,n)).2.2.1,(L (w,n)).2.2.2)] else l) := hx
   cases hc : (L (w,n)).2.1 == 1 || (L (w,n)).2.1 == 2 <;> rw [hc] at hx
   ·exact a5 x hx
   ·rcases List.mem_append.1 hx with hx | hx
    ·exact a5 x hx
    ·rw [List.mem_singleton.1 hx]
     exact b2
 have hIN : Inv N (run (fun _ a => fstep (szOf s) L a) 0 N (t,ws,[])) := by
  have h := run_inv (f := fun _ a => fstep (szOf s) L a) Inv N 0 _ hI0 fun j a _ _ hI => hstep _ a hI
  rw [Nat.zero_add] at h
  exact h
 have hN : N ≤ 4096 := by omega
 generalize hR : run (fun _ a => fstep (szOf s) L a) 0 N (t,ws,[]) = R at hIN
 obtain ⟨r1,r2,r3,r4,r5⟩ := hIN
 refine ⟨R.2.1,R.1,R.2.2,0,r3.oks hk,⟨by omega,r5⟩,fun K => ?_,fun K => ?_⟩
 ·refine lp_run2 (fun i (a : Int × List DT0 × List DT6) => (a.1,E,zT2,mk s c a.2.1 fs,szOf s,a.2.2,(N : Int),(i : Int))) N (fun _ a => fstep (szOf s) L a) Inv (by omega) (a := (t,ws,[])) hI0 ?_ ?_
  ·rintro i ⟨n,w,l⟩ q hi hI
   have hI' := hI
   refine ⟨?_,hstep i _ hI⟩
   obtain ⟨a1,a2,a3,a4,a5⟩ := hI'
   obtain ⟨b1,b2,b3,b4⟩ := hL (w,n) a3 a1 a2
   have a4 : l.length ≤ i := a4
   simp only []
   rw [dlt (by omega),cond_true]
   refine (b3 _).trans ?_
   unfold fstep
   have g : ∀ x : DT6,(l.length + [x].length) * 64 ≤ room := fun x => by simp; unfold room; omega
   have gs : ¬ szOf s = 0 := by omega
   simp only [if_pos (g _),if_neg gs]
   rw [w64_id (x := (i : Int) + 1) (by omega) (by omega)]
   cases h1 : (L (w,n)).2.1 == 1
   ·cases h2 : (L (w,n)).2.1 == 2
    ·rfl
    ·rfl
   ·rfl
  ·intro q _
   rw [hR]
   simp only []
   rw [dge (by omega),cond_false]
 ·rw [v5]
  refine Eq.trans (lp_run2 (fun i (a : Int × List DT0 × List DT6) => (a.1,(N : Int) - (i : Int),E,mk s c a.2.1 fs,zT2,szOf s,a.2.2)) N (fun _ a => fstep (szOf s) L a) Inv (r := K (mk s c R.2.1 fs) R.1 R.2.2 0) (by omega) (a := (t,ws,[])) hI0 ?_ ?_) rfl
  ·rintro i ⟨n,w,l⟩ q hi hI
   have hI' := hI
   refine ⟨?_,hstep i _ hI⟩
   obtain ⟨a1,a2,a3,a4,a5⟩ := hI'
   obtain ⟨b1,b2,b3,b4⟩ := hL (w,n) a3 a1 a2
   have a4 : l.length ≤ i := a4
   simp only []
   rw [decide_eq_true (show (N : Int) - i > 0 by omega),cond_true]
   refine (b4 _).trans ?_
   unfold fstep
   have g : ∀ x : DT6,(l.length + [x].length) * 64 ≤ room := fun x => by simp; unfold room; omega
   have gs : ¬ szOf s = 0 := by omega
   simp only [if_pos (g _),if_neg gs]
   rw [w64_id (x := (N : Int) - i - 1) (by omega) (by omega),show (N : Int) - i - 1 = N - ((i + 1 : Nat) : Int) by omega]
   cases h1 : (L (w,n)).2.1 == 1
   ·cases h2 : (L (w,n)).2.1 == 2
    ·rfl
    ·rfl
   ·rfl
  ·intro q _
   rw [hR]
   simp only []
   rw [decide_eq_false (show ¬ (N : Int) - N > 0 by omega),cond_false,f48_eq hk s c R.2.1 fs r3.mb]
theorem sweep_both (hk : 10000 ≤ k) (ho : Ok k ws fs) (hb : ∀ w ∈ ws,Byt w.2.1) {E : List Int} (hE : E.length ≤ 100) :
  ∃ (ws' : List DT0) (l : List DT6) (e : Int),Ok k ws' fs ∧ FoOk l ∧ (∀ K : DT2 → List DT6 → Int → Option α,f25 k (mk s c ws fs) E K = K (mk s c ws' fs) l e) ∧ (∀ K : DT2 → List DT6 → Int → Option α,f30 k (mk s c ws fs) E K = K (mk s c ws' fs) l e) := by
 obtain ⟨ws',t',l,e,h1,h2,h3,h4⟩ := patrol_both (α := α) (s := s) (c := c) hk ho hb 0 (szOf s) hE
 refine ⟨ws',l,e,h1,h2,fun K => ?_,fun K => ?_⟩
 ·simp only [f25,s25,SumT.leaf,SumT.pre,SumT.seq,SumT.cond,SumT.block,SumT.blockP,SumT.loop,zB]
  rw [f41_eq hk]
  exact h3 _
 ·simp only [f30,s30,SumT.leaf,SumT.pre,SumT.seq,SumT.cond,SumT.block,SumT.blockP,SumT.loop,zB]
  simp only [f55,s55,SumT.leaf,SumT.pre,SumT.seq,SumT.cond,SumT.block,SumT.blockP,SumT.loop,zB]
  rw [f13_eq hk]
  exact h4 _
theorem f9_eq (hk : 10000 ≤ k) (ho : Ok k ws fs) (hb : ∀ w ∈ ws,Byt w.2.1) (n : DT3) {E : List Int} (hE : E.length ≤ 100) (K : Bool → Option α) : f9 k (mk s c ws fs) n E K = K true := by
 obtain ⟨w1,r1,e1,a1,a2,a3,a4⟩ := demand_both (α := α) (s := s) (c := c) hk ho hb n.1 hE
 obtain ⟨w2,t2,l2,e2,b1,b2,b3,b4⟩ := patrol_both (α := α) (s := s) (c := c) hk ho hb n.1 n.2 hE
 obtain ⟨w3,l3,e3,c1,c2,c3,c4⟩ := sweep_both (α := α) (s := s) (c := c) hk ho hb hE
 have g1 : ∀ (x y : Int) (a b : Option α),(if 0 < [x,y].length then a else b) = a := fun x y a b => rfl
 have g2 : ∀ (x y : Int) (a b : Option α),(if 1 < [x,y].length then a else b) = a := fun x y a b => rfl
 have g3 : ∀ x y : Int,[x,y].getD 0 0 = x := fun x y => rfl
 have g4 : ∀ x y : Int,[x,y].getD 1 0 = y := fun x y => rfl
 simp only [f9,s9,SumT.leaf,SumT.pre,SumT.seq,SumT.cond,SumT.block,SumT.blockP,SumT.loop,zB]
 simp only [g1,g2,g3,g4,a3,a4,b3,b4,c3,c4,bne_self_eq_false,beq_self_eq_true,cond_false,cond_true,f20_eq hk _ a2,f19_eq hk a1,f19_eq hk b1,f19_eq hk c1,f29_eq hk _ b2,f29_eq hk _ c2,Bool.not_true]
end
set_option maxRecDepth 100000 in
theorem awake_eq {α : Type} (j : Nat) (K : Bool → Option α) : f7 (j + 10000) K = K true := by kernel_rfl
theorem fuel_for : ∀ ws : List DT0,∃ j : Nat,∀ w ∈ ws,List.length w.2.1 < j
 | [] => ⟨0,fun w h => by cases h⟩
 | w :: ws => by
  obtain ⟨j,h⟩ := fuel_for ws
  refine ⟨List.length w.2.1 + 1 + j,fun v hv => ?_⟩
  rcases List.mem_cons.1 hv with rfl | hv
  ·omega
  ·have := h v hv
   omega
theorem law_eq (s : DT4) (c : DT5) (ws : List DT0) (fs : List DT1) (n : DT3) (er : List Int) (hl : ∀ w ∈ ws,List.length w.2.1 ≤ room ∧ Byt w.2.1) : ∃ k,∀ {α : Type} (K : Bool → Option α),f3 k (mk s c ws fs) n er K = K true := by
 obtain ⟨j,hj⟩ := fuel_for ws
 refine ⟨j + 10000,fun K => ?_⟩
 simp only [f3,s3,SumT.leaf,SumT.pre,SumT.seq,SumT.cond,SumT.block,SumT.blockP,SumT.loop,zB]
 rw [awake_eq,cond_true]
 cases h1 : decide (((ws.length : Nat) : Int) > 100)
 case true => rfl
 cases h2 : decide (((fs.length : Nat) : Int) > 100)
 case true => rfl
 have h1 := of_decide_eq_false h1
 have h2 := of_decide_eq_false h2
 rw [cond_false,cond_false]
 simp only [f8,s8,SumT.leaf,SumT.pre,SumT.seq,SumT.cond,SumT.block,SumT.blockP,SumT.loop,zB]
 generalize decide (w64 (w64 (w64 (w64 (w64 ((mk s c ws fs).1 + (mk s c ws fs).2.1) + (mk s c ws fs).2.2.1) + (mk s c ws fs).2.2.2.1) + (mk s c ws fs).2.2.2.2.1) + (mk s c ws fs).2.2.2.2.2.1) > 8) = b
 cases b
 case true => rfl
 cases h3 : decide (((er.length : Nat) : Int) > 60)
 case true => rfl
 have h3 := of_decide_eq_false h3
 rw [cond_false,cond_false]
 show f9 (j + 10000) (mk s c ws fs) _ er _ = _
 exact f9_eq (by omega) ⟨⟨by omega,by omega,fun w hw => (hl w hw).1⟩,fun w hw => by have := hj w hw; omega⟩ (fun w hw => (hl w hw).2) _ (by omega) _
theorem byt_of {l : List Int} (h : ∀ x ∈ l,tyOk tY x) : Byt l := fun x hx => by
 have := h x hx
 simp only [tyOk,Lit.wf,Bool.and_eq_true,decide_eq_true_eq] at this
 have h1 : (IntKind.u8).min = 0 := by decide
 have h2 : (IntKind.u8).max = 255 := by decide
 rw [h1,h2] at this
 omega
theorem law_ty (m : DT2) (n : DT3) (er : List Int) (hm : tyOk T2 m) : ∃ k,∀ {α : Type} (K : Bool → Option α),f3 k m n er K = K true := by
 rw [mk_eta m]
 have h : tyOk (.sl T0) m.2.2.2.2.2.2.2.2.2.2.1 := hm.2.2.2.2.2.2.2.2.2.2.1
 exact law_eq _ _ _ _ n er fun w hw => by
  have h2 : tyOk (.sl tY) w.2.1 := (h.2 w hw).2.1
  exact ⟨h2.1,byt_of h2.2⟩
end Go.Proofs.YtkeiedikiiccpaaGreatDoor.Am
