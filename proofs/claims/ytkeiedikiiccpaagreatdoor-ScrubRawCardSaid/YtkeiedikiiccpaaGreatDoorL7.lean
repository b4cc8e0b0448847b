/- The plain law: the program and the reference answer alike. -/
import Derived.Test.YtkeiedikiiccpaaGreatDoorL6
set_option linter.all false
namespace Go.Proofs.YtkeiedikiiccpaaGreatDoor.Am
open Go
section
variable {α : Type} {k : Nat}
theorem rb_snoc (rows : List (List F8)) (r : List F8) : rb rows ++ [bs r] = rb (rows ++ [r]) := by simp [rb]
theorem f161_eq (hk : 10000 ≤ k) (n : Nat) (u : List F8) (v : Nat) (hn : n ≤ 64) (hu : u.length < 100) (hv : v ≤ u.length - v) (K : List Int → Bool → Option α) :
  f161 k (n : Int) (bs u) (v : Int) K = match gauss (hrows u v) v with | none => K [] false | some l => K (zs (rts n v (at0 l))) (decide ((rts n v (at0 l)).length = v)) := by
 simp only [f161,s161,SumT.leaf,SumT.pre,SumT.seq,SumT.cond,SumT.block,SumT.blockP,SumT.loop,zB]
 refine lp_run2 (fun i rows => ((n : Int),bs u,(v : Int),rb rows,(i : Int))) (u.length - v) (fun i rows => rows ++ [hrow u v i]) (fun i rows => rows.length = i) (by omega) (a := []) rfl ?_ ?_
 ·intro i rows n2 hi hI
  refine ⟨?_,by rw [List.length_append,hI]; rfl⟩
  have e1 : w64 ((i : Int) + (v : Int)) = ((i + v : Nat) : Int) := w64_id (by omega) (by omega)
  have e2 : w64 (((i + v : Nat) : Int) + 1) = ((i + v + 1 : Nat) : Int) := w64_id (by omega) (by omega)
  simp only [e1,e2]
  rw [bs_len,dlt (by omega),cond_true,gd (by omega),Int.toNat_natCast,Int.toNat_natCast,bs_take,bs_drop,bs_len,gd (by rw [List.length_drop,List.length_take]; unfold room; omega),rb_len,hI,gd (by simp; unfold room; omega)]
  have : (u.take (i + v + 1)).drop i = hrow u v i := ext_getD 0 (by unfold hrow; simp; omega) fun j hj => by
   rw [List.length_drop,List.length_take] at hj
   unfold hrow
   rw [getD_drop,getD_take,if_pos (by omega),map_range_getD _ _ _ _ (by omega)]
  rw [this,rb_snoc,w64_id (by omega) (by omega)]
  rfl
 ·intro n2 _
  rw [run_snoc,List.nil_append,show (List.range (u.length - v)).map (fun i => hrow u v i) = hrows u v from rfl]
  have e1 : w64 (((u.length - v : Nat) : Int) + (v : Int)) = (u.length : Int) := by
   rw [w64_id (by omega) (by omega)]
   omega
  simp only [e1]
  rw [bs_len,dge (by omega),cond_false]
  refine (f181w_eq hk (hrows u v) v (by rw [hrows_len]; exact hv) (by rw [hrows_len]; omega) (hrows_wd u v) _).trans ?_
  have hg := gauss_spec (w := v) (rows := hrows u v) (by rw [hrows_len]; exact hv) (hrows_wd u v)
  cases hgg : gauss (hrows u v) v with
  | none => rfl
  | some l =>
   rw [hgg] at hg
   simp only []
   rw [Bool.not_true,cond_false]
   refine lp_run2 (fun i out => ((n : Int),(v : Int),bs l,zs out,(i : Int))) n (fun p out => if (gsum v (fun k => gmul (at0 l k) (gpow (PX n p) k)) == gpow (PX n p) v) = true then out ++ [p] else out) (fun i out => out.length ≤ i) (by omega) (a := []) (Nat.le_refl _) ?_ ?_
   ·intro i out n3 hi hI
    refine ⟨?_,?_⟩
    ·have e2 : w64 (w64 ((n : Int) - 1) - (i : Int)) = ((n - 1 - i : Nat) : Int) := by
      rw [show w64 ((n : Int) - 1) = ((n - 1 : Nat) : Int) by rw [w64_id (by omega) (by omega)]; omega,w64_id (by omega) (by omega)]
      omega
     simp only [e2]
     rw [dlt (by omega),cond_true,f108_eq hk _ (by omega),show gpow 2 (n - 1 - i) = PX n i from rfl]
     refine lp_run2 (fun j (x : F8 × F8) => ((n : Int),(v : Int),bs l,zs out,(i : Int),ofG (PX n i),ofG x.1,ofG x.2,(j : Int))) v (fun j (x : F8 × F8) => (x.1 ^^^ gmul (l.getD j 0) x.2,gmul x.2 (PX n i)))
      (fun j x => x = (gsum j (fun k => gmul (at0 l k) (gpow (PX n i) k)),gpow (PX n i) j)) (by omega) (a := (0,1)) rfl ?_ ?_
     ·rintro j x n4 hj rfl
      refine ⟨?_,rfl⟩
      simp only []
      rw [dlt (by omega),cond_true,bs_len,hg.1,gd (by omega),Int.toNat_natCast,bs_getD,f131_eq hk,f131_eq hk,ofG_xor,w64_id (by omega) (by omega)]
      rfl
     ·intro n4 hI2
      rw [hI2]
      simp only []
      rw [dge (by omega),cond_false]
      by_cases he : gsum v (fun k => gmul (at0 l k) (gpow (PX n i) k)) = gpow (PX n i) v
      ·rw [he,show (ofG (gpow (PX n i) v) == ofG (gpow (PX n i) v)) = true by simp,cond_true,zs_len,gd (by simp; unfold room; omega),zs_snoc,beq_self_eq_true,if_pos rfl,w64_id (by omega) (by omega)]
       rfl
      ·rw [show (ofG (gsum v (fun k => gmul (at0 l k) (gpow (PX n i) k))) == ofG (gpow (PX n i) v)) = false from beq_eq_false_iff_ne.2 fun h => he (ofG_inj h),cond_false,show (gsum v (fun k => gmul (at0 l k) (gpow (PX n i) k)) == gpow (PX n i) v) = false from beq_eq_false_iff_ne.2 he,w64_id (by omega) (by omega)]
       rfl
    ·split
     ·simp
      omega
     ·omega
   ·intro n3 _
    rw [run_filter (fun p => gsum v (fun k => gmul (at0 l k) (gpow (PX n p) k)) == gpow (PX n p) v) [] n,List.nil_append,show (List.range n).filter (fun p => gsum v (fun k => gmul (at0 l k) (gpow (PX n p) k)) == gpow (PX n p) v) = rts n v (at0 l) from rfl]
    simp only []
    rw [dge (by omega),cond_false,zs_len]
    congr 1
    rw [Bool.eq_iff_iff,beq_iff_eq,decide_eq_true_eq]
    omega
theorem f162_eq (hk : 10000 ≤ k) (n : Nat) (s : List F8) (ps : List Nat) (hs : s.length < 100) (hn : n ≤ 64) (hps : ∀ p ∈ ps,p < n) (hw : ps.length ≤ s.length) (K : List Int → Bool → Option α) :
  f162 k (n : Int) (bs s) (zs ps) K = match gauss (srows n s ps) ps.length with | some out => K (bs out) true | none => K [] false := by
 simp only [f162,s162,SumT.leaf,SumT.pre,SumT.seq,SumT.cond,SumT.block,SumT.blockP,SumT.loop,zB]
 refine lp_run2 (fun j rows => ((n : Int),bs s,zs ps,rb rows,(j : Int))) s.length (fun j rows => rows ++ [srow n s ps j]) (fun j rows => rows.length = j) (by omega) (a := []) rfl ?_ ?_
 ·intro j rows n2 hj hI
  refine ⟨?_,by rw [List.length_append,hI]; rfl⟩
  simp only []
  rw [bs_len,dlt (by omega),cond_true]
  refine lp_run2 (fun i row => ((n : Int),bs s,zs ps,rb rows,(j : Int),bs row,(i : Int))) ps.length (fun i row => row ++ [gpow (gpow 2 (n - 1 - ps.getD i 0)) j]) (fun i row => row.length = i) (by omega) (a := []) rfl ?_ ?_
  ·intro i row n3 hi hI2
   have hp := hps _ (getD_mem 0 hi)
   refine ⟨?_,by rw [List.length_append,hI2]; rfl⟩
   have hb : j * (n - 1 - ps.getD i 0) ≤ 100 * 64 := Nat.mul_le_mul (by omega) (by omega)
   have e2 : w64 ((j : Int) * w64 (w64 ((n : Int) - 1) - ((ps.getD i 0 : Nat) : Int))) = ((j * (n - 1 - ps.getD i 0) : Nat) : Int) := by
    have e3 : w64 (w64 ((n : Int) - 1) - ((ps.getD i 0 : Nat) : Int)) = ((n - 1 - ps.getD i 0 : Nat) : Int) := by
     rw [show w64 ((n : Int) - 1) = ((n - 1 : Nat) : Int) by rw [w64_id (by omega) (by omega)]; omega,w64_id (by omega) (by omega)]
     omega
    rw [e3,← Int.natCast_mul,w64_id (by omega) (by omega)]
   simp only []
   rw [zs_len,dlt (by omega),cond_true,gd (by omega),Int.toNat_natCast,zs_getD,e2,f108_eq hk _ (by omega),bs_len,hI2,gd (by simp; unfold room; omega),bs_snoc2,w64_id (by omega) (by omega),Nat.mul_comm j,gpow_mul]
   rfl
  ·intro n3 _
   rw [run_snoc,List.nil_append]
   simp only []
   rw [zs_len,dge (by omega),cond_false,bs_len,gd (by omega),bs_len,Int.toNat_natCast,bs_getD,gd (by simp; unfold room; omega),rb_len,hI,gd (by simp; unfold room; omega),bs_snoc2,rb_snoc,w64_id (by omega) (by omega)]
   rfl
 ·intro n2 _
  rw [run_snoc,List.nil_append,show (List.range s.length).map (fun j => srow n s ps j) = srows n s ps from rfl]
  simp only []
  rw [bs_len,dge (by omega),cond_false,zs_len]
  exact f181w_eq hk (srows n s ps) ps.length (by rw [srows_len]; exact hw) (by rw [srows_len]; exact hs) (srows_wd n s ps) _
theorem f159_eq (hk : 10000 ≤ k) (d c f : Nat) (h2 : d ≤ 32) (h4 : c ≤ 8) (hv : vcode (2,(d : Int),(c : Int),(f : Int)) = true) (w : List F8) (hw : w.length = d + c) (E : List Nat) (h : ErOk E (d + c) c) (K : Int → Option α) :
  f159 k (2,(d : Int),(c : Int),(f : Int)) (bs w) (zs E) K = K 0 := by
 simp only [f159,s159,SumT.leaf,SumT.pre,SumT.seq,SumT.cond,SumT.block,SumT.blockP,SumT.loop,zB]
 have hl := h.le
 have e1 : w64 ((d : Int) + (c : Int)) = ((d + c : Nat) : Int) := w64_id (by omega) (by omega)
 rw [f106_eq,hv,bs_len,hw,e1,show (true && ((2 : Int) == 2)) = true from rfl,Bool.not_true,cond_false,bne_self_eq_false,cond_false]
 refine lp_run2 (fun i (_ : Unit) => (zs E,((2 : Int),(d : Int),(c : Int),(f : Int)),((d + c : Nat) : Int),(i : Int))) E.length (fun _ a => a) (fun _ _ => True) (by omega) (a := ()) trivial ?_ ?_
 ·intro i _ n2 hi _
  refine ⟨?_,trivial⟩
  have := h.lt _ (getD_mem 0 hi)
  simp only []
  rw [zs_len,dlt (by omega),cond_true,gd (by omega),Int.toNat_natCast,zs_getD,decide_eq_false (by omega),cond_false,gd (by omega),decide_eq_false (by omega),cond_false,w64_id (by omega) (by omega)]
  rfl
 ·intro n2 _
  simp only []
  rw [zs_len,dge (by omega),cond_false]
  have hend : (bif decide ((E.length : Int) > (c : Int)) then K 3 else K 0) = K 0 := by
   rw [decide_eq_false (by omega),cond_false]
  by_cases h0 : E.length = 0
  ·obtain ⟨k',rfl⟩ : ∃ k',k = k' + 1 := ⟨k - 1,by omega⟩
   rw [lpF]
   simp only []
   rw [zs_len,dge (by omega),cond_false]
   exact hend
  ·refine lp_rule (fun m x => ∃ i : Nat,1 ≤ i ∧ i + m = E.length ∧ x = (zs E,((2 : Int),(d : Int),(c : Int),(f : Int)),(i : Int))) ?_ (m := E.length - 1) ⟨1,Nat.le_refl _,by omega,rfl⟩ (by omega)
   rintro m x n3 ⟨i,hi1,hi,rfl⟩ hn3
   cases m with
   | zero =>
    simp only []
    rw [zs_len,dge (by omega),cond_false]
    exact hend
   | succ m =>
    have hh := h.get (i := i - 1) (by omega)
    rw [show i - 1 + 1 = i by omega] at hh
    have e1 : w64 ((i : Int) - 1) = ((i - 1 : Nat) : Int) := by
     rw [w64_id (by omega) (by omega)]
     omega
    simp only [e1]
    rw [zs_len,dlt (by omega),cond_true,gd (by omega),gd (by omega),Int.toNat_natCast,Int.toNat_natCast,zs_getD,zs_getD,decide_eq_false (by omega),cond_false,w64_id (by omega) (by omega)]
    exact hn3 m _ (by omega) ⟨i + 1,by omega,by omega,rfl⟩
end
theorem run_any {β : Type} (g : β → Bool) (d : β) (l : List β) (b : Bool) : run (fun i ag => ag || g (l.getD i d)) 0 l.length b = (b || l.any g) := by
 rw [run_fold (f := fun ag x => ag || g x) l b]
 induction l generalizing b with
 | nil => simp
 | cons x l ih => rw [List.foldl_cons,ih,List.any_cons,Bool.or_assoc]
theorem diff_nil {v w : List F8} {n : Nat} (h1 : v.length = n) (h2 : w.length = n) : ((List.range n).filter fun i => v.getD i 0 != w.getD i 0) = [] ↔ v = w := by
 rw [List.filter_eq_nil_iff]
 constructor
 ·intro h
  refine ext_getD 0 (by omega) fun i hi => ?_
  have := h i (by simp; omega)
  simpa using this
 ·rintro rfl i _
  simp
section
variable {α : Type} {k : Nat}
theorem f128_eq (hk : 10000 ≤ k) (d c f : Nat) (h1 : 1 ≤ d) (h2 : d ≤ 32) (h3 : 1 ≤ c) (h4 : c ≤ 8) (h5 : f ≤ c / 2) (hv : vcode (2,(d : Int),(c : Int),(f : Int)) = true) (w : List F8) (hw : w.length = d + c) (E : List Nat) (hE : ErOk E (d + c) c) (K : DT8 → Int → Option α) :
  f128 k (2,(d : Int),(c : Int),(f : Int)) (bs w) (zs E) K = K (refDec (d + c) (min f ((c - E.length) / 2)) (syn w c) w E) 0 := by
 have hEl := hE.le
 have hsl := syn_len w c
 simp only [f128,s128,SumT.leaf,SumT.pre,SumT.seq,SumT.cond,SumT.block,SumT.blockP,SumT.loop,zB]
 rw [f159_eq hk d c f h2 h4 hv w hw E hE,show ((0 : Int) != 0) = false from rfl,cond_false,f160_eq hk d c f h1 h2 h3 h4 hv w hw,bs_len,hsl,gd (by unfold room; omega),bs_len,hw]
 refine lp_run2 (fun i u => (bs w,zs E,((2 : Int),(d : Int),(c : Int),(f : Int)),((0 : Int),([] : List Int),([] : List Int)),((d + c : Nat) : Int),bs (syn w c),bs u,(i : Int))) E.length (fun i u => usub u (PX (d + c) (E.getD i 0))) (fun i u => u.length = c - i) (by omega) (a := syn w c) hsl ?_ ?_
 ·intro i u n2 hi hI
  refine ⟨?_,by unfold usub; simp; omega⟩
  have hp := hE.lt _ (getD_mem 0 hi)
  have e2 : w64 (w64 (((d + c : Nat) : Int) - 1) - ((E.getD i 0 : Nat) : Int)) = ((d + c - 1 - E.getD i 0 : Nat) : Int) := by
   rw [show w64 (((d + c : Nat) : Int) - 1) = ((d + c - 1 : Nat) : Int) by rw [w64_id (by omega) (by omega)]; omega,w64_id (by omega) (by omega)]
   omega
  simp only []
  rw [zs_len,dlt (by omega),cond_true,gd (by omega),Int.toNat_natCast,zs_getD,e2,f108_eq hk _ (by omega)]
  generalize hx : gpow 2 (d + c - 1 - E.getD i 0) = x
  refine lp_rule (fun m y => ∃ (j : Nat) (r : List F8),j + m + 1 = u.length ∧ y = (bs w,zs E,((2 : Int),(d : Int),(c : Int),(f : Int)),((0 : Int),([] : List Int),([] : List Int)),((d + c : Nat) : Int),bs (syn w c),bs r,(i : Int),ofG x,(j : Int)) ∧ r.length = u.length ∧
   (∀ q,q < u.length → r.getD q 0 = if q < j then u.getD (q + 1) 0 ^^^ gmul x (u.getD q 0) else u.getD q 0)) ?_ (m := u.length - 1) ⟨0,u,by omega,rfl,rfl,fun q hq => by rw [if_neg (by omega)]⟩ (by omega)
  rintro m y n3 ⟨j,r,hj,rfl,hr,hg⟩ hn3
  have e3 : w64 ((j : Int) + 1) = ((j + 1 : Nat) : Int) := w64_id (by omega) (by omega)
  simp only [e3]
  rw [bs_len]
  cases m with
  | zero =>
   rw [dge (by omega),cond_false,show w64 ((r.length : Int) - 1) = ((r.length - 1 : Nat) : Int) by rw [w64_id (by omega) (by omega)]; omega,gd (by omega),Int.toNat_natCast,bs_take,w64_id (by omega) (by omega)]
   have : r.take (r.length - 1) = usub u (PX (d + c) (E.getD i 0)) := ext_getD 0 (by unfold usub; simp [hr]) fun q hq => by
    rw [List.length_take] at hq
    unfold usub
    rw [getD_take,if_pos (by omega),hg _ (by omega),if_pos (by omega),map_range_getD _ _ _ _ (by omega),← hx]
   rw [this]
   rfl
  | succ m =>
   rw [dlt (by omega),cond_true,gd (by omega),gd (by omega),Int.toNat_natCast,Int.toNat_natCast,bs_getD,f131_eq hk,gd (by omega),bs_getD,ofG_xor,bs_set]
   refine hn3 m _ (by omega) ⟨j + 1,_,by omega,rfl,by rw [List.length_set,hr],fun q hq => ?_⟩
   rw [getD_set]
   by_cases h1 : j = q
   ·subst h1
    rw [if_pos ⟨rfl,by omega⟩,if_pos (by omega),hg _ (by omega),if_neg (by omega),hg _ hq,if_neg (by omega)]
   ·rw [if_neg (by omega),hg q hq]
    by_cases h2 : q < j
    ·rw [if_pos h2,if_pos (by omega)]
    ·rw [if_neg h2,if_neg (by omega)]
 ·intro n2 _
  have hfold : run (fun i u => usub u (PX (d + c) (E.getD i 0))) 0 E.length (syn w c) = U (d + c) (syn w c) E := run_fold (f := fun u p => usub u (PX (d + c) p)) E (syn w c)
  have hUl := U_len (d + c) E (syn w c)
  rw [hfold]
  have e2 : w64 (Int.tdiv (w64 ((c : Int) - (E.length : Int))) 2) = (((c - E.length) / 2 : Nat) : Int) := by
   rw [show w64 ((c : Int) - (E.length : Int)) = ((c - E.length : Nat) : Int) by rw [w64_id (by omega) (by omega)]; omega,Int.tdiv_eq_ediv_of_nonneg (by omega),w64_id (by omega) (by omega)]
   omega
  simp only []
  rw [zs_len,dge (by omega),cond_false,e2]
  have hsplit : ∀ (A : Int → Option α),(bif decide ((f : Int) < (((c - E.length) / 2 : Nat) : Int)) then A (f : Int) else A (((c - E.length) / 2 : Nat) : Int)) = A ((min f ((c - E.length) / 2) : Nat) : Int) := fun A => by
   by_cases h : f < (c - E.length) / 2
   ·rw [dlt (by omega),cond_true]
    congr 1
    omega
   ·rw [dge (by omega),cond_false]
    congr 1
    omega
  refine (hsplit fun most => lpF _ k (bs w,zs E,((0 : Int),([] : List Int),([] : List Int)),((d + c : Nat) : Int),bs (syn w c),bs (U (d + c) (syn w c) E),most,(0 : Int))).trans ?_
  generalize hmost : min f ((c - E.length) / 2) = most
  have hm4 : most ≤ (c - E.length) / 2 := by omega
  generalize hu : U (d + c) (syn w c) E = u at hUl
  refine lp_rule (fun m x => ∃ v : Nat,v + m = most + 1 ∧ x = (bs w,zs E,((0 : Int),([] : List Int),([] : List Int)),((d + c : Nat) : Int),bs (syn w c),bs u,(most : Int),(v : Int)) ∧
   refFind (refTry (d + c) (syn w c) u E) v m = refFind (refTry (d + c) (syn w c) u E) 0 (most + 1)) ?_ (m := most + 1) ⟨0,by omega,rfl,rfl⟩ (by omega)
  rintro m x n3 ⟨v,hvm,rfl,hf⟩ hn3
  unfold refDec
  rw [hu,← hf]
  cases m with
  | zero =>
   simp only []
   rw [dgt (by omega),cond_false]
   rfl
  | succ m =>
   simp only []
   rw [dle (by omega),cond_true,f161_eq hk (d + c) u v (by omega) (by omega) (by omega)]
   have e3 : w64 ((v : Int) + 1) = ((v + 1 : Nat) : Int) := w64_id (by omega) (by omega)
   rw [e3]
   have hnext : refTry (d + c) (syn w c) u E v = none → n3 (bs w,zs E,((0 : Int),([] : List Int),([] : List Int)),((d + c : Nat) : Int),bs (syn w c),bs u,(most : Int),((v + 1 : Nat) : Int)) =
     K (match refFind (refTry (d + c) (syn w c) u E) v (m + 1) with
      | none => (2,[],[])
      | some (P,y) => (if appl w P y = w then 0 else 1,bs (appl w P y),zs ((List.range (d + c)).filter fun i => (appl w P y).getD i 0 != w.getD i 0))) 0 := fun hnone => by
    have hf2 : refFind (refTry (d + c) (syn w c) u E) (v + 1) m = refFind (refTry (d + c) (syn w c) u E) 0 (most + 1) := by
     have h := hf
     rw [refFind,hnone] at h
     exact h
    rw [hn3 m _ (by omega) ⟨v + 1,by omega,rfl,hf2⟩]
    unfold refDec
    rw [hu,← hf]
    cases refFind (refTry (d + c) (syn w c) u E) v (m + 1) with
    | none => rfl
    | some r => rfl
   cases hg : gauss (hrows u v) v with
   | none =>
    simp only []
    rw [Bool.not_false,cond_true]
    exact hnext (refTry_none (by unfold refLoc; rw [hg]))
   | some l =>
    simp only []
    by_cases hlen : (rts (d + c) v (at0 l)).length = v
    case neg =>
     rw [decide_eq_false hlen,Bool.not_false,cond_true]
     exact hnext (refTry_none (by unfold refLoc; rw [hg]; simp only []; rw [if_neg hlen]))
    have hloc : refLoc (d + c) u v = some (rts (d + c) v (at0 l)) := by unfold refLoc; rw [hg]; simp only []; rw [if_pos hlen]
    have hRn := rts_nodup (d + c) v (at0 l)
    have hRlt : ∀ p ∈ rts (d + c) v (at0 l),p < d + c := fun p hp => rts_lt hp
    rw [decide_eq_true hlen,Bool.not_true,cond_false,zs_len,zs_len,gd (by unfold room; omega),gd (by unfold room; omega),zs_append]
    generalize rts (d + c) v (at0 l) = o at hloc hRn hRlt hlen
    refine lp_run2 (fun i ag => (bs w,zs E,((0 : Int),([] : List Int),([] : List Int)),((d + c : Nat) : Int),bs (syn w c),bs u,(most : Int),(v : Int),zs o,zs (E ++ o),ag,(i : Int))) o.length (fun i ag => ag || E.contains (o.getD i 0)) (fun _ _ => True) (by omega) (a := false) trivial ?_ ?_
    ·intro i ag n4 hi _
     refine ⟨?_,trivial⟩
     simp only []
     rw [zs_len,dlt (by omega),cond_true]
     refine lp_run2 (fun j ag => (bs w,zs E,((0 : Int),([] : List Int),([] : List Int)),((d + c : Nat) : Int),bs (syn w c),bs u,(most : Int),(v : Int),zs o,zs (E ++ o),ag,(i : Int),(j : Int))) E.length (fun j ag => ag || (o.getD i 0 == E.getD j 0)) (fun _ _ => True) (by omega) (a := ag) trivial ?_ ?_
     ·intro j ag n5 hj _
      refine ⟨?_,trivial⟩
      simp only []
      rw [zs_len,dlt (by omega),cond_true,zs_len,w64_id (by omega) (by omega)]
      cases ag
      ·rw [cond_false,gd (by omega),gd (by omega),Int.toNat_natCast,Int.toNat_natCast,zs_getD,zs_getD,Bool.false_or]
       rw [show (((o.getD i 0 : Nat) : Int) == ((E.getD j 0 : Nat) : Int)) = (o.getD i 0 == E.getD j 0) by rw [Bool.eq_iff_iff,beq_iff_eq,beq_iff_eq]; omega]
       rfl
      ·rfl
     ·intro n5 _
      rw [run_any (fun x => o.getD i 0 == x) 0 E ag]
      simp only []
      rw [zs_len,dge (by omega),cond_false,← List.contains_eq_any_beq,w64_id (by omega) (by omega)]
      rfl
    ·intro n4 _
     rw [run_any (fun x => E.contains x) 0 o false,Bool.false_or]
     simp only []
     rw [zs_len,dge (by omega),cond_false]
     by_cases hag : (o.any fun x => E.contains x) = true
     ·rw [hag,cond_true,e3]
      refine hnext (refTry_bad hloc fun hall => ?_)
      rw [List.any_eq_true] at hag
      obtain ⟨p,hp,hp2⟩ := hag
      exact hall p hp (by simpa using hp2)
     ·have hag' : (o.any fun x => E.contains x) = false := by simpa using hag
      have hall : ∀ p ∈ o,p ∉ E := fun p hp hpE => hag (List.any_eq_true.2 ⟨p,hp,by simpa using hpE⟩)
      have hQlt : ∀ p ∈ E ++ o,p < d + c := fun p hp => by
       rcases List.mem_append.1 hp with h | h
       ·exact hE.lt p h
       ·exact hRlt p h
      have hQl : (E ++ o).length ≤ c := by rw [List.length_append]; omega
      have hQd : (E ++ o).Nodup := List.nodup_append.2 ⟨hE.inc.imp fun h => by omega,hRn,fun a ha b hb e => hall b hb (e ▸ ha)⟩
      rw [hag',cond_false,f162_eq hk (d + c) (syn w c) (E ++ o) (by omega) (by omega) hQlt (by omega)]
      have htry := refTry_some (n := d + c) (s := syn w c) (E := E) hloc hall
      have hgY := gauss_Y (n := d + c) (s := syn w c) hQd (by omega)
      cases hgg : gauss (srows (d + c) (syn w c) (E ++ o)) (E ++ o).length with
      | none =>
       rw [hgg] at htry
       simp only []
       rw [Bool.not_false,cond_true,e3]
       exact hnext htry
      | some y =>
       rw [hgg] at htry hgY
       simp only []
       rw [Bool.not_true,cond_false,bs_len,hw,gd (by unfold room; omega)]
       rw [refFind,htry]
       generalize E ++ o = Q at hQlt hQl hQd hgY ⊢
       refine lp_run2 (fun i x => (bs w,((0 : Int),([] : List Int),([] : List Int)),((d + c : Nat) : Int),zs Q,bs y,bs x,(i : Int))) Q.length (fun i w => w.set (Q.getD i 0) (w.getD (Q.getD i 0) 0 ^^^ y.getD i 0)) (fun _ x => x.length = d + c) (by omega) (a := w) hw ?_ ?_
       ·intro i x n5 hi hI
        have hp := hQlt _ (getD_mem 0 hi)
        refine ⟨?_,by rw [List.length_set,hI]⟩
        simp only []
        rw [zs_len,dlt (by omega),cond_true,gd (by omega),Int.toNat_natCast,zs_getD,bs_len,hI,gd (by omega),bs_len,hgY.1,gd (by omega),gd (by omega),Int.toNat_natCast,bs_getD,bs_getD,ofG_xor,bs_set,w64_id (by omega) (by omega)]
        rfl
       ·intro n5 _
        rw [show run (fun i w => w.set (Q.getD i 0) (w.getD (Q.getD i 0) 0 ^^^ y.getD i 0)) 0 Q.length w = appl w Q y from rfl]
        have hal := appl_len w Q y
        simp only []
        generalize appl w Q y = out at hal
        rw [zs_len,dge (by omega),cond_false]
        refine lp_run2 (fun i (x : Int × List Nat) => (bs w,((0 : Int),([] : List Int),([] : List Int)),((d + c : Nat) : Int),bs out,x.1,zs x.2,(i : Int))) (d + c) (fun i (x : Int × List Nat) => if (out.getD i 0 != w.getD i 0) = true then (1,x.2 ++ [i]) else x)
         (fun i x => x.2 = (List.range i).filter (fun i => out.getD i 0 != w.getD i 0) ∧ x.1 = if x.2 = [] then 0 else 1) (by omega) (a := (0,[])) ⟨rfl,rfl⟩ ?_ ?_
        ·rintro i ⟨oc,ch⟩ n6 hi ⟨hI1,hI2⟩
         have hI1 : ch = (List.range i).filter (fun i => out.getD i 0 != w.getD i 0) := hI1
         have hI2 : oc = if ch = [] then 0 else 1 := hI2
         have hcl : ch.length ≤ i := by
          rw [hI1]
          exact Nat.le_trans (List.length_filter_le _ _) (by simp)
         simp only []
         rw [dlt (by omega),cond_true,bs_len,gd (by omega),bs_len,gd (by omega),Int.toNat_natCast,bs_getD,bs_getD,w64_id (by omega) (by omega)]
         by_cases he : out.getD i 0 = w.getD i 0
         ·rw [he,show (ofG (w.getD i 0) != ofG (w.getD i 0)) = false by simp,cond_false,show (w.getD i 0 != w.getD i 0) = false by simp,if_neg (by decide)]
          refine ⟨rfl,?_,hI2⟩
          rw [List.range_succ,List.filter_append,List.filter_cons,he,show (w.getD i 0 != w.getD i 0) = false by simp,if_neg (by decide),List.filter_nil,List.append_nil]
          exact hI1
         ·rw [show (ofG (out.getD i 0) != ofG (w.getD i 0)) = true from bne_iff_ne.2 fun h => he (ofG_inj h),cond_true,zs_len,gd (by simp; unfold room; omega),zs_snoc,if_pos (bne_iff_ne.2 he)]
          refine ⟨rfl,?_,?_⟩
          ·rw [List.range_succ,List.filter_append,List.filter_cons,if_pos (bne_iff_ne.2 he),List.filter_nil,← hI1]
          ·rw [if_neg (by simp)]
        ·rintro n6 ⟨hI1,hI2⟩
         rw [hI1] at hI2
         simp only []
         rw [dge (by omega),cond_false,hI1,hI2]
         congr 2
         have := diff_nil (v := out) (w := w) (by omega) hw
         by_cases he : out = w
         ·rw [if_pos (this.2 he),if_pos he]
         ·rw [if_neg fun h => he (this.1 h),if_neg he]
theorem dec_same (d c f : Nat) (h2 : d ≤ 32) (h4 : c ≤ 8) (w : List F8) (hw : w.length = d + c) (E : List Nat) (hE : ErOk E (d + c) c) :
  progDec (d + c) (min f ((c - E.length) / 2)) (syn w c) w E = refDec (d + c) (min f ((c - E.length) / 2)) (syn w c) w E :=
 dec_eq (by omega) hw hE.inc hE.lt (by rw [syn_len]; exact hE.le) (by rw [syn_len]; omega)
end
def popc (n : Nat) : Nat := ((List.range 8).filter fun j => n.testBit j).length
def by8 (n : Nat) : F8 := BitVec.ofNat 8 n
def c3 (n : Nat) : List F8 := ((List.range n).filter fun i => popc i == 3).map by8
def c5 (n : Nat) : List F8 := ((List.range n).filter fun i => popc i == 5).map by8
def c64 : List F8 := (c3 256).take 56 ++ (c5 256).take 8
def cols : List F8 := c64 ++ (List.range 8).map fun j => 1#8 <<< j
theorem cols_len : cols.length = 72 := by decide +kernel
theorem c3_len : (c3 256).length = 56 := by decide +kernel
theorem c5_len : (c5 256).length ≤ 256 ∧ 8 ≤ (c5 256).length := by decide +kernel
theorem c3_succ (n : Nat) : c3 (n + 1) = if popc n = 3 then c3 n ++ [by8 n] else c3 n := by
 unfold c3
 rw [List.range_succ,List.filter_append,List.map_append,List.filter_cons,List.filter_nil]
 by_cases h : popc n = 3
 ·rw [if_pos h,if_pos (beq_iff_eq.2 h)]
  rfl
 ·rw [if_neg h,if_neg (by simpa using h)]
  simp
theorem c5_succ (n : Nat) : c5 (n + 1) = if popc n = 5 then c5 n ++ [by8 n] else c5 n := by
 unfold c5
 rw [List.range_succ,List.filter_append,List.map_append,List.filter_cons,List.filter_nil]
 by_cases h : popc n = 5
 ·rw [if_pos h,if_pos (beq_iff_eq.2 h)]
  rfl
 ·rw [if_neg h,if_neg (by simpa using h)]
  simp
theorem c3_le (n : Nat) : (c3 n).length ≤ n := by
 unfold c3
 rw [List.length_map]
 exact Nat.le_trans (List.length_filter_le _ _) (by simp)
theorem c5_le (n : Nat) : (c5 n).length ≤ n := by
 unfold c5
 rw [List.length_map]
 exact Nat.le_trans (List.length_filter_le _ _) (by simp)
theorem w8_by8 {i : Nat} (h : i < 256) : w8 (i : Int) = ofG (by8 i) := by
 rw [w8_id (by omega) (by omega)]
 unfold ofG by8
 rw [BitVec.toNat_ofNat]
 omega
theorem bit8 (b : F8) (j : Nat) (h : j < 8) : (bitI .and .u8 (Int.fdiv (ofG b) (2 ^ (min j 8))) 1 == 1) = (b >>> j).getLsbD 0 := by
 have h8 : ∀ (i : Fin 8) (b : F8),(bitI .and .u8 (Int.fdiv (ofG b) (2 ^ (min i.val 8))) 1 == 1) = (b >>> i.val).getLsbD 0 := by decide +kernel
 exact h8 ⟨j,h⟩ b
theorem one8 (j : Nat) (h : j < 8) : w8 (1 * 2 ^ (min j 8)) = ofG (1#8 <<< j) := by
 have h8 : ∀ i : Fin 8,w8 (1 * 2 ^ (min i.val 8)) = ofG (1#8 <<< i.val) := by decide +kernel
 exact h8 ⟨j,h⟩
def hst (w : List F8) (i : Nat) (s : F8) : F8 := if ((w.getD (i / 8) 0) >>> (i % 8)).getLsbD 0 = true then s ^^^ cols.getD i 0 else s
def hsyn (w : List F8) : F8 := run (hst w) 0 (8 * w.length) 0
def hfind (s : F8) : Nat → Nat → Option Nat
 | _,0 => none
 | i,n + 1 => if cols.getD i 0 = s then some i else hfind s (i + 1) n
def hdec (w : List F8) : DT8 × Int := if hsyn w = 0 then ((0,bs w,[]),-1) else match hfind (hsyn w) 0 72 with
 | none => ((2,[],[]),-1)
 | some b => ((1,bs (w.set (b / 8) (w.getD (b / 8) 0 ^^^ 1#8 <<< (b % 8))),[((b / 8 : Nat) : Int)]),(b : Int))
theorem run_shift {A : Type} (g : Nat → A → A) (a : Nat) : ∀ (n i : Nat) (s : A),run (fun k s => g (a + k) s) i n s = run g (a + i) n s
 | 0,_,_ => rfl
 | n + 1,i,s => run_shift g a n (i + 1) (g (a + i) s)
theorem run_add {A : Type} (g : Nat → A → A) : ∀ (m n i : Nat) (s : A),run g i (m + n) s = run g (i + m) n (run g i m s)
 | 0,n,i,s => by rw [Nat.zero_add]; rfl
 | m + 1,n,i,s => by
  rw [show m + 1 + n = (m + n) + 1 by omega,run,run_add g m n (i + 1),run,show i + 1 + m = i + (m + 1) by omega]
theorem run_nest {A : Type} (g : Nat → A → A) (m : Nat) : ∀ (n : Nat) (s : A),run (fun i s => run (fun k s => g (m * i + k) s) 0 m s) 0 n s = run g 0 (m * n) s
 | 0,s => rfl
 | n + 1,s => by
  rw [run_succ,run_nest g m n,Nat.mul_succ,run_add,Nat.zero_add,Nat.zero_add,run_shift,Nat.add_zero]
section
variable {α : Type} {k : Nat}
theorem f144_eq (i : Nat) (h : i < 256) (K : Int → Option α) : f144 k (wu64 (i : Int)) K = K ((popc i : Nat) : Int) := by
 simp only [f144,s144,SumT.leaf,SumT.pre,SumT.seq,SumT.cond,SumT.block,SumT.blockP,SumT.loop,zB]
 simp only [f172,s172,SumT.leaf,SumT.pre,SumT.seq,SumT.cond,SumT.block,SumT.blockP,SumT.loop,zB]
 congr 1
 clear K
 revert i h
 decide +kernel
theorem f164_eq (hk : 10000 ≤ k) (i : Nat) (h : i < 256) (K : Int → Option α) : f164 k (i : Int) K = K ((popc i : Nat) : Int) := by
 simp only [f164,s164,SumT.leaf,SumT.pre,SumT.seq,SumT.cond,SumT.block,SumT.blockP,SumT.loop,zB]
 have key : ∀ b : Nat,b < 256 → b ≠ 0 → bitI .and .i64 (b : Int) (w64 ((b : Int) - 1)) = ((b &&& (b - 1) : Nat) : Int) ∧ (b &&& (b - 1)) < b ∧ popc (b &&& (b - 1)) + 1 = popc b := by decide +kernel
 have hp : ∀ b : Nat,b < 256 → popc b ≤ 8 := by decide +kernel
 refine lp_rule (fun m x => ∃ b n : Nat,b ≤ m ∧ m < 256 ∧ x = ((b : Int),(n : Int)) ∧ popc b + n = popc i) ?_ (m := i) ⟨i,0,Nat.le_refl _,h,rfl,rfl⟩ (by omega)
 rintro m x n' ⟨b,n,hb,hm,rfl,hn⟩ hn'
 have h8 := hp i h
 by_cases h0 : b = 0
 ·subst h0
  have : popc 0 = 0 := by decide
  rw [this,Nat.zero_add] at hn
  rw [← hn]
  rfl
 ·obtain ⟨e1,e2,e3⟩ := key b (by omega) h0
  simp only [e1]
  rw [show (((b : Nat) : Int) != 0) = true from bne_iff_ne.2 (by omega),cond_true,w64_id (by omega) (by omega)]
  exact hn' (m - 1) _ (by omega) ⟨b &&& (b - 1),n + 1,by omega,by omega,rfl,by omega⟩
theorem pow_loop (c : List F8) (hc : c.length = 64) : run (fun j (l : List F8) => l ++ [1#8 <<< j]) 0 8 c = c ++ (List.range 8).map fun j => 1#8 <<< j := run_snoc _ _ _
theorem f119_eq (hk : 10000 ≤ k) (K : List Int → Option α) : f119 k K = K (bs cols) := by
 simp only [f119,s119,SumT.leaf,SumT.pre,SumT.seq,SumT.cond,SumT.block,SumT.blockP,SumT.loop,zB]
 refine lp_run2 (fun i (x : List F8 × List F8) => (bs x.1,bs x.2,([] : List Int),(i : Int))) 256 (fun i x => (if popc i = 3 then x.1 ++ [by8 i] else x.1,if popc i = 5 then x.2 ++ [by8 i] else x.2)) (fun i x => x = (c3 i,c5 i)) (by omega) (a := ([],[])) rfl ?_ ?_
 ·rintro i x n hi rfl
  have h3 := c3_le i
  have h5 := c5_le i
  refine ⟨?_,by rw [c3_succ,c5_succ]⟩
  simp only []
  rw [dlt (by omega),cond_true,f144_eq i hi,w8_by8 hi,w64_id (by omega) (by omega)]
  by_cases e3 : popc i = 3
  ·rw [e3,show (((3 : Nat) : Int) == 3) = true from rfl,cond_true,bs_len,gd (by simp; unfold room; omega),bs_snoc2,if_pos rfl,if_neg (by decide)]
   rfl
  ·rw [show (((popc i : Nat) : Int) == 3) = false from beq_eq_false_iff_ne.2 (by omega),cond_false,if_neg e3]
   by_cases e5 : popc i = 5
   ·rw [e5,show (((5 : Nat) : Int) == 5) = true from rfl,cond_true,bs_len,gd (by simp; unfold room; omega),bs_snoc2,if_pos rfl]
    rfl
   ·rw [show (((popc i : Nat) : Int) == 5) = false from beq_eq_false_iff_ne.2 (by omega),cond_false,if_neg e5]
    rfl
 ·intro n hI
  rw [hI]
  have h3 := c3_len
  obtain ⟨h5a,h5b⟩ := c5_len
  simp only []
  rw [dge (by omega),cond_false,bs_len,h3,gd (by omega),bs_take,bs_len,List.length_take,h3,gd (by simp; unfold room; omega),List.nil_append,bs_len,gd (by omega),bs_take,bs_len,bs_len,List.length_take,List.length_take,gd (by unfold room; omega),bs_append]
  have h64 : ((c3 256).take 56 ++ (c5 256).take 8).length = 64 := by rw [List.length_append,List.length_take,List.length_take]; omega
  refine lp_run2 (fun j l => (bs l,(j : Int))) 8 (fun j (l : List F8) => l ++ [1#8 <<< j]) (fun j l => l.length = 64 + j) (by omega) (a := (c3 256).take 56 ++ (c5 256).take 8) h64 ?_ ?_
  ·intro j l n2 hj hI2
   refine ⟨?_,by rw [List.length_append,hI2]; rfl⟩
   simp only []
   rw [dlt (by omega),cond_true,gd (by omega),Int.toNat_natCast,one8 j hj,bs_len,hI2,gd (by simp; unfold room; omega),bs_snoc2,w64_id (by omega) (by omega)]
   rfl
  ·intro n2 _
   rw [pow_loop _ h64]
   rfl
theorem c5_88 : (∀ i,i < 88 → (c5 i).length < 8) ∧ c5 88 = (c5 256).take 8 ∧ c3 256 = (c3 256).take 56 := by decide +kernel
theorem f134_eq (hk : 10000 ≤ k) (K : List Int → Option α) : f134 k K = K (bs cols) := by
 simp only [f134,s134,SumT.leaf,SumT.pre,SumT.seq,SumT.cond,SumT.block,SumT.blockP,SumT.loop,zB]
 refine lp_run2 (fun i l => (bs l,(i : Int))) 256 (fun i (l : List F8) => if popc i = 3 then l ++ [by8 i] else l) (fun i l => l = c3 i) (by omega) (a := []) rfl ?_ ?_
 ·rintro i l n hi rfl
  have h3 := c3_le i
  refine ⟨?_,by rw [c3_succ]⟩
  simp only []
  rw [dlt (by omega),cond_true,f164_eq hk i hi,w8_by8 hi,w64_id (by omega) (by omega)]
  by_cases e3 : popc i = 3
  ·rw [e3,show (((3 : Nat) : Int) == 3) = true from rfl,cond_true,bs_len,gd (by simp; unfold room; omega),bs_snoc2,if_pos rfl]
   rfl
  ·rw [show (((popc i : Nat) : Int) == 3) = false from beq_eq_false_iff_ne.2 (by omega),cond_false,if_neg e3]
   rfl
 ·intro n hI
  rw [hI]
  have h3 := c3_len
  obtain ⟨h88,h88b,h88c⟩ := c5_88
  simp only []
  rw [dge (by omega),cond_false]
  refine lp_run2 (fun i l => (bs l,(i : Int))) 88 (fun i (l : List F8) => if popc i = 5 then l ++ [by8 i] else l) (fun i l => l = c3 256 ++ c5 i) (by omega) (a := c3 256) (by simp [c5]) ?_ ?_
  ·rintro i l n2 hi rfl
   have h5 := h88 i hi
   refine ⟨?_,by rw [c5_succ]; split <;> simp⟩
   simp only []
   rw [bs_len,List.length_append,h3,dlt (by omega),cond_true,f164_eq hk i (by omega),w8_by8 (by omega),w64_id (by omega) (by omega)]
   by_cases e3 : popc i = 5
   ·rw [e3,show (((5 : Nat) : Int) == 5) = true from rfl,cond_true,gd (by simp; unfold room; omega),bs_snoc2,if_pos rfl]
    rfl
   ·rw [show (((popc i : Nat) : Int) == 5) = false from beq_eq_false_iff_ne.2 (by omega),cond_false,if_neg e3]
    rfl
  ·intro n2 hI2
   rw [hI2,h88b]
   have h64 : (c3 256 ++ (c5 256).take 8).length = 64 := by rw [List.length_append,h3,List.length_take]; have := c5_len.2; omega
   simp only []
   rw [bs_len,h64,dge (by omega),cond_false]
   refine lp_run2 (fun j l => (bs l,(j : Int))) 8 (fun j (l : List F8) => l ++ [1#8 <<< j]) (fun j l => l.length = 64 + j) (by omega) (a := c3 256 ++ (c5 256).take 8) h64 ?_ ?_
   ·intro j l n3 hj hI3
    refine ⟨?_,by rw [List.length_append,hI3]; rfl⟩
    simp only []
    rw [dlt (by omega),cond_true,wu64_id (by omega) (by omega),gd (by omega),Int.toNat_natCast,one8 j hj,bs_len,hI3,gd (by simp; unfold room; omega),bs_snoc2,w64_id (by omega) (by omega)]
    rfl
   ·intro n3 _
    rw [pow_loop _ h64,h88c]
    rfl
theorem f120_eq (hk : 10000 ≤ k) (w : List F8) (hw : w.length ≤ 9) (K : Int → Option α) : f120 k (bs w) (bs cols) K = K (ofG (hsyn w)) := by
 simp only [f120,s120,SumT.leaf,SumT.pre,SumT.seq,SumT.cond,SumT.block,SumT.blockP,SumT.loop,zB]
 have hc := cols_len
 have e1 : w64 (8 * ((bs w).length : Int)) = ((8 * w.length : Nat) : Int) := by
  rw [bs_len,w64_id (by omega) (by omega)]
  omega
 simp only [e1]
 rw [bs_len,hc,gd (by omega),Int.toNat_natCast,bs_take,bs_len,List.length_take,hc,show min (8 * w.length) 72 = 8 * w.length by omega]
 refine lp_run2 (fun i s => (bs w,ofG s,bs (cols.take (8 * w.length)),((8 * w.length : Nat) : Int),(i : Int))) (8 * w.length) (hst w) (fun _ _ => True) (by omega) (a := 0) trivial ?_ ?_
 ·intro i s n hi _
  refine ⟨?_,trivial⟩
  have e2 : w64 (Int.tdiv (i : Int) 8) = ((i / 8 : Nat) : Int) := by
   rw [Int.tdiv_eq_ediv_of_nonneg (by omega),w64_id (by omega) (by omega)]
   omega
  have e3 : Int.tmod (i : Int) 8 = ((i % 8 : Nat) : Int) := by
   rw [Int.tmod_eq_emod_of_nonneg (by omega)]
   omega
  simp only [e2,e3]
  rw [dlt (by omega),cond_true,bs_len,List.length_take,hc,gd (by omega),bs_len,gd (by omega),gd (by omega),Int.toNat_natCast,Int.toNat_natCast,Int.toNat_natCast,bs_getD,bs_getD,bit8 _ _ (by omega),getD_take,if_pos hi,w64_id (by omega) (by omega)]
  unfold hst
  cases hb : ((w.getD (i / 8) 0) >>> (i % 8)).getLsbD 0
  ·rfl
  ·rw [cond_true,if_pos rfl,ofG_xor]
   rfl
 ·intro n _
  simp only []
  rw [dge (by omega),cond_false]
  rfl
theorem f111_eq (hk : 10000 ≤ k) (w : List F8) (hw : w.length ≤ 9) (K : Int → Option α) : f111 k (bs w) K = K (ofG (hsyn w)) := by
 simp only [f111,s111,SumT.leaf,SumT.pre,SumT.seq,SumT.cond,SumT.block,SumT.blockP,SumT.loop,zB]
 rw [f134_eq hk]
 have hc := cols_len
 refine lp_run2 (fun i s => (bs w,bs cols,ofG s,(i : Int))) w.length (fun i s => run (fun j s => hst w (8 * i + j) s) 0 8 s) (fun _ _ => True) (by omega) (a := 0) trivial ?_ ?_
 ·intro i s n hi _
  refine ⟨?_,trivial⟩
  simp only []
  rw [bs_len,dlt (by omega),cond_true]
  refine lp_run2 (fun j s => (bs w,bs cols,ofG s,(i : Int),(j : Int))) 8 (fun j s => hst w (8 * i + j) s) (fun _ _ => True) (by omega) (a := s) trivial ?_ ?_
  ·intro j s n2 hj _
   refine ⟨?_,trivial⟩
   have e2 : w64 (w64 (8 * (i : Int)) + (j : Int)) = ((8 * i + j : Nat) : Int) := by
    rw [show w64 (8 * (i : Int)) = 8 * (i : Int) from w64_id (by omega) (by omega),w64_id (by omega) (by omega)]
    omega
   simp only [e2]
   rw [dlt (by omega),cond_true,bs_len,gd (by omega),wu64_id (by omega) (by omega),gd (by omega),Int.toNat_natCast,Int.toNat_natCast,bs_getD,bit8 _ _ hj,bs_len,hc,gd (by omega),Int.toNat_natCast,bs_getD,w64_id (by omega) (by omega)]
   unfold hst
   rw [show (8 * i + j) / 8 = i by omega,show (8 * i + j) % 8 = j by omega]
   cases hb : ((w.getD i 0) >>> j).getLsbD 0
   ·rfl
   ·rw [cond_true,if_pos rfl,ofG_xor]
    rfl
  ·intro n2 _
   simp only []
   rw [dge (by omega),cond_false,w64_id (by omega) (by omega)]
   rfl
 ·intro n _
  rw [run_nest (hst w) 8 w.length]
  simp only []
  rw [bs_len,dge (by omega),cond_false]
  rfl
theorem f114_eq (hk : 10000 ≤ k) (w : List F8) (hw : w.length = 8) (K : Int → Int → Option α) : f114 k (bs w) K = K (ofG (hsyn w)) 0 := by
 simp only [f114,s114,SumT.leaf,SumT.pre,SumT.seq,SumT.cond,SumT.block,SumT.blockP,SumT.loop,zB]
 rw [bs_len,hw,f119_eq hk,f120_eq hk w (by omega)]
 rfl
theorem f90_eq (hk : 10000 ≤ k) (w : List F8) (hw : w.length = 8) (K : Int → Int → Option α) : f90 k (bs w) K = K (ofG (hsyn w)) 0 := by
 simp only [f90,s90,SumT.leaf,SumT.pre,SumT.seq,SumT.cond,SumT.block,SumT.blockP,SumT.loop,zB]
 rw [bs_len,hw,f111_eq hk w (by omega)]
 rfl
theorem f103_eq (hk : 10000 ≤ k) (w : List F8) (hw : w.length = 9) (K : DT8 → Int → Int → Option α) : f103 k (bs w) K = K (hdec w).1 (hdec w).2 0 := by
 simp only [f103,s103,SumT.leaf,SumT.pre,SumT.seq,SumT.cond,SumT.block,SumT.blockP,SumT.loop,zB]
 unfold cloneF hdec
 have hc := cols_len
 rw [bs_len,hw,show (((9 : Nat) : Int) != 9) = false from rfl,cond_false,f119_eq hk,f120_eq hk w (by omega)]
 by_cases h0 : hsyn w = 0
 ·rw [h0,show (ofG 0 == (0 : Int)) = true from rfl,cond_true,if_pos rfl,gd (by unfold room; omega)]
 ·rw [show (ofG (hsyn w) == (0 : Int)) = false from beq_eq_false_iff_ne.2 fun h => h0 (ofG_eq_zero.1 h),cond_false,if_neg h0]
  simp only [f121,s121,SumT.leaf,SumT.pre,SumT.seq,SumT.cond,SumT.block,SumT.blockP,SumT.loop,zB]
  rw [bs_len cols,hc]
  refine lp_rule (fun m x => ∃ i : Nat,i + m = 72 ∧ x = (bs cols,ofG (hsyn w),((72 : Nat) : Int),(i : Int)) ∧ hfind (hsyn w) i m = hfind (hsyn w) 0 72) ?_ (m := 72) ⟨0,by omega,rfl,rfl⟩ (by omega)
  rintro m x n ⟨i,hi,rfl,hf⟩ hn
  cases m with
  | zero =>
   rw [← hf]
   simp only []
   rw [dge (by omega),cond_false]
   rfl
  | succ m =>
   simp only []
   rw [dlt (by omega),cond_true,bs_len,hc,gd (by omega),Int.toNat_natCast,bs_getD]
   rw [hfind] at hf
   by_cases he : cols.getD i 0 = hsyn w
   ·rw [if_pos he] at hf
    have e2 : w64 (Int.tdiv (i : Int) 8) = ((i / 8 : Nat) : Int) := by
     rw [Int.tdiv_eq_ediv_of_nonneg (by omega),w64_id (by omega) (by omega)]
     omega
    have e3 : Int.tmod (i : Int) 8 = ((i % 8 : Nat) : Int) := by
     rw [Int.tmod_eq_emod_of_nonneg (by omega)]
     omega
    have hbl : (bs w).length = 9 := by rw [bs_len,hw]
    rw [← he,beq_self_eq_true,cond_true,dge (by omega),cond_false,gd (by unfold room; omega),e2,e3,gd (by omega),gd (by omega),gd (by omega),Int.toNat_natCast,Int.toNat_natCast,bs_getD,one8 _ (by omega),ofG_xor,bs_set,he,← hf]
   ·rw [if_neg he] at hf
    rw [show (ofG (hsyn w) == ofG (cols.getD i 0)) = false from beq_eq_false_iff_ne.2 fun h => he (ofG_inj h.symm),cond_false,w64_id (by omega) (by omega)]
    exact hn m _ (by omega) ⟨i + 1,by omega,rfl,hf⟩
theorem f129_eq (hk : 10000 ≤ k) (w : List F8) (hw : w.length = 9) (K : DT8 → Int → Int → Option α) : f129 k (bs w) K = K (hdec w).1 (hdec w).2 0 := by
 simp only [f129,s129,SumT.leaf,SumT.pre,SumT.seq,SumT.cond,SumT.block,SumT.blockP,SumT.loop,zB]
 simp only [f163,s163,SumT.leaf,SumT.pre,SumT.seq,SumT.cond,SumT.block,SumT.blockP,SumT.loop,zB]
 unfold hdec
 have hc := cols_len
 rw [bs_len,hw,show (((9 : Nat) : Int) != 9) = false from rfl,cond_false,f111_eq hk w (by omega),show ((0 : Int) != 0) = false from rfl,cond_false,gd (by unfold room; omega)]
 by_cases h0 : hsyn w = 0
 ·rw [h0,show (ofG 0 == (0 : Int)) = true from rfl,cond_true,if_pos rfl]
 ·rw [show (ofG (hsyn w) == (0 : Int)) = false from beq_eq_false_iff_ne.2 fun h => h0 (ofG_eq_zero.1 h),cond_false,if_neg h0,f134_eq hk]
  refine lp_rule (fun m x => ∃ i : Nat,i + m = 72 ∧ x = (((0 : Int),([] : List Int),([] : List Int)),ofG (hsyn w),bs w,bs cols,(i : Int)) ∧ hfind (hsyn w) i m = hfind (hsyn w) 0 72) ?_ (m := 72) ⟨0,by omega,rfl,rfl⟩ (by omega)
  rintro m x n ⟨i,hi,rfl,hf⟩ hn
  cases m with
  | zero =>
   rw [← hf]
   simp only []
   rw [dge (by omega),cond_false]
   rfl
  | succ m =>
   simp only []
   rw [dlt (by omega),cond_true,bs_len,hc,gd (by omega),Int.toNat_natCast,bs_getD]
   rw [hfind] at hf
   by_cases he : cols.getD i 0 = hsyn w
   ·rw [if_pos he] at hf
    have e2 : w64 (Int.tdiv (i : Int) 8) = ((i / 8 : Nat) : Int) := by
     rw [Int.tdiv_eq_ediv_of_nonneg (by omega),w64_id (by omega) (by omega)]
     omega
    have e3 : wu64 (Int.tmod (i : Int) 8) = ((i % 8 : Nat) : Int) := by
     rw [Int.tmod_eq_emod_of_nonneg (by omega),wu64_id (by omega) (by omega)]
     omega
    rw [he,beq_self_eq_true,cond_true,bs_len,hw,e2,e3,gd (by omega),gd (by omega),gd (by omega),Int.toNat_natCast,Int.toNat_natCast,bs_getD,one8 _ (by omega),ofG_xor,bs_set,← hf]
   ·rw [if_neg he] at hf
    rw [show (ofG (cols.getD i 0) == ofG (hsyn w)) = false from beq_eq_false_iff_ne.2 fun h => he (ofG_inj h),cond_false,w64_id (by omega) (by omega)]
    exact hn m _ (by omega) ⟨i + 1,by omega,rfl,hf⟩
end
end Go.Proofs.YtkeiedikiiccpaaGreatDoor.Am
