/- The plain law: the program and the reference answer alike. -/
import Derived.Test.YtkeiedikiiccpaaGreatDoorL4
set_option linter.all false
namespace Go.Proofs.YtkeiedikiiccpaaGreatDoor.Am
open Go
structure BM where
 now : List F8
 old : List F8
 L : Nat
 gap : Nat
 last : F8
def dis (s now : List F8) (kk : Nat) : F8 := run (fun i d => if i ≤ kk then d ^^^ gmul (now.getD i 0) (s.getD (kk - i) 0) else d) 0 now.length 0
def bmNext (now old : List F8) (gap : Nat) (t : F8) : List F8 := paddAt (now ++ List.replicate (gap + old.length - now.length) 0) old t gap
def bm1 (s : List F8) (kk : Nat) (b : BM) : BM :=
 if dis s b.now kk = 0 then { b with gap := b.gap + 1 }
 else if 2 * b.L > kk then { b with now := bmNext b.now b.old b.gap (gmul (dis s b.now kk) (ginv b.last)),gap := b.gap + 1 }
 else { now := bmNext b.now b.old b.gap (gmul (dis s b.now kk) (ginv b.last)),old := b.now,L := kk + 1 - b.L,gap := 1,last := dis s b.now kk }
def bm0 : BM := { now := [1],old := [1],L := 0,gap := 1,last := 1 }
def bmAt (s : List F8) (n : Nat) : BM := run (bm1 s) 0 n bm0
theorem bmAt_succ (s : List F8) (n : Nat) : bmAt s (n + 1) = bm1 s n (bmAt s n) := by
 unfold bmAt
 rw [run_succ,Nat.zero_add]
def shortest (s : List F8) : List F8 := ((bmAt s s.length).now ++ List.replicate ((bmAt s s.length).L + 1 - (bmAt s s.length).now.length) 0).take ((bmAt s s.length).L + 1)
abbrev at0 (l : List F8) : Nat → F8 := fun i => l.getD i 0
theorem run_gsum (f : Nat → F8) (kk : Nat) : ∀ n,n ≤ kk + 1 → run (fun i d => if i ≤ kk then d ^^^ f i else d) 0 n 0 = gsum n f
 | 0,_ => rfl
 | n + 1,h => by rw [run_succ,run_gsum f kk n (by omega),Nat.zero_add,if_pos (by omega)]; rfl
theorem dis_gsum {s now : List F8} {L kk : Nat} (h : now.length ≤ L + 1) (hl : L ≤ kk) : dis s now kk = gsum (L + 1) fun j => gmul (at0 now j) (at0 s (kk - j)) := by
 unfold dis
 rw [run_gsum _ _ _ (by omega),gsum_ext (n := now.length) (m := L + 1) h]
 intro i h1 h2
 show gmul (now.getD i 0) _ = 0
 rw [getD_ge _ _ _ h1,zero_gmul]
theorem bmNext_len (now old : List F8) (gap : Nat) (t : F8) : (bmNext now old gap t).length = max now.length (gap + old.length) := by
 unfold bmNext
 rw [paddAt_len,List.length_append,List.length_replicate]
 omega
theorem bmNext_getD (now old : List F8) (gap : Nat) (t : F8) (j : Nat) : at0 (bmNext now old gap t) j = at0 now j ^^^ (if gap ≤ j then gmul t (at0 old (j - gap)) else 0) := by
 show (bmNext now old gap t).getD j 0 = _
 unfold bmNext
 rw [paddAt_getD _ _ _ _ _ (by rw [List.length_append,List.length_replicate]; omega),getD_append,getD_rep]
 have h1 : (if j < now.length then now.getD j 0 else 0) = at0 now j := by
  split
  ·rfl
  ·exact (getD_ge _ _ _ (by omega)).symm
 rw [h1]
 congr 1
 by_cases h2 : gap ≤ j
 ·rw [if_pos h2]
  by_cases h3 : j < gap + old.length
  ·rw [if_pos ⟨h2,h3⟩]
  ·rw [if_neg (by omega),show at0 old (j - gap) = 0 from getD_ge _ _ _ (by omega),gmul_zero]
 ·rw [if_neg (by omega),if_neg h2]
structure BMI (s : List F8) (kk : Nat) (b : BM) : Prop where
 now0 : at0 b.now 0 = 1
 nowl : b.now.length ≤ b.L + 1
 Lk : b.L ≤ kk
 gen : Gn (at0 s) (at0 b.now) b.L kk
 lne : b.last ≠ 0
 alt : (b.L = 0 ∧ b.old = [1] ∧ b.gap = kk + 1) ∨ ∃ kB LB,b.old.length ≤ LB + 1 ∧ Gn (at0 s) (at0 b.old) LB kB ∧ LB ≤ kB ∧
  gsum (LB + 1) (fun j => gmul (at0 b.old j) (at0 s (kB - j))) = b.last ∧ kB < kk ∧ b.gap + kB = kk ∧ b.L + LB = kB + 1
theorem bmi0 (s : List F8) : BMI s 0 bm0 := ⟨rfl,Nat.le_refl _,Nat.le_refl _,fun i _ h => by omega,by decide,.inl ⟨rfl,rfl,rfl⟩⟩
theorem next_sum {s now old : List F8} {gap L L' i LB : Nat} (t : F8) (hn : now.length ≤ L + 1) (hL : L ≤ L') (ho : old.length ≤ LB + 1) (hg : gap + LB ≤ L') :
  gsum (L' + 1) (fun j => gmul (at0 (bmNext now old gap t) j) (at0 s (i - j))) = gsum (L + 1) (fun j => gmul (at0 now j) (at0 s (i - j))) ^^^ gmul t (gsum (LB + 1) fun j => gmul (at0 old j) (at0 s (i - gap - j))) := by
 rw [show gsum (L' + 1) (fun j => gmul (at0 (bmNext now old gap t) j) (at0 s (i - j))) = gsum (L' + 1) (fun j => gmul (at0 now j) (at0 s (i - j)) ^^^ (if gap ≤ j then gmul t (gmul (at0 old (j - gap)) (at0 s (i - gap - (j - gap)))) else 0)) from gsum_congr fun j _ => by
  rw [bmNext_getD,add_gmul]
  congr 1
  split
  ·rw [gmul_assoc]
   congr 3
   omega
  ·rw [zero_gmul],gsum_add]
 congr 1
 ·refine gsum_ext (by omega) fun j h1 h2 => ?_
  rw [show at0 now j = 0 from getD_ge _ _ _ (by omega),zero_gmul]
 ·rw [show L' + 1 = gap + (L' + 1 - gap) by omega,gsum_shift (fun j => gmul t (gmul (at0 old j) (at0 s (i - gap - j)))),gsum_mul]
  congr 1
  refine gsum_ext (by omega) fun j h1 h2 => ?_
  rw [show at0 old j = 0 from getD_ge _ _ _ (by omega),zero_gmul]
theorem bmi_step {s : List F8} {kk : Nat} {b : BM} (h : BMI s kk b) : BMI s (kk + 1) (bm1 s kk b) := by
 have hd := dis_gsum (s := s) h.nowl h.Lk
 unfold bm1
 by_cases h0 : dis s b.now kk = 0
 ·rw [if_pos h0]
  refine ⟨h.now0,h.nowl,by have := h.Lk; show b.L ≤ kk + 1; omega,fun i h1 h2 => ?_,h.lne,?_⟩
  ·by_cases e : i = kk
   ·subst e
    rw [← hd,h0]
   ·exact h.gen i h1 (by omega)
  ·rcases h.alt with ⟨h1,h2,h3⟩ | ⟨kB,LB,h1,h2,h3,h4,h5,h6,h7⟩
   ·exact .inl ⟨h1,h2,by show b.gap + 1 = _; omega⟩
   ·exact .inr ⟨kB,LB,h1,h2,h3,h4,by omega,by show b.gap + 1 + kB = _; omega,h7⟩
 ·rw [if_neg h0]
  have hnow : ∀ t,at0 (bmNext b.now b.old b.gap t) 0 = 1 := fun t => by
   rw [bmNext_getD,h.now0,if_neg,x0]
   rcases h.alt with ⟨_,_,h3⟩ | ⟨kB,LB,_,_,_,_,h5,h6,_⟩ <;> omega
  by_cases h2L : 2 * b.L > kk
  ·rw [if_pos h2L]
   have hLk := h.Lk
   rcases h.alt with ⟨h1,_,_⟩ | ⟨kB,LB,h1,h2,h3,h4,h5,h6,h7⟩
   ·omega
   refine ⟨hnow _,?_,by show b.L ≤ kk + 1; omega,fun i hi1 hi2 => ?_,h.lne,.inr ⟨kB,LB,h1,h2,h3,h4,by omega,by show b.gap + 1 + kB = _; omega,h7⟩⟩
   ·show (bmNext _ _ _ _).length ≤ b.L + 1
    rw [bmNext_len]
    have := h.nowl
    omega
   ·have hi1 : b.L ≤ i := hi1
    show gsum (b.L + 1) _ = 0
    rw [next_sum _ h.nowl (Nat.le_refl _) h1 (by omega)]
    by_cases e : i = kk
    ·subst e
     rw [← hd,show i - b.gap = kB by omega,h4,gmul_assoc,ginv_gmul h.lne,gmul_one,xx]
    ·rw [h.gen i hi1 (by omega),h2 (i - b.gap) (by omega) (by omega),gmul_zero,xx]
  ·rw [if_neg h2L]
   have hLk := h.Lk
   refine ⟨hnow _,?_,by show kk + 1 - b.L ≤ kk + 1; omega,fun i hi1 hi2 => ?_,h0,.inr ⟨kk,b.L,h.nowl,h.gen,h.Lk,hd.symm,by omega,by show 1 + kk = _; omega,by show kk + 1 - b.L + b.L = _; omega⟩⟩
   ·show (bmNext _ _ _ _).length ≤ kk + 1 - b.L + 1
    rw [bmNext_len]
    have := h.nowl
    rcases h.alt with ⟨h1,h2,h3⟩ | ⟨kB,LB,h1,h2,h3,h4,h5,h6,h7⟩
    ·rw [h2,h3]
     simp
     omega
    ·omega
   ·have hi1 : kk + 1 - b.L ≤ i := hi1
    show gsum (kk + 1 - b.L + 1) _ = 0
    rcases h.alt with ⟨h1,_,_⟩ | ⟨kB,LB,h1,h2,h3,h4,h5,h6,h7⟩
    ·omega
    rw [next_sum _ h.nowl (by omega) h1 (by omega)]
    by_cases e : i = kk
    ·subst e
     rw [← hd,show i - b.gap = kB by omega,h4,gmul_assoc,ginv_gmul h.lne,gmul_one,xx]
    ·rw [h.gen i (by omega) (by omega),h2 (i - b.gap) (by omega) (by omega),gmul_zero,xx]
theorem bmi_at (s : List F8) : ∀ n,BMI s n (bmAt s n)
 | 0 => bmi0 s
 | n + 1 => by rw [bmAt_succ]; exact bmi_step (bmi_at s n)
theorem bmi_least {s : List F8} {kk : Nat} {b : BM} (h : BMI s kk b) : Least (at0 s) kk b.L := fun C' L' h0 hg => by
 rcases h.alt with ⟨h1,_,_⟩ | ⟨kB,LB,h1,h2,h3,h4,h5,h6,h7⟩
 ·omega
 ·have := massey h2 (by rw [h4]; exact h.lne) (hg.le (by omega : kB + 1 ≤ kk)) h0
  omega
theorem shortest_spec (s : List F8) : ∃ L,(shortest s).length = L + 1 ∧ L ≤ s.length ∧ at0 (shortest s) 0 = 1 ∧ Gn (at0 s) (at0 (shortest s)) L s.length ∧ Least (at0 s) s.length L := by
 have h := bmi_at s s.length
 have hl := h.nowl
 have hg : ∀ j,j ≤ (bmAt s s.length).L → at0 (shortest s) j = at0 (bmAt s s.length).now j := fun j hj => by
  show (shortest s).getD j 0 = _
  unfold shortest
  rw [getD_take,if_pos (by omega),getD_append,getD_rep]
  split
  ·rfl
  ·exact (getD_ge _ _ _ (by omega)).symm
 refine ⟨(bmAt s s.length).L,?_,h.Lk,?_,fun i h1 h2 => ?_,bmi_least h⟩
 ·unfold shortest
  rw [List.length_take,List.length_append,List.length_replicate]
  omega
 ·rw [hg 0 (by omega),h.now0]
 ·rw [← h.gen i h1 h2]
  exact gsum_congr fun j hj => by rw [hg j (by omega)]
theorem bmi_gap {s : List F8} {kk : Nat} {b : BM} (h : BMI s kk b) : b.gap ≤ kk + 1 ∧ b.old.length ≤ kk + 1 ∧ 1 ≤ b.gap := by
 rcases h.alt with ⟨h1,h2,h3⟩ | ⟨kB,LB,h1,h2,h3,h4,h5,h6,h7⟩
 ·rw [h2,h3]
  simp
 ·omega
section
variable {α : Type} {k : Nat}
theorem f149_eq (hk : 10000 ≤ k) (s : List F8) (hs : s.length < 100) (K : List Int → Option α) : f149 k (bs s) K = K (bs (shortest s)) := by
 simp only [f149,s149,SumT.leaf,SumT.pre,SumT.seq,SumT.cond,SumT.block,SumT.blockP,SumT.loop,zB]
 rw [bs_len,show (bs s,([1] : List Int),([1] : List Int),(0 : Int),(1 : Int),(1 : Int),(s.length : Int),(0 : Int)) = (bs s,bs bm0.now,bs bm0.old,(bm0.L : Int),(bm0.gap : Int),ofG bm0.last,(s.length : Int),((0 : Nat) : Int)) from rfl]
 refine lp_run2 (j := k) (fun i b => (bs s,bs b.now,bs b.old,(b.L : Int),(b.gap : Int),ofG b.last,(s.length : Int),(i : Int))) s.length (bm1 s) (fun i b => BMI s i b) (by omega) (a := bm0) (bmi0 s) ?_ ?_
 ·intro kk b n hkk hI
  refine ⟨?_,bmi_step hI⟩
  have hnl := hI.nowl
  have hLk := hI.Lk
  obtain ⟨hg1,hg2,hg3⟩ := bmi_gap hI
  simp only []
  rw [dlt (by omega),cond_true,bs_len]
  refine lp_run2 (fun i d => (bs s,bs b.now,bs b.old,(b.L : Int),(b.gap : Int),ofG b.last,(kk : Int),ofG d,(s.length : Int),(kk : Int),(b.now.length : Int),(i : Int))) b.now.length
   (fun i d => if i ≤ kk then d ^^^ gmul (b.now.getD i 0) (s.getD (kk - i) 0) else d) (fun _ _ => True) (by omega) (a := 0) trivial ?_ ?_
  ·intro i d n2 hi _
   refine ⟨?_,trivial⟩
   have e1 : w64 ((kk : Int) - (i : Int)) = ((kk - i : Nat) : Int) := by
    rw [w64_id (by omega) (by omega)]
    omega
   simp (disch := omega) only [gd,w64_id,wu64_id,room,Int.toNat_natCast,bs_len,List.length_set,List.length_append,List.length_replicate,List.length_cons,List.length_nil,bs_getD,bs_set,ofG_xor,cond_true,cond_false,dlt,dge,dle,dgt,Bool.not_true,Bool.not_false,e1,f146_eq hk]
   rw [if_pos (by omega)]
   rfl
  ·intro n2 _
   rw [show run (fun i d => if i ≤ kk then d ^^^ gmul (b.now.getD i 0) (s.getD (kk - i) 0) else d) 0 b.now.length 0 = dis s b.now kk from rfl]
   unfold bm1
   simp only []
   rw [dge (by omega),cond_false]
   by_cases h0 : dis s b.now kk = 0
   ·rw [h0,show (ofG 0 == (0 : Int)) = true from rfl,cond_true,if_pos rfl,w64_id (by omega) (by omega),w64_id (by omega) (by omega)]
    rfl
   ·rw [show (ofG (dis s b.now kk) == (0 : Int)) = false from beq_eq_false_iff_ne.2 fun h => h0 (ofG_eq_zero.1 h),cond_false,if_neg h0,f176_eq hk _ _ hI.lne]
    unfold cloneF
    have e1 : w64 ((b.gap : Int) + ((b.old.length : Nat) : Int)) = ((b.gap + b.old.length : Nat) : Int) := w64_id (by omega) (by omega)
    have e2 : maxI 0 (w64 (((b.gap + b.old.length : Nat) : Int) - ((b.now.length : Nat) : Int))) = ((b.gap + b.old.length - b.now.length : Nat) : Int) := by
     rw [w64_id (by omega) (by omega)]
     unfold maxI
     split <;> omega
    simp only [bs_len,e1,e2,Int.toNat_natCast,bs_rep,List.length_replicate,bs_append]
    rw [gd (by unfold room; omega),gd (by unfold room; omega),gd (by unfold room; omega)]
    generalize ht : gmul (dis s b.now kk) (ginv b.last) = t
    have hcat : (b.now ++ List.replicate (b.gap + b.old.length - b.now.length) 0).length = max b.now.length (b.gap + b.old.length) := by simp; omega
    refine lp_run2 (fun i nx => (bs s,bs b.now,bs b.old,(b.L : Int),(b.gap : Int),ofG b.last,(kk : Int),ofG (dis s b.now kk),ofG t,bs nx,(s.length : Int),(kk : Int),(b.old.length : Int),(i : Int))) b.old.length
     (fun i p => p.set (b.gap + i) (p.getD (b.gap + i) 0 ^^^ gmul t (b.old.getD i 0))) (fun _ nx => nx.length = max b.now.length (b.gap + b.old.length)) (by omega) (a := b.now ++ List.replicate (b.gap + b.old.length - b.now.length) 0) hcat ?_ ?_
    ·intro i nx n3 hi hI3
     refine ⟨?_,by rw [List.length_set,hI3]⟩
     have e3 : w64 ((i : Int) + (b.gap : Int)) = ((b.gap + i : Nat) : Int) := by
      rw [w64_id (by omega) (by omega)]
      omega
     simp (disch := omega) only [gd,w64_id,wu64_id,room,Int.toNat_natCast,bs_len,List.length_set,List.length_append,List.length_replicate,List.length_cons,List.length_nil,bs_getD,bs_set,ofG_xor,cond_true,cond_false,dlt,dge,dle,dgt,Bool.not_true,Bool.not_false,e3,hI3,f146_eq hk]
     rfl
    ·intro n3 _
     rw [show run (fun i p => p.set (b.gap + i) (p.getD (b.gap + i) 0 ^^^ gmul t (b.old.getD i 0))) 0 b.old.length (b.now ++ List.replicate (b.gap + b.old.length - b.now.length) 0) = bmNext b.now b.old b.gap t from rfl]
     have e4 : w64 (2 * (b.L : Int)) = 2 * (b.L : Int) := w64_id (by omega) (by omega)
     have e5 : w64 ((kk : Int) + 1) = (kk : Int) + 1 := w64_id (by omega) (by omega)
     simp only [e4,e5]
     rw [dge (by omega),cond_false]
     by_cases h2L : 2 * b.L > kk
     ·rw [decide_eq_true (by omega),cond_true,if_pos h2L,w64_id (by omega) (by omega)]
      rfl
     ·rw [decide_eq_false (by omega),cond_false,if_neg h2L,w64_id (by omega) (by omega),show (kk : Int) + 1 - (b.L : Int) = ((kk + 1 - b.L : Nat) : Int) by omega]
      rfl
 ·intro n hI
  rw [show run (bm1 s) 0 s.length bm0 = bmAt s s.length from rfl] at hI ⊢
  have hnl := hI.nowl
  have hLk := hI.Lk
  simp only []
  rw [dge (by omega),cond_false]
  have e1 : w64 (((bmAt s s.length).L : Int) + 1) = (((bmAt s s.length).L + 1 : Nat) : Int) := w64_id (by omega) (by omega)
  have e2 : maxI 0 (w64 ((((bmAt s s.length).L + 1 : Nat) : Int) - (((bmAt s s.length).now.length : Nat) : Int))) = (((bmAt s s.length).L + 1 - (bmAt s s.length).now.length : Nat) : Int) := by
   rw [w64_id (by omega) (by omega)]
   unfold maxI
   split <;> omega
  simp only [bs_len,e1,e2,Int.toNat_natCast,bs_rep,List.length_replicate,bs_append,List.length_append]
  rw [gd (by unfold room; omega),gd (by unfold room; omega),gd (by omega),bs_take]
  rfl
end
theorem swap_perm {l : List Int} {i j : Nat} (hi : i < l.length) (hj : j < l.length) : ((l.set i (l.getD j 0)).set j (l.getD i 0)).Perm l := by
 have h := @List.set_set_perm Int l i j hi hj
 rwa [show l[j] = l.getD j 0 by rw [List.getD_eq_getElem?_getD,List.getElem?_eq_getElem hj]; rfl,show l[i] = l.getD i 0 by rw [List.getD_eq_getElem?_getD,List.getElem?_eq_getElem hi]; rfl] at h
def nsort (l : List Nat) : List Nat := l.mergeSort fun a b => decide (a ≤ b)
theorem nsort_perm (l : List Nat) : (nsort l).Perm l := List.mergeSort_perm _ _
theorem nsort_sorted (l : List Nat) : (nsort l).Pairwise (· ≤ ·) := by
 have := List.pairwise_mergeSort (le := fun a b : Nat => decide (a ≤ b)) (fun a b c h1 h2 => by simp at *; omega) (fun a b => by simp; omega) l
 exact this.imp fun h => by simpa using h
theorem zs_sorted {l : List Nat} (h : l.Pairwise (· ≤ ·)) : (zs l).Pairwise (· ≤ ·) := by
 unfold zs
 rw [List.pairwise_map]
 exact h.imp fun h => by omega
section
variable {α : Type} {k : Nat}
theorem f192_eq (x y : Int) (K : Bool → Option α) : f192 k x y K = K (decide (x < y)) := by
 simp only [f192,s192,SumT.leaf,SumT.pre,SumT.seq,SumT.cond,SumT.block,SumT.blockP,SumT.loop,zB]
 simp only [f169,s169,SumT.leaf,SumT.pre,SumT.seq,SumT.cond,SumT.block,SumT.blockP,SumT.loop,zB]
 cases hx : (x != x)
 ·rfl
 ·simp at hx
theorem f186w_eq (hk : 10000 ≤ k) (l : List Nat) (hl : l.length < 1000) (K : List Int → Option α) : f186w k (zs l) 0 (l.length : Int) K = K (zs (nsort l)) := by
 simp only [f186w,s186w,SumT.leaf,SumT.pre,SumT.seq,SumT.cond,SumT.block,SumT.blockP,SumT.loop,zB]
 have hz : (zs l).length = l.length := zs_len l
 by_cases h0 : l.length = 0
 ·obtain ⟨k',rfl⟩ : ∃ k',k = k' + 1 := ⟨k - 1,by omega⟩
  rw [lpF]
  simp only []
  rw [w64_id (by omega) (by omega),dge (by omega),cond_false,List.length_eq_zero_iff.1 h0,show nsort [] = [] by simp [nsort]]
 rw [show w64 ((0 : Int) + 1) = 1 from w64_id (by omega) (by omega)]
 refine lp_rule (fun m x => ∃ (i : Nat) (d : List Int),1 ≤ i ∧ i + m = l.length ∧ x = (d,(0 : Int),(l.length : Int),(i : Int)) ∧ d.Perm (zs l) ∧ (∀ p q,p < q → q < i → d.getD p 0 ≤ d.getD q 0)) ?_ (m := l.length - 1) ⟨1,zs l,Nat.le_refl _,by omega,rfl,List.Perm.refl _,fun p q h1 h2 => by omega⟩ (by omega)
 rintro m x n ⟨i,d,hi1,hi,rfl,hp,hs⟩ hn
 have hdl : d.length = l.length := by rw [hp.length_eq,hz]
 cases m with
 | zero =>
  simp only []
  rw [dge (by omega),cond_false]
  congr 1
  refine List.Perm.eq_of_pairwise (le := (· ≤ ·)) (fun a b _ _ h1 h2 => Int.le_antisymm h1 h2) ?_ (zs_sorted (nsort_sorted l)) (hp.trans ?_)
  ·rw [List.pairwise_iff_getElem]
   intro p q h1 h2 hpq
   have := hs p q hpq (by omega)
   rwa [List.getD_eq_getElem?_getD,List.getD_eq_getElem?_getD,List.getElem?_eq_getElem h1,List.getElem?_eq_getElem h2] at this
  ·exact ((nsort_perm l).map fun p : Nat => (p : Int)).symm
 | succ m =>
  simp only []
  rw [dlt (by omega),cond_true]
  refine lp_rule (fun t x => ∃ (d' : List Int),t ≤ i ∧ x = (d',(0 : Int),(l.length : Int),(i : Int),(t : Int)) ∧ d'.Perm (zs l) ∧ (∀ p q,p < q → q ≤ i → p ≠ t → q ≠ t → d'.getD p 0 ≤ d'.getD q 0) ∧ (∀ q,t < q → q ≤ i → d'.getD t 0 ≤ d'.getD q 0))
   ?_ (m := i) ⟨d,Nat.le_refl _,rfl,hp,fun p q h1 h2 h3 h4 => hs p q h1 (by omega),fun q h1 h2 => by omega⟩ (by omega)
  rintro t x n2 ⟨d',ht,rfl,hp',hs1,hs2⟩ hn2
  have hdl' : d'.length = l.length := by rw [hp'.length_eq,hz]
  have hend : (∀ p,p < t → d'.getD p 0 ≤ d'.getD t 0) → n (d',(0 : Int),(l.length : Int),w64 ((i : Int) + 1)) = K (zs (nsort l)) := fun h => by
   rw [w64_id (by omega) (by omega)]
   refine hn m _ (by omega) ⟨i + 1,d',by omega,by omega,rfl,hp',fun p q h1 h2 => ?_⟩
   by_cases hpt : p = t
   ·subst hpt
    exact hs2 q h1 (by omega)
   ·by_cases hqt : q = t
    ·subst hqt
     exact h p h1
    ·exact hs1 p q h1 (by omega) hpt hqt
  cases t with
  | zero =>
   simp only []
   rw [decide_eq_false (by omega),cond_false]
   exact hend fun p hp => by omega
  | succ t =>
   have e1 : w64 (((t + 1 : Nat) : Int) - 1) = (t : Int) := by
    rw [w64_id (by omega) (by omega)]
    omega
   simp only [e1]
   rw [decide_eq_true (by omega),cond_true,gd (by omega),gd (by omega),f192_eq,Int.toNat_natCast,Int.toNat_natCast]
   by_cases hlt : d'.getD (t + 1) 0 < d'.getD t 0
   ·rw [decide_eq_true hlt,cond_true,gd (by omega),gd (by omega),gd (by omega),List.length_set,gd (by omega)]
    have hg : ∀ q,((d'.set (t + 1) (d'.getD t 0)).set t (d'.getD (t + 1) 0)).getD q 0 = if q = t then d'.getD (t + 1) 0 else if q = t + 1 then d'.getD t 0 else d'.getD q 0 := fun q => by
     rw [getD_set,getD_set,List.length_set]
     by_cases h1 : t = q
     ·rw [if_pos ⟨h1,by omega⟩,if_pos h1.symm]
     ·rw [if_neg (by omega),if_neg (c := q = t) (by omega)]
      by_cases h2 : t + 1 = q
      ·rw [if_pos ⟨h2,by omega⟩,if_pos h2.symm]
      ·rw [if_neg (by omega),if_neg (by omega)]
    refine hn2 t _ (by omega) ⟨_,by omega,rfl,(swap_perm (by omega) (by omega)).trans hp',fun p q h1 h2 h3 h4 => ?_,fun q h1 h2 => ?_⟩
    ·rw [hg,hg,if_neg h3,if_neg h4]
     by_cases hpt : p = t + 1
     ·rw [if_pos hpt,if_neg (by omega)]
      exact hs1 t q (by omega) h2 (by omega) (by omega)
     ·rw [if_neg hpt]
      by_cases hqt : q = t + 1
      ·rw [if_pos hqt]
       exact hs1 p t (by omega) (by omega) (by omega) (by omega)
      ·rw [if_neg hqt]
       exact hs1 p q h1 h2 hpt hqt
    ·rw [hg,hg,if_pos rfl,if_neg (by omega)]
     by_cases hqt : q = t + 1
     ·rw [if_pos hqt]
      omega
     ·rw [if_neg hqt]
      exact hs2 q (by omega) h2
   ·rw [decide_eq_false hlt,cond_false]
    refine hend fun p hp => ?_
    by_cases hpt : p = t
    ·subst hpt
     omega
    ·have := hs1 p t (by omega) (by omega) (by omega) (by omega)
     omega
theorem f180_some (n : Nat) (hn : n ≤ 12) : ∃ r,∀ (K : Int → Option α),f180 k (wu64 ((n : Nat) : Int)) K = K r := by
 have h1 : wu64 (n : Int) = (n : Int) := wu64_id (by omega) (by omega)
 rw [h1]
 have : n = 0 ∨ n = 1 ∨ n = 2 ∨ n = 3 ∨ n = 4 ∨ n = 5 ∨ n = 6 ∨ n = 7 ∨ n = 8 ∨ n = 9 ∨ n = 10 ∨ n = 11 ∨ n = 12 := by omega
 rcases this with rfl | rfl | rfl | rfl | rfl | rfl | rfl | rfl | rfl | rfl | rfl | rfl | rfl
 ·exact ⟨0,fun K => by kernel_rfl⟩
 ·exact ⟨1,fun K => by kernel_rfl⟩
 ·exact ⟨2,fun K => by kernel_rfl⟩
 ·exact ⟨2,fun K => by kernel_rfl⟩
 ·exact ⟨3,fun K => by kernel_rfl⟩
 ·exact ⟨3,fun K => by kernel_rfl⟩
 ·exact ⟨3,fun K => by kernel_rfl⟩
 ·exact ⟨3,fun K => by kernel_rfl⟩
 ·exact ⟨4,fun K => by kernel_rfl⟩
 ·exact ⟨4,fun K => by kernel_rfl⟩
 ·exact ⟨4,fun K => by kernel_rfl⟩
 ·exact ⟨4,fun K => by kernel_rfl⟩
 ·exact ⟨4,fun K => by kernel_rfl⟩
theorem f154w_eq (hk : 10000 ≤ k) (l : List Nat) (hl : l.length ≤ 12) (K : List Int → Option α) : f154w k (zs l) K = K (zs (nsort l)) := by
 simp only [f154w,s154w,SumT.leaf,SumT.pre,SumT.seq,SumT.cond,SumT.block,SumT.blockP,SumT.loop,zB]
 rw [zs_len]
 obtain ⟨r,hr⟩ := f180_some (α := α) (k := k) l.length hl
 rw [hr]
 simp only [f179w,s179w,SumT.leaf,SumT.pre,SumT.seq,SumT.cond,SumT.block,SumT.blockP,SumT.loop,zB]
 obtain ⟨k',rfl⟩ : ∃ k',k = k' + 1 := ⟨k - 1,by omega⟩
 rw [lpF]
 simp only []
 rw [w64_id (by omega) (by omega),dle (by omega),cond_true,f186w_eq hk l (by omega)]
theorem f178_eq (hk : 10000 ≤ k) (l : List Nat) (p : Nat) (hl : l.length < 1000) (K : Bool → Option α) : f178 k (zs l) (p : Int) (fun t => K (decide (t ≥ 0))) = K (l.contains p) := by
 simp only [f178,s178,SumT.leaf,SumT.pre,SumT.seq,SumT.cond,SumT.block,SumT.blockP,SumT.loop,zB]
 rw [zs_len]
 refine lp_rule (fun m x => ∃ i : Nat,i + m = l.length ∧ x = (zs l,(p : Int),(l.length : Int),(i : Int)) ∧ (l.drop i).contains p = l.contains p) ?_ (m := l.length) ⟨0,by omega,rfl,rfl⟩ (by omega)
 rintro m x n ⟨i,hi,rfl,hc⟩ hn
 rw [← hc]
 cases m with
 | zero =>
  simp only []
  rw [dge (by omega),cond_false,List.drop_eq_nil_of_le (by omega)]
  rfl
 | succ m =>
  have hi' : i < l.length := by omega
  simp only []
  rw [dlt (by omega),cond_true,zs_len,gd (by omega),Int.toNat_natCast,zs_getD,List.drop_eq_getElem_cons hi',List.contains_cons,show l.getD i 0 = l[i] by rw [List.getD_eq_getElem?_getD,List.getElem?_eq_getElem hi']; rfl]
  by_cases he : p = l[i]
  ·rw [← he,show ((p : Int) == (p : Int)) = true by simp,cond_true,show (p == p) = true by simp,Bool.true_or,decide_eq_true (by omega)]
  ·rw [show ((p : Int) == (l[i] : Int)) = false from beq_eq_false_iff_ne.2 (by omega),cond_false,show (p == l[i]) = false from beq_eq_false_iff_ne.2 he,Bool.false_or,w64_id (by omega) (by omega)]
   have hc2 : (l.drop (i + 1)).contains p = l.contains p := by rw [← hc,List.drop_eq_getElem_cons hi',List.contains_cons,show (p == l[i]) = false from beq_eq_false_iff_ne.2 he,Bool.false_or]
   rw [hc2]
   exact hn m _ (by omega) ⟨i + 1,by omega,rfl,hc2⟩
theorem f153_eq (hk : 10000 ≤ k) (l : List Nat) (p : Nat) (hl : l.length < 1000) (K : Bool → Option α) : f153 k (zs l) (p : Int) K = K (l.contains p) := by
 simp only [f153,s153,SumT.leaf,SumT.pre,SumT.seq,SumT.cond,SumT.block,SumT.blockP,SumT.loop,zB]
 exact f178_eq hk l p hl K
def clean (s : List F8) : Bool := s.all (· == 0)
theorem f125_eq (hk : 10000 ≤ k) (s : List F8) (hs : s.length < 1000) (K : Bool → Option α) : f125 k (bs s) K = K (clean s) := by
 simp only [f125,s125,SumT.leaf,SumT.pre,SumT.seq,SumT.cond,SumT.block,SumT.blockP,SumT.loop,zB]
 simp only [f91_147,s91_147,SumT.leaf,SumT.pre,SumT.seq,SumT.cond,SumT.block,SumT.blockP,SumT.loop,zB]
 simp only [f112_147,s112_147,SumT.leaf,SumT.pre,SumT.seq,SumT.cond,SumT.block,SumT.blockP,SumT.loop,zB]
 rw [bs_len]
 refine lp_rule (fun m x => ∃ i : Nat,i + m = s.length ∧ x = (bs s,(s.length : Int),(i : Int)) ∧ clean (s.drop i) = clean s) ?_ (m := s.length) ⟨0,by omega,rfl,rfl⟩ (by omega)
 rintro m x n ⟨i,hi,rfl,hc⟩ hn
 cases m with
 | zero =>
  simp only []
  rw [← hc,dge (by omega),cond_false,List.drop_eq_nil_of_le (by omega)]
  rfl
 | succ m =>
  have hi' : i < s.length := by omega
  have hd : s.drop i = s.getD i 0 :: s.drop (i + 1) := by
   rw [List.drop_eq_getElem_cons hi',List.getD_eq_getElem?_getD,List.getElem?_eq_getElem hi']
   rfl
  simp only []
  rw [dlt (by omega),cond_true,bs_len,gd (by omega),Int.toNat_natCast,bs_getD]
  simp only [f147,s147,SumT.leaf,SumT.pre,SumT.seq,SumT.cond,SumT.block,SumT.blockP,SumT.loop,zB]
  by_cases he : s.getD i 0 = 0
  ·rw [he,show (ofG 0 != (0 : Int)) = false from rfl,cond_false,w64_id (by omega) (by omega)]
   refine hn m _ (by omega) ⟨i + 1,by omega,rfl,?_⟩
   rw [← hc,hd,he]
   rfl
  ·rw [bne_iff_ne.2 (fun h => he (ofG_eq_zero.1 h)),cond_true,← hc,hd,decide_eq_true (by omega)]
   unfold clean
   rw [List.all_cons,show (s.getD i 0 == 0) = false from beq_eq_false_iff_ne.2 he]
   rfl
def syn1 (w : List F8) (j : Nat) : F8 := run (fun i v => gmul v (gpow 2 j) ^^^ w.getD i 0) 0 w.length 0
def syn (w : List F8) (c : Nat) : List F8 := (List.range c).map (syn1 w)
theorem syn_len (w : List F8) (c : Nat) : (syn w c).length = c := by simp [syn]
theorem f124_eq (hk : 10000 ≤ k) (w : List F8) (c : Nat) (hw : w.length < 1000) (hc : c < 1000) (K : List Int → Option α) : f124 k (bs w) (c : Int) K = K (bs (syn w c)) := by
 simp only [f124,s124,SumT.leaf,SumT.pre,SumT.seq,SumT.cond,SumT.block,SumT.blockP,SumT.loop,zB]
 rw [gd (by unfold room; omega),Int.toNat_natCast,bs_rep,bs_len,List.length_replicate]
 refine lp_run2 (fun i out => (bs w,bs out,(c : Int),(i : Int))) c (fun i out => out.set i (syn1 w i)) (fun i out => out.length = c ∧ ∀ j,i ≤ j → out.getD j 0 = 0) (by omega) (a := List.replicate c 0) ⟨List.length_replicate,fun j _ => getD_rep _ _ _⟩ ?_ ?_
 ·rintro i out n hi ⟨hl,he⟩
  refine ⟨?_,by rw [List.length_set,hl],fun j hj => by rw [getD_set,if_neg (by omega),he j (by omega)]⟩
  simp only []
  rw [dlt (by omega),cond_true,f145_eq hk i (by omega),bs_len]
  rw [show (bs w,bs out,(i : Int),ofG (gpow 2 i),(c : Int),(i : Int),bs w,(w.length : Int),(0 : Int)) = (bs w,bs (out.set i 0),(i : Int),ofG (gpow 2 i),(c : Int),(i : Int),bs w,(w.length : Int),((0 : Nat) : Int)) by rw [set_same (he i (Nat.le_refl _)) (by omega)]; rfl]
  refine lp_run2 (fun j v => (bs w,bs (out.set i v),(i : Int),ofG (gpow 2 i),(c : Int),(i : Int),bs w,(w.length : Int),(j : Int))) w.length (fun j v => gmul v (gpow 2 i) ^^^ w.getD j 0) (fun _ _ => True) (by omega) (a := 0) trivial ?_ ?_
  ·intro j v n2 hj _
   refine ⟨?_,trivial⟩
   have eg : (out.set i v).getD i 0 = v := by rw [getD_set,if_pos ⟨rfl,by omega⟩]
   simp (disch := omega) only [gd,w64_id,wu64_id,room,Int.toNat_natCast,bs_len,List.length_set,List.length_append,List.length_replicate,List.length_cons,List.length_nil,bs_getD,bs_set,ofG_xor,cond_true,cond_false,dlt,dge,dle,dgt,Bool.not_true,Bool.not_false,eg,hl,f146_eq hk,List.set_set]
   rfl
  ·intro n2 _
   simp only []
   rw [dge (by omega),cond_false,w64_id (by omega) (by omega)]
   rfl
 ·intro n _
  simp only []
  rw [dge (by omega),cond_false,run_setall (syn1 w) 0 c _ List.length_replicate]
  rfl
theorem f160_eq (hk : 10000 ≤ k) (d c f : Nat) (h1 : 1 ≤ d) (h2 : d ≤ 32) (h3 : 1 ≤ c) (h4 : c ≤ 8) (hv : vcode (2,(d : Int),(c : Int),(f : Int)) = true) (w : List F8) (hw : w.length = d + c) (K : List Int → Int → Option α) :
  f160 k (2,(d : Int),(c : Int),(f : Int)) (bs w) K = K (bs (syn w c)) 0 := by
 simp only [f160,s160,SumT.leaf,SumT.pre,SumT.seq,SumT.cond,SumT.block,SumT.blockP,SumT.loop,zB]
 have e1 : w64 ((d : Int) + (c : Int)) = ((d + c : Nat) : Int) := w64_id (by omega) (by omega)
 rw [f106_eq,hv,bs_len,hw,e1,show (true && ((2 : Int) == 2)) = true from rfl,Bool.not_true,cond_false,bne_self_eq_false,cond_false]
 refine lp_run2 (fun i out => (bs w,((2 : Int),(d : Int),(c : Int),(f : Int)),bs out,(i : Int))) c (fun i out => out ++ [syn1 w i]) (fun i out => out.length = i) (by omega) (a := []) rfl ?_ ?_
 ·intro i out n hi hI
  refine ⟨?_,by rw [List.length_append,hI]; rfl⟩
  simp only []
  rw [dlt (by omega),cond_true,f108_eq hk i (by omega)]
  refine lp_run2 (fun j v => (bs w,((2 : Int),(d : Int),(c : Int),(f : Int)),bs out,(i : Int),ofG (gpow 2 i),ofG v,(j : Int))) w.length (fun j v => gmul v (gpow 2 i) ^^^ w.getD j 0) (fun _ _ => True) (by omega) (a := 0) trivial ?_ ?_
  ·intro j v n2 hj _
   refine ⟨?_,trivial⟩
   simp (disch := omega) only [gd,w64_id,wu64_id,room,Int.toNat_natCast,bs_len,List.length_set,List.length_append,List.length_replicate,List.length_cons,List.length_nil,bs_getD,bs_set,ofG_xor,cond_true,cond_false,dlt,dge,dle,dgt,Bool.not_true,Bool.not_false,f131_eq hk]
   rfl
  ·intro n2 _
   simp only []
   rw [bs_len,dge (by omega),cond_false,bs_len,hI,gd (by simp; unfold room; omega),bs_snoc2,w64_id (by omega) (by omega)]
   rfl
 ·intro n _
  simp only []
  rw [dge (by omega),cond_false,run_snoc]
  rfl
end
end Go.Proofs.YtkeiedikiiccpaaGreatDoor.Am
