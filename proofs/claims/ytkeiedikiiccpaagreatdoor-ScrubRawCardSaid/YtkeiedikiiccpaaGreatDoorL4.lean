/- The plain law: the program and the reference answer alike. -/
import Derived.Test.YtkeiedikiiccpaaGreatDoorL3
set_option linter.all false
namespace Go.Proofs.YtkeiedikiiccpaaGreatDoor.Am
open Go
def rb (rows : List (List F8)) : List (List Int) := rows.map bs
theorem rb_len (rows : List (List F8)) : (rb rows).length = rows.length := List.length_map _
theorem rb_getD (rows : List (List F8)) (i : Nat) : (rb rows).getD i [] = bs (rows.getD i []) := by
 unfold rb
 rw [List.getD_eq_getElem?_getD,List.getD_eq_getElem?_getD,List.getElem?_map]
 cases rows[i]? <;> rfl
theorem rb_set (rows : List (List F8)) (i : Nat) (r : List F8) : (rb rows).set i (bs r) = rb (rows.set i r) := by
 unfold rb
 rw [List.map_set]
theorem rb_drop (rows : List (List F8)) (n : Nat) : (rb rows).drop n = rb (rows.drop n) := by
 unfold rb
 rw [List.map_drop]
theorem getD_drop {β : Type} (l : List β) (n i : Nat) (d : β) : (l.drop n).getD i d = l.getD (n + i) d := by
 rw [List.getD_eq_getElem?_getD,List.getD_eq_getElem?_getD,List.getElem?_drop]
abbrev perm (R c p : Nat) : List Nat := ((List.range R).set c p).set p c
theorem perm_len (R c p : Nat) : (perm R c p).length = R := by simp [perm]
theorem perm_getD {R c p i : Nat} (hc : c < R) (hp : p < R) (hi : i < R) : (perm R c p).getD i 0 = if i = c then p else if i = p then c else i := by
 unfold perm
 have hr : (List.range R).getD i 0 = i := by
  rw [List.getD_eq_getElem?_getD,List.getElem?_range hi]
  rfl
 rw [getD_set,getD_set,List.length_set,List.length_range,hr]
 by_cases h1 : p = i
 ·subst h1
  rw [if_pos ⟨rfl,hp⟩,if_pos rfl]
  split
  ·rename_i h
   exact h.symm
  ·rfl
 ·rw [if_neg (by omega)]
  by_cases h2 : c = i
  ·rw [if_pos ⟨h2,hc⟩,if_pos h2.symm]
  ·rw [if_neg (by omega),if_neg (by omega),if_neg (by omega)]
theorem perm_ok {R c p : Nat} (hc : c < R) (hp : p < R) {m : Nat} (hm : m = R) : List.Nodup (perm R c p) ∧ List.all (perm R c p) (fun i => decide (i < m)) = true := by
 have hg : ∀ (i : Nat) (h : i < (perm R c p).length),(perm R c p)[i] = if i = c then p else if i = p then c else i := fun i h => by
  rw [← perm_getD hc hp (by rw [perm_len] at h; exact h),List.getD_eq_getElem?_getD,List.getElem?_eq_getElem h]
  rfl
 subst hm
 constructor
 ·rw [List.Nodup,List.pairwise_iff_getElem]
  intro i j hi hj hij
  rw [hg i hi,hg j hj]
  rw [perm_len] at hi hj
  split <;> split <;> (try split) <;> (try split) <;> omega
 ·rw [List.all_eq_true]
  intro x hx
  obtain ⟨i,hi,rfl⟩ := List.mem_iff_getElem.1 hx
  rw [hg i hi]
  rw [perm_len] at hi
  apply decide_eq_true
  split
  ·exact hp
  ·split
   ·exact hc
   ·exact hi
theorem perm_map {R c p : Nat} (X : List (List Int)) (hc : c < R) (hp : p < R) {Y : List (List Int)} (hY : Y.length = R) (h : ∀ i,i < R → Y.getD i [] = X.getD (if i = c then p else if i = p then c else i) []) : (perm R c p).map (rowOf X) = Y := by
 refine ext_getD [] (by rw [List.length_map,perm_len,hY]) fun i hi => ?_
 rw [List.length_map,perm_len] at hi
 rw [h i hi,← perm_getD hc hp hi]
 have hl : i < (perm R c p).length := by rw [perm_len]; exact hi
 rw [List.getD_eq_getElem?_getD,List.getElem?_map,List.getD_eq_getElem?_getD (l := perm R c p),List.getElem?_eq_getElem hl]
 rfl
theorem perm_sw {rows : List (List F8)} {c p : Nat} (hc : c < rows.length) (hp : p < rows.length) : (perm rows.length c p).map (rowOf (rb rows)) = rb (lsw rows c p) :=
 perm_map _ hc hp (by rw [rb_len,lsw_len]) fun i hi => by
  rw [rb_getD,rb_getD,lsw_getD _ _ _ _ hc hp]
  split
  ·rfl
  ·split <;> rfl
theorem perm_st {rows : List (List F8)} {c p : Nat} (hc : c < rows.length) (hp : p < rows.length) : (perm rows.length c p).map (rowOf (rb (rows.set p (scl (rows.getD p []) (ginv (mt rows p c)))))) = rb (gst1 rows c p) :=
 perm_map _ hc hp (by rw [rb_len,gst1_len]) fun i hi => by
  rw [rb_getD,rb_getD]
  unfold gst1
  rw [getD_set,getD_set,lsw_len,lsw_getD _ _ _ _ hc hp]
  by_cases h1 : c = i
  ·rw [if_pos ⟨h1,hc⟩,if_pos (by rw [if_pos h1.symm]; exact ⟨rfl,hp⟩)]
  ·rw [if_neg (by omega),if_neg (c := i = c) (by omega),if_neg (c := i = c) (by omega)]
   by_cases h2 : i = p
   ·rw [if_pos h2,if_pos h2,if_neg (by omega)]
   ·rw [if_neg h2,if_neg h2,if_neg (by omega)]
section
variable {α : Type} {k : Nat}
theorem f158_eq (hk : 10000 ≤ k) (r : List F8) (f : F8) (hr : r.length < 1000) (K : List Int → Option α) : f158 k (bs r) (ofG f) K = K (bs (scl r f)) := by
 simp only [f158,s158,SumT.leaf,SumT.pre,SumT.seq,SumT.cond,SumT.block,SumT.blockP,SumT.loop,zB]
 rw [bs_len]
 refine lp_run (fun i r' => (bs r',ofG f,(r.length : Int),(i : Int))) r.length _ (fun i r' => r'.length = r.length) (fun r' => K (bs r')) ?_ ?_ (by omega) (a := r) rfl
 ·intro i r' n hi hI
  refine ⟨?_,?_⟩
  rotate_left
  ·rw [List.length_set,hI]
  ·simp (disch := omega) only [gd,w64_id,wu64_id,room,Int.toNat_natCast,bs_len,List.length_set,List.length_append,List.length_replicate,List.length_cons,List.length_nil,bs_getD,bs_set,ofG_xor,cond_true,cond_false,dlt,dge,dle,dgt,Bool.not_true,Bool.not_false,f146_eq hk]
   rfl
 ·intro r' n hI
  simp (disch := omega) only [gd,w64_id,wu64_id,room,Int.toNat_natCast,bs_len,List.length_set,List.length_append,List.length_replicate,List.length_cons,List.length_nil,bs_getD,bs_set,ofG_xor,cond_true,cond_false,dlt,dge,dle,dgt,Bool.not_true,Bool.not_false]
theorem f156_eq (hk : 10000 ≤ k) (rows : List (List F8)) (c m : Nat) (hd : Wd rows m) (hc : c < m) (hR : rows.length < 1000) (hm : m < 1000) (K : Int → Option α) :
  f156_157 k (rb (rows.drop c)) (c : Int) K = match piv rows c c (rows.length - c) with | some p => K ((p - c : Nat) : Int) | none => K (-1) := by
 simp only [f156_157,s156_157,SumT.leaf,SumT.pre,SumT.seq,SumT.cond,SumT.block,SumT.blockP,SumT.loop,zB]
 rw [rb_len,List.length_drop]
 refine lp_rule (fun q x => ∃ i : Nat,i + q = rows.length - c ∧ x = (rb (rows.drop c),(c : Int),((rows.length - c : Nat) : Int),(i : Int)) ∧ piv rows c (c + i) q = piv rows c c (rows.length - c)) ?_ (m := rows.length - c) ⟨0,by omega,rfl,rfl⟩ (by omega)
 rintro q x n ⟨i,hi,rfl,hp⟩ hn
 cases q with
 | zero =>
  simp only []
  rw [dge (by omega),cond_false,← hp]
  rfl
 | succ q =>
  have hw := hd (c + i) (by omega)
  simp only []
  rw [dlt (by omega),cond_true,rb_len,List.length_drop,gd (by omega),Int.toNat_natCast,rb_getD,getD_drop]
  simp only [f157,s157,SumT.leaf,SumT.pre,SumT.seq,SumT.cond,SumT.block,SumT.blockP,SumT.loop,zB]
  rw [bs_len,hw,gd (by omega),Int.toNat_natCast,bs_getD]
  rw [piv] at hp
  by_cases hz : mt rows (c + i) c = 0
  ·rw [if_neg (fun h => h hz)] at hp
   have e : ofG ((rows.getD (c + i) []).getD c 0) = 0 := by
    rw [show (rows.getD (c + i) []).getD c 0 = mt rows (c + i) c from rfl,hz]
    rfl
   rw [e,w64_id (by omega) (by omega)]
   exact hn q _ (by omega) ⟨i + 1,by omega,rfl,hp⟩
  ·rw [if_pos hz] at hp
   have e : (ofG ((rows.getD (c + i) []).getD c 0) != 0) = true := bne_iff_ne.2 fun h => hz (ofG_eq_zero.1 h)
   rw [e,← hp]
   show K (i : Int) = K ((c + i - c : Nat) : Int)
   congr 2
   omega
def zs (l : List Nat) : List Int := l.map fun p : Nat => (p : Int)
theorem zs_len (l : List Nat) : (zs l).length = l.length := List.length_map _
theorem zs_getD (l : List Nat) (i : Nat) : (zs l).getD i 0 = ((l.getD i 0 : Nat) : Int) := by
 unfold zs
 rw [List.getD_eq_getElem?_getD,List.getD_eq_getElem?_getD,List.getElem?_map]
 cases l[i]? <;> rfl
def srow (n : Nat) (s : List F8) (ps : List Nat) (j : Nat) : List F8 := (List.range ps.length).map (fun i => gpow (gpow 2 (n - 1 - ps.getD i 0)) j) ++ [s.getD j 0]
def srows (n : Nat) (s : List F8) (ps : List Nat) : List (List F8) := (List.range s.length).map (srow n s ps)
theorem map_range_getD {β : Type} (g : Nat → β) (R i : Nat) (d : β) (h : i < R) : ((List.range R).map g).getD i d = g i := by
 rw [List.getD_eq_getElem?_getD,List.getElem?_map,List.getElem?_range h]
 rfl
theorem srows_len (n : Nat) (s : List F8) (ps : List Nat) : (srows n s ps).length = s.length := by simp [srows]
theorem srows_wd (n : Nat) (s : List F8) (ps : List Nat) : Wd (srows n s ps) (ps.length + 1) := fun i hi => by
 rw [srows_len] at hi
 unfold srows
 rw [map_range_getD _ _ _ _ hi]
 simp [srow]
theorem run_setall {β : Type} (g : Nat → β) (d : β) (R : Nat) (l : List β) (hl : l.length = R) : run (fun i (l : List β) => l.set i (g i)) 0 R l = (List.range R).map g := by
 have key : ∀ (n i : Nat) (l : List β) (j : Nat),i + n ≤ l.length → (run (fun i (l : List β) => l.set i (g i)) i n l).getD j d = if i ≤ j ∧ j < i + n then g j else l.getD j d := by
  intro n
  induction n with
  | zero =>
   intro i l j _
   rw [if_neg (by omega)]
   rfl
  | succ n ih =>
   intro i l j h
   rw [run,ih (i + 1) _ j (by rw [List.length_set]; omega),getD_set]
   by_cases h1 : i = j
   ·subst h1
    rw [if_neg (by omega),if_pos ⟨rfl,by omega⟩,if_pos (by omega)]
   ·rw [if_neg (c := i = j ∧ i < l.length) (by omega)]
    by_cases h2 : i + 1 ≤ j ∧ j < i + 1 + n
    ·rw [if_pos h2,if_pos (by omega)]
    ·rw [if_neg h2,if_neg (by omega)]
 have hlen : (run (fun i (l : List β) => l.set i (g i)) 0 R l).length = R := run_inv (fun _ a => List.length a = R) _ _ _ hl fun j a _ _ h => by rw [List.length_set,h]
 refine ext_getD d (by rw [hlen]; simp) fun j hj => ?_
 rw [hlen] at hj
 rw [key R 0 l j (by omega),if_pos (by omega),map_range_getD _ _ _ _ hj]
theorem f148_eq (hk : 10000 ≤ k) (n p : Nat) (hn : n ≤ 64) (hp : p < n) (K : Int → Option α) : f148 k (n : Int) (p : Int) K = K (ofG (gpow 2 (n - 1 - p))) := by
 simp only [f148,s148,SumT.leaf,SumT.pre,SumT.seq,SumT.cond,SumT.block,SumT.blockP,SumT.loop,zB]
 have e1 : w64 ((n : Int) - 1) = ((n - 1 : Nat) : Int) := by
  rw [w64_id (by omega) (by omega)]
  omega
 have e2 : w64 (((n - 1 : Nat) : Int) - (p : Int)) = ((n - 1 - p : Nat) : Int) := by
  rw [w64_id (by omega) (by omega)]
  omega
 rw [e1,e2,f145_eq hk _ (by omega)]
theorem getD_mem {β : Type} {l : List β} {i : Nat} (d : β) (h : i < l.length) : l.getD i d ∈ l := by
 rw [List.getD_eq_getElem?_getD,List.getElem?_eq_getElem h]
 exact List.getElem_mem h
theorem set_same {β : Type} {l : List β} {i : Nat} {d x : β} (h : l.getD i d = x) (hi : i < l.length) : l.set i x = l := by
 refine ext_getD d (by simp) fun j hj => ?_
 rw [getD_set]
 split
 ·rename_i h2
  rw [← h2.1,h]
 ·rfl
theorem bs_snoc2 (l : List F8) (x : F8) : bs l ++ [ofG x] = bs (l ++ [x]) := bs_append l [x]
theorem paddAt_zero (p q : List F8) (a : Nat) (h : a + q.length ≤ p.length) : paddAt p q 0 a = p := ext_getD 0 (paddAt_len _ _ _ _) fun i _ => by
 rw [paddAt_getD _ _ _ _ _ h]
 split
 ·rw [zero_gmul,x0]
 ·rw [x0]
theorem f127_eq (hk : 10000 ≤ k) (n : Nat) (s : List F8) (ps : List Nat) (hs : s.length < 100) (hn : n ≤ 64) (hps : ∀ p ∈ ps,p < n) (hw : ps.length ≤ s.length) (K : List Int → Bool → Option α) :
  f127 k (bs s) (n : Int) (zs ps) K = match gauss (srows n s ps) ps.length with | some out => K (bs out) true | none => K [] false := by
 simp only [f127,s127,SumT.leaf,SumT.pre,SumT.seq,SumT.cond,SumT.block,SumT.blockP,SumT.loop,zB]
 rw [bs_len,gd (by unfold room; omega),Int.toNat_natCast,show List.replicate s.length ([] : List Int) = rb (List.replicate s.length []) by simp [rb,bs],rb_len,List.length_replicate]
 refine lp_run2 (fun i rows => (bs s,(n : Int),zs ps,rb rows,(s.length : Int),(i : Int))) s.length (fun i rows => rows.set i (srow n s ps i)) (fun i rows => rows.length = s.length ∧ ∀ j,i ≤ j → rows.getD j [] = []) (by omega)
  (a := List.replicate s.length []) ⟨List.length_replicate,fun j _ => getD_rep _ _ _⟩ ?_ ?_
 ·rintro i rows n' hi ⟨hl,he⟩
  refine ⟨?_,by rw [List.length_set,hl],fun j hj => by rw [getD_set,if_neg (by omega),he j (by omega)]⟩
  simp only []
  rw [dlt (by omega),cond_true,zs_len]
  refine lp_run2 (fun j rows' => (bs s,(n : Int),zs ps,rb rows',(i : Int),(s.length : Int),(i : Int),zs ps,(ps.length : Int),(j : Int))) ps.length (fun j rows' => rows'.set i (rows'.getD i [] ++ [gpow (gpow 2 (n - 1 - ps.getD j 0)) i]))
   (fun j rows' => rows' = rows.set i ((List.range j).map fun j => gpow (gpow 2 (n - 1 - ps.getD j 0)) i)) (by omega) (a := rows) (set_same (he i (Nat.le_refl _)) (by omega)).symm ?_ ?_
  ·rintro j rows' n2 hj rfl
   have hg : (rows.set i ((List.range j).map fun j => gpow (gpow 2 (n - 1 - ps.getD j 0)) i)).getD i [] = (List.range j).map fun j => gpow (gpow 2 (n - 1 - ps.getD j 0)) i := by rw [getD_set,if_pos ⟨rfl,by omega⟩]
   refine ⟨?_,by rw [hg,List.set_set,List.range_succ,List.map_append]; rfl⟩
   simp only []
   rw [dlt (by omega),cond_true,zs_len,gd (by omega),Int.toNat_natCast,zs_getD,f148_eq hk n _ hn (hps _ (getD_mem 0 hj)),f155_eq hk _ (gpow_ne two_ne _) i (by omega),rb_len,List.length_set,gd (by omega),Int.toNat_natCast,rb_getD,hg,bs_snoc2,bs_len,List.length_map,List.length_range]
   rw [gd (by simp; unfold room; omega),gd (by omega),if_pos trivial,rb_set,w64_id (by omega) (by omega)]
   rfl
  ·intro n2 hI
   rw [hI]
   have hg : (rows.set i ((List.range ps.length).map fun j => gpow (gpow 2 (n - 1 - ps.getD j 0)) i)).getD i [] = (List.range ps.length).map fun j => gpow (gpow 2 (n - 1 - ps.getD j 0)) i := by rw [getD_set,if_pos ⟨rfl,by omega⟩]
   simp only []
   rw [dge (by omega),cond_false,rb_len,List.length_set,gd (by omega),bs_len,gd (by omega),Int.toNat_natCast,rb_getD,hg,bs_getD,bs_snoc2,bs_len,List.length_map,List.length_range]
   rw [gd (by simp; unfold room; omega),gd (by omega),if_pos trivial,rb_set,List.set_set,w64_id (by omega) (by omega)]
   rfl
 ·intro n' _
  rw [run_setall (srow n s ps) [] s.length _ List.length_replicate,show (List.range s.length).map (srow n s ps) = srows n s ps from rfl]
  simp only []
  have hl0 := srows_len n s ps
  have hd0 := srows_wd n s ps
  rw [dge (by omega),cond_false,zs_len,rb_len,hl0,decide_eq_false (by omega),cond_false]
  generalize hrw : srows n s ps = rows0 at hl0 hd0
  refine lp_rule (fun q x => ∃ (c : Nat) (rows : List (List F8)),c + q = ps.length ∧ x = (rb rows,(ps.length : Int),(ps.length : Int),(c : Int)) ∧ rows.length = s.length ∧ Wd rows (ps.length + 1) ∧
   ((gcols q c rows).bind fun r => gfin r ps.length) = gauss rows0 ps.length) ?_ (m := ps.length) ⟨0,rows0,by omega,rfl,hl0,hd0,rfl⟩ (by omega)
  rintro q x n2 ⟨c,rows,hcq,rfl,hl,hd,hg⟩ hn2
  cases q with
  | zero =>
   have hg : gfin rows ps.length = gauss rows0 ps.length := hg
   simp only []
   rw [dge (by omega),cond_false,rb_len,hl,← hg]
   refine lp_rule (fun q x => ∃ i : Nat,i + q = s.length ∧ x = ((ps.length : Int),bs ((List.range (min i ps.length)).map fun k => mt rows k ps.length),rb rows,(s.length : Int),(i : Int)) ∧
    gzero rows ps.length (max i ps.length) (s.length - max i ps.length) = gzero rows ps.length ps.length (s.length - ps.length)) ?_ (m := s.length) ⟨0,by omega,by simp [bs],by simp⟩ (by omega)
   rintro q x n3 ⟨i,hi,rfl,hz⟩ hn3
   unfold gfin
   rw [hl,← hz]
   cases q with
   | zero =>
    simp only []
    rw [dge (by omega),cond_false,show s.length - max i ps.length = 0 by omega,show min i ps.length = ps.length by omega]
    rfl
   | succ q =>
    have hrow := hd i (by omega)
    simp only []
    rw [dlt (by omega),cond_true,rb_len,gd (by omega),Int.toNat_natCast,rb_getD,bs_len,hrow,Int.toNat_natCast,bs_getD,show (rows.getD i []).getD ps.length 0 = mt rows i ps.length from rfl]
    by_cases hiw : i < ps.length
    ·rw [dlt (by omega),cond_true,gd (by omega),bs_len,List.length_map,List.length_range,gd (by simp; unfold room; omega),bs_snoc2,w64_id (by omega) (by omega)]
     rw [hz]
     have := hn3 q ((ps.length : Int),bs ((List.range (min (i + 1) ps.length)).map fun k => mt rows k ps.length),rb rows,(s.length : Int),((i + 1 : Nat) : Int)) (by omega) ⟨i + 1,by omega,rfl,by rw [← hz]; congr 1 <;> omega⟩
     unfold gfin at this
     rw [hl] at this
     rw [← this,show min (i + 1) ps.length = min i ps.length + 1 by omega,List.range_succ,List.map_append,show min i ps.length = i by omega]
     rfl
    ·rw [dge (by omega),cond_false,gd (by omega),show s.length - max i ps.length = (s.length - max (i + 1) ps.length) + 1 by omega,gzero,show max i ps.length = i by omega]
     by_cases h0 : mt rows i ps.length = 0
     ·rw [h0,show (ofG 0 != (0 : Int)) = false from rfl,cond_false,if_pos rfl,w64_id (by omega) (by omega)]
      have hz2 : gzero rows ps.length (max (i + 1) ps.length) (s.length - max (i + 1) ps.length) = gzero rows ps.length ps.length (s.length - ps.length) := by
       rw [← hz,show s.length - max i ps.length = (s.length - max (i + 1) ps.length) + 1 by omega,gzero,show max i ps.length = i by omega,if_pos h0,show max (i + 1) ps.length = i + 1 by omega]
      have := hn3 q ((ps.length : Int),bs ((List.range (min (i + 1) ps.length)).map fun k => mt rows k ps.length),rb rows,(s.length : Int),((i + 1 : Nat) : Int)) (by omega) ⟨i + 1,by omega,rfl,hz2⟩
      unfold gfin at this
      rw [hl,← hz2] at this
      rw [show max (i + 1) ps.length = i + 1 by omega,show min (i + 1) ps.length = min i ps.length by omega] at this
      rw [show max (i + 1) ps.length = i + 1 by omega]
      exact this
     ·rw [bne_iff_ne.2 (fun h => h0 (ofG_eq_zero.1 h)),cond_true,if_neg h0]
      rfl
  | succ q =>
   simp only []
   rw [dlt (by omega),cond_true,rb_len,hl,gd (by omega),Int.toNat_natCast,rb_drop,f156_eq hk rows c _ hd (by omega) (by omega) (by omega)]
   rw [gcols] at hg
   cases hp : piv rows c c (rows.length - c) with
   | none =>
    rw [hp] at hg
    rw [← hg]
    rfl
   | some p =>
    rw [hp] at hg
    obtain ⟨h1,h2,h3⟩ := piv_some hp
    have hcl : c < rows.length := by omega
    have hpl : p < rows.length := by omega
    have e1 : w64 ((c : Int) + ((p - c : Nat) : Int)) = (p : Int) := by
     rw [w64_id (by omega) (by omega)]
     omega
    simp only []
    rw [dge (by omega),cond_false,e1,Int.toNat_natCast,← hl]
    have hpg : (((List.range rows.length).set c p).set p c).getD c 0 = p := by
     have := perm_getD hcl hpl hcl
     rwa [if_pos rfl] at this
    rw [gd (by omega),gd (by omega),gd (by omega)]
    simp only [List.length_set,List.length_range,hpg]
    rw [gd (by omega),gd (by omega),rb_getD,bs_len,hd p hpl,gd (by omega),bs_getD,f151_eq hk,if_neg (c := (rows.getD p []).getD c 0 = 0) h3,gd (by omega),f158_eq hk _ _ (by rw [hd p hpl]; omega),rb_set,
     show (rows.getD p []).getD c 0 = mt rows p c from rfl,perm_st hcl hpl,gd (perm_ok hcl hpl (rb_len rows))]
    have hl1 := gst1_len rows c p
    have hd1 := gst1_wd hd hcl hpl
    refine lp_run2 (fun i rows' => (rb rows',(ps.length : Int),(c : Int),(ps.length : Int),(c : Int),(rows.length : Int),(i : Int))) rows.length (lel1 c) (fun i rows' => rows'.length = rows.length ∧ Wd rows' (ps.length + 1)) (by omega) (a := gst1 rows c p) ⟨hl1,hd1⟩ ?_ ?_
    ·rintro i rows' n3 hi ⟨hl',hd'⟩
     have hi' : i < rows'.length := by omega
     have hc' : c < rows'.length := by omega
     refine ⟨?_,by rw [lel1_len,hl'],lel1_wd hd' hi'⟩
     simp only []
     rw [dlt (by omega),cond_true,rb_len,gd (by omega),Int.toNat_natCast,rb_getD,bs_len,hd' i hi',gd (by omega),Int.toNat_natCast,bs_getD,show (rows'.getD i []).getD c 0 = mt rows' i c from rfl]
     have e2 : w64 ((i : Int) + 1) = ((i + 1 : Nat) : Int) := w64_id (by omega) (by omega)
     unfold lel1
     by_cases hic : i = c
     ·rw [show ((i : Int) != (c : Int)) = false by simp [hic],cond_false,cond_false,e2,if_pos hic]
     ·rw [show ((i : Int) != (c : Int)) = true from bne_iff_ne.2 (by omega),cond_true,if_neg hic]
      by_cases h0 : mt rows' i c = 0
      ·rw [h0,show (ofG 0 != (0 : Int)) = false from rfl,cond_false,e2,paddAt_zero _ _ _ (by rw [hd' i hi',hd' c hc']; omega),set_same (d := []) rfl hi']
      ·rw [bne_iff_ne.2 (fun h => h0 (ofG_eq_zero.1 h)),cond_true,gd (by omega)]
       refine Eq.trans ?_ (congrArg (fun rr => n3 (rb (rows'.set i rr),(ps.length : Int),(c : Int),(ps.length : Int),(c : Int),(rows.length : Int),((i + 1 : Nat) : Int))) rfl)
       rw [show (rb rows',(ps.length : Int),(c : Int),(i : Int),ofG (mt rows' i c),(ps.length : Int),(c : Int),(rows.length : Int),(i : Int),((ps.length + 1 : Nat) : Int),(0 : Int)) =
        (rb (rows'.set i (rows'.getD i [])),(ps.length : Int),(c : Int),(i : Int),ofG (mt rows' i c),(ps.length : Int),(c : Int),(rows.length : Int),(i : Int),((ps.length + 1 : Nat) : Int),((0 : Nat) : Int)) by rw [set_same (d := []) rfl hi']; rfl]
       refine lp_run2 (fun j r => (rb (rows'.set i r),(ps.length : Int),(c : Int),(i : Int),ofG (mt rows' i c),(ps.length : Int),(c : Int),(rows.length : Int),(i : Int),((ps.length + 1 : Nat) : Int),(j : Int))) (ps.length + 1)
        (fun j r => r.set (0 + j) (r.getD (0 + j) 0 ^^^ gmul (mt rows' i c) ((rows'.getD c []).getD j 0))) (fun j r => r.length = ps.length + 1) (by omega) (a := rows'.getD i []) (hd' i hi') ?_ ?_
       ·intro j r n4 hj hr
        refine ⟨?_,by rw [List.length_set,hr]⟩
        have eg : (rows'.set i r).getD i [] = r := by rw [getD_set,if_pos ⟨rfl,hi'⟩]
        have ec : (rows'.set i r).getD c [] = rows'.getD c [] := by rw [getD_set,if_neg (by omega)]
        have hcl2 := hd' c hc'
        simp (disch := omega) only [gd,w64_id,wu64_id,room,Int.toNat_natCast,bs_len,List.length_set,List.length_append,List.length_replicate,List.length_cons,List.length_nil,bs_getD,bs_set,ofG_xor,cond_true,cond_false,dlt,dge,dle,dgt,Bool.not_true,Bool.not_false,rb_len,rb_getD,eg,ec,hr,hcl2,f146_eq hk,rb_set,List.set_set,Nat.zero_add]
        rfl
       ·intro n4 hr
        simp only []
        rw [dge (by omega),cond_false,e2]
        unfold paddAt
        rw [hd' c hc']
    ·intro n3 hI
     simp only []
     rw [dge (by omega),cond_false,w64_id (by omega) (by omega)]
     have hlel : run (lel1 c) 0 rows.length (gst1 rows c p) = gst rows c p := by
      unfold gst lel
      rw [hl1]
     rw [hlel]
     exact hn2 q _ (by omega) ⟨c + 1,gst rows c p,by omega,rfl,by rw [gst_len,hl],gst_wd hd hcl hpl,hg⟩
end
section
variable {α : Type} {k : Nat}
theorem f181w_eq (hk : 10000 ≤ k) (rows0 : List (List F8)) (w : Nat) (hw : w ≤ rows0.length) (hr0 : rows0.length < 100) (hd0 : Wd rows0 (w + 1)) (K : List Int → Bool → Option α) :
  f181w k (rb rows0) (w : Int) (fun _ out ok => K out ok) = match gauss rows0 w with | some out => K (bs out) true | none => K [] false := by
 simp only [f181w,s181w,SumT.leaf,SumT.pre,SumT.seq,SumT.cond,SumT.block,SumT.blockP,SumT.loop,zB]
 refine lp_rule (fun q x => ∃ (c : Nat) (rows : List (List F8)),c + q = w ∧ x = (rb rows,(w : Int),(c : Int),(c : Int)) ∧ rows.length = rows0.length ∧ Wd rows (w + 1) ∧
  ((gcols q c rows).bind fun r => gfin r w) = gauss rows0 w) ?_ (m := w) ⟨0,rows0,by omega,rfl,rfl,hd0,rfl⟩ (by omega)
 rintro q x n2 ⟨c,rows,hcq,rfl,hl,hd,hg⟩ hn2
 cases q with
 | zero =>
  obtain rfl : c = w := by omega
  have hg : gfin rows c = gauss rows0 c := hg
  simp only []
  rw [dge (by omega),cond_false,← hg]
  refine lp_run2 (fun i out => (rb rows,(c : Int),bs out,(i : Int))) c (fun i out => out ++ [mt rows i c]) (fun i out => out.length = i) (by omega) (a := []) rfl ?_ ?_
  ·intro i out n3 hi hI
   refine ⟨?_,by rw [List.length_append,hI]; rfl⟩
   have hrow := hd i (by omega)
   simp only []
   rw [dlt (by omega),cond_true,rb_len,gd (by omega),Int.toNat_natCast,rb_getD,bs_len,hrow,gd (by omega),Int.toNat_natCast,bs_getD,bs_len,hI,gd (by simp; unfold room; omega),bs_snoc2,w64_id (by omega) (by omega)]
   rfl
  ·intro n3 hI
   simp only []
   rw [dge (by omega),cond_false,run_snoc,List.nil_append]
   unfold gfin
   refine lp_rule (fun q x => ∃ i : Nat,c ≤ i ∧ i + q = rows.length ∧ x = (rb rows,(c : Int),bs ((List.range c).map fun k => mt rows k c),(i : Int)) ∧
    gzero rows c i (rows.length - i) = gzero rows c c (rows.length - c)) ?_ (m := rows.length - c) ⟨c,Nat.le_refl _,by omega,rfl,rfl⟩ (by omega)
   rintro q x n4 ⟨i,hci,hi,rfl,hz⟩ hn4
   rw [← hz]
   cases q with
   | zero =>
    simp only []
    rw [rb_len,dge (by omega),cond_false,show rows.length - i = 0 by omega]
    rfl
   | succ q =>
    have hrow := hd i (by omega)
    simp only []
    rw [rb_len,dlt (by omega),cond_true,gd (by omega),Int.toNat_natCast,rb_getD,bs_len,hrow,gd (by omega),Int.toNat_natCast,bs_getD,show (rows.getD i []).getD c 0 = mt rows i c from rfl,
     show rows.length - i = (rows.length - (i + 1)) + 1 by omega,gzero]
    by_cases h0 : mt rows i c = 0
    ·rw [h0,show (ofG 0 != (0 : Int)) = false from rfl,cond_false,if_pos rfl,w64_id (by omega) (by omega)]
     have hz2 : gzero rows c (i + 1) (rows.length - (i + 1)) = gzero rows c c (rows.length - c) := by
      rw [← hz,show rows.length - i = (rows.length - (i + 1)) + 1 by omega,gzero,if_pos h0]
     have := hn4 q (rb rows,(c : Int),bs ((List.range c).map fun k => mt rows k c),((i + 1 : Nat) : Int)) (by omega) ⟨i + 1,by omega,by omega,rfl,hz2⟩
     rw [← hz2] at this
     exact this
    ·rw [bne_iff_ne.2 (fun h => h0 (ofG_eq_zero.1 h)),cond_true,if_neg h0]
     rfl
 | succ q =>
  simp only []
  rw [dlt (by omega),cond_true]
  have hcl : c < rows.length := by omega
  refine lp_rule (fun m x => ∃ i : Nat,c ≤ i ∧ i + m = rows.length ∧ x = (rb rows,(w : Int),(c : Int),(c : Int),(i : Int)) ∧ piv rows c i m = piv rows c c (rows.length - c)) ?_ (m := rows.length - c) ⟨c,Nat.le_refl _,by omega,rfl,rfl⟩ (by omega)
  rintro m x n3 ⟨i,hci,hi,rfl,hp⟩ hn3
  rw [gcols] at hg
  cases m with
  | zero =>
   simp only []
   rw [rb_len,dge (by omega),cond_false,show ((i : Int) == (rows.length : Int)) = true by simp; omega,cond_true]
   rw [← hp] at hg
   rw [← hg]
   rfl
  | succ m =>
   have hrow := hd i (by omega)
   simp only []
   rw [rb_len,dlt (by omega),cond_true,gd (by omega),Int.toNat_natCast,rb_getD,bs_len,hrow,gd (by omega),Int.toNat_natCast,bs_getD,show (rows.getD i []).getD c 0 = mt rows i c from rfl]
   rw [piv] at hp
   by_cases h3 : mt rows i c = 0
   ·rw [h3,show (ofG 0 == (0 : Int)) = true from rfl,cond_true,w64_id (by omega) (by omega)]
    rw [if_neg (fun h => h h3)] at hp
    exact hn3 m _ (by omega) ⟨i + 1,by omega,by omega,rfl,hp⟩
   ·rw [if_pos h3] at hp
    rw [← hp] at hg
    have hpl : i < rows.length := by omega
    have hpg : (((List.range rows.length).set c i).set i c).getD c 0 = i := by
     have := perm_getD hcl hpl hcl
     rwa [if_pos rfl] at this
    rw [show (ofG (mt rows i c) == (0 : Int)) = false from beq_eq_false_iff_ne.2 fun h => h3 (ofG_eq_zero.1 h),cond_false,show ((i : Int) == (rows.length : Int)) = false from beq_eq_false_iff_ne.2 (by omega),cond_false]
    rw [gd (by omega),gd (by omega),gd (by omega)]
    simp only [List.length_set,List.length_range,hpg]
    rw [gd (by omega),gd (by omega),rb_getD,bs_len,hrow,gd (by omega),bs_getD,show (rows.getD i []).getD c 0 = mt rows i c from rfl,f133_eq hk _ h3,gd (perm_ok hcl hpl rfl),perm_sw hcl hpl]
    have hl1 := lsw_len rows c i
    have hd1 := lsw_wd hd hcl hpl
    have hg1 : (lsw rows c i).getD c [] = rows.getD i [] := by rw [lsw_getD _ _ _ _ hcl hpl,if_pos rfl]
    rw [show (rb (lsw rows c i),(w : Int),(c : Int),(c : Int),ofG (ginv (mt rows i c)),(0 : Int)) = (rb ((lsw rows c i).set c (rows.getD i [])),(w : Int),(c : Int),(c : Int),ofG (ginv (mt rows i c)),((0 : Nat) : Int)) by rw [set_same hg1 (by omega)]; rfl]
    refine lp_run2 (fun j r => (rb ((lsw rows c i).set c r),(w : Int),(c : Int),(c : Int),ofG (ginv (mt rows i c)),(j : Int))) (w + 1) (fun j r => r.set j (gmul (r.getD j 0) (ginv (mt rows i c)))) (fun j r => r.length = w + 1) (by omega) (a := rows.getD i []) hrow ?_ ?_
    ·intro j r n4 hj hr
     refine ⟨?_,by rw [List.length_set,hr]⟩
     have eg : ((lsw rows c i).set c r).getD c [] = r := by rw [getD_set,if_pos ⟨rfl,by omega⟩]
     simp (disch := omega) only [gd,w64_id,wu64_id,room,Int.toNat_natCast,bs_len,List.length_set,List.length_append,List.length_replicate,List.length_cons,List.length_nil,bs_getD,bs_set,ofG_xor,cond_true,cond_false,dlt,dge,dle,dgt,Bool.not_true,Bool.not_false,rb_len,rb_getD,eg,hl1,hr,f131_eq hk,rb_set,List.set_set]
     rfl
    ·intro n4 _
     simp only []
     rw [dgt (by omega),cond_false]
     have hscl : run (fun j r => r.set j (gmul (r.getD j 0) (ginv (mt rows i c)))) 0 (w + 1) (rows.getD i []) = scl (rows.getD i []) (ginv (mt rows i c)) := by
      unfold scl
      rw [hrow]
     rw [hscl,show (lsw rows c i).set c (scl (rows.getD i []) (ginv (mt rows i c))) = gst1 rows c i from rfl]
     have hl1 := gst1_len rows c i
     have hd1 := gst1_wd hd hcl hpl
     refine lp_run2 (fun j rows' => (rb rows',(w : Int),(c : Int),(c : Int),(j : Int))) rows.length (lel1 c) (fun i rows' => rows'.length = rows.length ∧ Wd rows' (w + 1)) (by omega) (a := gst1 rows c i) ⟨hl1,hd1⟩ ?_ ?_
     ·rintro j rows' n5 hj ⟨hl',hd'⟩
      have hj' : j < rows'.length := by omega
      have hc' : c < rows'.length := by omega
      refine ⟨?_,by rw [lel1_len,hl'],lel1_wd hd' hj'⟩
      simp only []
      have e2 : w64 ((j : Int) + 1) = ((j + 1 : Nat) : Int) := w64_id (by omega) (by omega)
      rw [rb_len,dlt (by omega),cond_true,rb_getD,Int.toNat_natCast,Int.toNat_natCast,bs_len,hd' j hj',bs_getD,show (rows'.getD j []).getD c 0 = mt rows' j c from rfl]
      unfold lel1
      by_cases hic : j = c
      ·rw [show ((j : Int) == (c : Int)) = true by simp [hic],cond_true,e2,if_pos hic]
      ·rw [show ((j : Int) == (c : Int)) = false from beq_eq_false_iff_ne.2 (by omega),cond_false,if_neg hic,gd (by omega),gd (by omega)]
       by_cases h0 : mt rows' j c = 0
       ·rw [h0,show (ofG 0 == (0 : Int)) = true from rfl,cond_true,e2,paddAt_zero _ _ _ (by rw [hd' j hj',hd' c hc']; omega),set_same (d := []) rfl hj']
       ·rw [show (ofG (mt rows' j c) == (0 : Int)) = false from beq_eq_false_iff_ne.2 fun h => h0 (ofG_eq_zero.1 h),cond_false,gd (by omega),gd (by omega)]
        rw [show (rb rows',(w : Int),(c : Int),(c : Int),(j : Int),ofG (mt rows' j c),(0 : Int)) = (rb (rows'.set j (rows'.getD j [])),(w : Int),(c : Int),(c : Int),(j : Int),ofG (mt rows' j c),((0 : Nat) : Int)) by rw [set_same (d := []) rfl hj']; rfl]
        refine lp_run2 (fun t r => (rb (rows'.set j r),(w : Int),(c : Int),(c : Int),(j : Int),ofG (mt rows' j c),(t : Int))) (w + 1)
         (fun t r => r.set (0 + t) (r.getD (0 + t) 0 ^^^ gmul (mt rows' j c) ((rows'.getD c []).getD t 0))) (fun t r => r.length = w + 1) (by omega) (a := rows'.getD j []) (hd' j hj') ?_ ?_
        ·intro t r n6 ht hr
         refine ⟨?_,by rw [List.length_set,hr]⟩
         have eg : (rows'.set j r).getD j [] = r := by rw [getD_set,if_pos ⟨rfl,hj'⟩]
         have ec : (rows'.set j r).getD c [] = rows'.getD c [] := by rw [getD_set,if_neg (by omega)]
         have hcl2 := hd' c hc'
         simp (disch := omega) only [gd,w64_id,wu64_id,room,Int.toNat_natCast,bs_len,List.length_set,List.length_append,List.length_replicate,List.length_cons,List.length_nil,bs_getD,bs_set,ofG_xor,cond_true,cond_false,dlt,dge,dle,dgt,Bool.not_true,Bool.not_false,rb_len,rb_getD,eg,ec,hr,hcl2,f131_eq hk,rb_set,List.set_set,Nat.zero_add]
         rfl
        ·intro n6 hr
         simp only []
         rw [dgt (by omega),cond_false,e2]
         unfold paddAt
         rw [hd' c hc']
     ·rintro n5 ⟨hl2,_⟩
      simp only []
      rw [rb_len,hl2,dge (by omega),cond_false,w64_id (by omega) (by omega)]
      have hlel : run (lel1 c) 0 rows.length (gst1 rows c i) = gst rows c i := by
       unfold gst lel
       rw [hl1]
      rw [hlel]
      exact hn2 q _ (by omega) ⟨c + 1,gst rows c i,by omega,rfl,by rw [gst_len,hl],gst_wd hd hcl hpl,hg⟩
end
end Go.Proofs.YtkeiedikiiccpaaGreatDoor.Am
