/- The plain law: the program and the reference answer alike. -/
import Derived.Test.YtkeiedikiiccpaaGreatDoorL7
set_option linter.all false
namespace Go.Proofs.YtkeiedikiiccpaaGreatDoor.Am
open Go
abbrev sl6 (s : DT4) : List Int := [s.1,s.2.1,s.2.2.1,s.2.2.2.1,s.2.2.2.2.1,s.2.2.2.2.2]
def vsh : List Int → Int → Bool
 | [],sum => decide (sum ≤ 12)
 | w :: l,sum => bif decide (w < 0) then false else bif decide (w > 12) then false else vsh l (sum + w)
def vshape (s : DT4) : Bool := vsh (sl6 s) 0
theorem vsh_spec : ∀ {l : List Int} {sum : Int},vsh l sum = true → (∀ w ∈ l,0 ≤ w ∧ w ≤ 12) ∧ l.foldl (· + ·) sum ≤ 12
 | [],sum,h => ⟨fun w hw => (by cases hw),of_decide_eq_true h⟩
 | w :: l,sum,h => by
  rw [vsh] at h
  by_cases h1 : w < 0
  ·rw [decide_eq_true h1,cond_true] at h
   cases h
  ·rw [decide_eq_false h1,cond_false] at h
   by_cases h2 : w > 12
   ·rw [decide_eq_true h2,cond_true] at h
    cases h
   ·rw [decide_eq_false h2,cond_false] at h
    obtain ⟨h3,h4⟩ := vsh_spec h
    exact ⟨fun x hx => by
     rcases List.mem_cons.1 hx with rfl | hx
     ·omega
     ·exact h3 x hx,h4⟩
theorem drop_getD {β : Type} {l : List β} {i : Nat} (d : β) (h : i < l.length) : l.drop i = l.getD i d :: l.drop (i + 1) := by
 rw [List.drop_eq_getElem_cons h,List.getD_eq_getElem?_getD,List.getElem?_eq_getElem h]
 rfl
def bitsOf (s : DT4) : Int := s.1 + s.2.1 + s.2.2.1 + s.2.2.2.1 + s.2.2.2.2.1 + s.2.2.2.2.2
theorem vshape_spec {s : DT4} (h : vshape s = true) : (∀ w ∈ sl6 s,0 ≤ w ∧ w ≤ 12) ∧ bitsOf s ≤ 12 ∧ 0 ≤ bitsOf s := by
 obtain ⟨h1,h2⟩ := vsh_spec h
 simp only [List.foldl_cons,List.foldl_nil] at h2
 have := fun w hw => (h1 w hw).1
 simp only [sl6,List.mem_cons,List.not_mem_nil,or_false,forall_eq_or_imp,forall_eq] at this
 unfold bitsOf
 exact ⟨h1,by omega,by omega⟩
def szOf (s : DT4) : Int := bif vshape s then 2 ^ (bitsOf s).toNat else 0
theorem szOf_le (s : DT4) : 0 ≤ szOf s ∧ szOf s ≤ 4096 := by
 unfold szOf
 cases h : vshape s
 ·exact ⟨Int.le_refl 0,show (0 : Int) ≤ 4096 by decide⟩
 ·obtain ⟨_,h1,h2⟩ := vshape_spec h
  rw [cond_true]
  have : (2 : Int) ^ (bitsOf s).toNat = ((2 ^ (bitsOf s).toNat : Nat) : Int) := by simp
  rw [this]
  have h3 : 2 ^ (bitsOf s).toNat ≤ 2 ^ 12 := Nat.pow_le_pow_right (by omega) (by omega)
  generalize 2 ^ (bitsOf s).toNat = q at h3 ⊢
  omega
def vpl : List Int → List Int → Bool
 | w :: ws,n :: ns => bif decide (n < 0) then false else bif decide (n ≥ 2 ^ w.toNat) then false else vpl ws ns
 | _,_ => true
def vplace (s p : DT4) : Bool := vshape s && vpl (sl6 s) (sl6 p)
section
variable {α : Type} {k : Nat}
theorem f70_eq (s : DT4) (K : List Int → Option α) : f70 k s K = K (sl6 s) := rfl
theorem f60_eq (s : DT4) (K : List Int → Option α) : f60 k s K = K (sl6 s) := rfl
theorem f95_eq (s : DT4) (K : List Int → Option α) : f95 k s K = K (sl6 s) := rfl
theorem f82_eq (s : DT4) (K : List Int → Option α) : f82 k s K = K (sl6 s) := rfl
theorem f64_eq (hk : 10000 ≤ k) (s : DT4) (K : Bool → Option α) : f64 k s K = K (vshape s) := by
 simp only [f64,s64,SumT.leaf,SumT.pre,SumT.seq,SumT.cond,SumT.block,SumT.blockP,SumT.loop,zB]
 rw [f70_eq]
 show lpF _ k ((0 : Int),s,(0 : Int)) = _
 refine lp_rule (fun m x => ∃ (i : Nat) (sum : Int),i + m = 6 ∧ x = (sum,s,(i : Int)) ∧ 0 ≤ sum ∧ sum ≤ 12 * i ∧ vsh ((sl6 s).drop i) sum = vshape s) ?_ (m := 6) ⟨0,0,by omega,rfl,by omega,by omega,rfl⟩ (by omega)
 rintro m x n ⟨i,sum,hi,rfl,h1,h2,hv⟩ hn
 rw [← hv]
 cases m with
 | zero =>
  simp only []
  rw [dge (by omega),cond_false,List.drop_eq_nil_of_le (show (sl6 s).length ≤ i by simp; omega)]
  rfl
 | succ m =>
  have hl : i < (sl6 s).length := by simp; omega
  simp only []
  rw [dlt (by omega),cond_true,gd (by omega),Int.toNat_natCast,show [s.1,s.2.1,s.2.2.1,s.2.2.2.1,s.2.2.2.2.1,s.2.2.2.2.2] = sl6 s from rfl,drop_getD 0 hl,vsh]
  rw [drop_getD 0 hl,vsh] at hv
  generalize (sl6 s).getD i 0 = w at hv ⊢
  by_cases h3 : w < 0
  ·rw [decide_eq_true h3]
   rfl
  ·rw [decide_eq_false h3,cond_false,cond_false]
   rw [decide_eq_false h3,cond_false] at hv
   by_cases h4 : w > 12
   ·rw [decide_eq_true h4]
    rfl
   ·rw [decide_eq_false h4,cond_false,cond_false]
    rw [decide_eq_false h4,cond_false] at hv
    rw [w64_id (by omega) (by omega),w64_id (by omega) (by omega),hv]
    exact hn m _ (by omega) ⟨i + 1,sum + w,by omega,rfl,by omega,by omega,hv⟩
theorem f37_eq (hk : 10000 ≤ k) (s : DT4) (K : Bool → Option α) : f37 k s K = K (vshape s) := by
 simp only [f37,s37,SumT.leaf,SumT.pre,SumT.seq,SumT.cond,SumT.block,SumT.blockP,SumT.loop,zB]
 rw [f60_eq]
 show lpF _ k (sl6 s,(0 : Int),(0 : Int)) = _
 have hl6 : (sl6 s).length = 6 := rfl
 refine lp_rule (fun m x => ∃ (i : Nat) (sum : Int),i + m = 6 ∧ x = (sl6 s,sum,(i : Int)) ∧ 0 ≤ sum ∧ sum ≤ 12 * i ∧ vsh ((sl6 s).drop i) sum = vshape s) ?_ (m := 6) ⟨0,0,by omega,rfl,by omega,by omega,rfl⟩ (by omega)
 rintro m x n ⟨i,sum,hi,rfl,h1,h2,hv⟩ hn
 rw [← hv]
 cases m with
 | zero =>
  simp only []
  rw [dge (by omega),cond_false,List.drop_eq_nil_of_le (show (sl6 s).length ≤ i by omega)]
  rfl
 | succ m =>
  have hl : i < (sl6 s).length := by omega
  simp only []
  rw [dlt (by omega),cond_true,gd (by omega),Int.toNat_natCast,Nat.add_zero,gd (by omega),drop_getD 0 hl,vsh]
  rw [drop_getD 0 hl,vsh] at hv
  generalize (sl6 s).getD i 0 = w at hv ⊢
  by_cases h3 : w < 0
  ·rw [decide_eq_true h3]
   rfl
  ·rw [decide_eq_false h3,cond_false,cond_false,gd (by omega),gd (by omega)]
   rw [decide_eq_false h3,cond_false] at hv
   by_cases h4 : w > 12
   ·rw [decide_eq_true h4]
    rfl
   ·rw [decide_eq_false h4,cond_false,cond_false,gd (by omega),gd (by omega)]
    rw [decide_eq_false h4,cond_false] at hv
    rw [w64_id (by omega) (by omega),w64_id (by omega) (by omega),hv]
    exact hn m _ (by omega) ⟨i + 1,sum + w,by omega,rfl,by omega,by omega,hv⟩
theorem pow64 {w : Int} (h0 : 0 ≤ w) (h1 : w ≤ 12) : w64 (1 * 2 ^ (min w.toNat 64)) = ((2 ^ w.toNat : Nat) : Int) := by
 rw [show min w.toNat 64 = w.toNat by omega,Int.one_mul]
 have h3 : 2 ^ w.toNat ≤ 2 ^ 12 := Nat.pow_le_pow_right (by omega) (by omega)
 have : (2 : Int) ^ w.toNat = ((2 ^ w.toNat : Nat) : Int) := by simp
 rw [this]
 generalize 2 ^ w.toNat = q at h3 ⊢
 rw [w64_id (by omega) (by omega)]
theorem f38_eq (hk : 10000 ≤ k) (s : DT4) (h : vshape s = true) (K : Int → Option α) : f38 k s K = K (bitsOf s) := by
 obtain ⟨h1,h2,h3⟩ := vshape_spec h
 simp only [f38,s38,SumT.leaf,SumT.pre,SumT.seq,SumT.cond,SumT.block,SumT.blockP,SumT.loop,zB]
 rw [f60_eq]
 show lpF _ k (sl6 s,(0 : Int),(0 : Int)) = _
 have hl6 : (sl6 s).length = 6 := rfl
 have hb : ∀ i,i < 6 → 0 ≤ (sl6 s).getD i 0 ∧ (sl6 s).getD i 0 ≤ 12 := fun i hi => h1 _ (getD_mem 0 (by omega))
 refine lp_run2 (fun i (sum : Int) => (sl6 s,sum,(i : Int))) 6 (fun i sum => sum + (sl6 s).getD i 0) (fun i sum => 0 ≤ sum ∧ sum ≤ 12 * i) (by omega) (a := 0) ⟨by omega,by omega⟩ ?_ ?_
 ·rintro i sum n hi ⟨h4,h5⟩
  have := hb i hi
  refine ⟨?_,by omega,by omega⟩
  simp only []
  rw [dlt (by omega),cond_true,gd (by omega),Int.toNat_natCast,Nat.add_zero,gd (by omega),w64_id (by omega) (by omega),w64_id (by omega) (by omega)]
  rfl
 ·intro n _
  simp only []
  rw [dge (by omega),cond_false]
  congr 1
  show 0 + s.1 + s.2.1 + s.2.2.1 + s.2.2.2.1 + s.2.2.2.2.1 + s.2.2.2.2.2 = _
  unfold bitsOf
  omega
theorem f13_eq (hk : 10000 ≤ k) (s : DT4) (K : Int → Option α) : f13 k s K = K (szOf s) := by
 simp only [f13,s13,SumT.leaf,SumT.pre,SumT.seq,SumT.cond,SumT.block,SumT.blockP,SumT.loop,zB]
 rw [f37_eq hk]
 unfold szOf
 cases h : vshape s
 ·rfl
 ·obtain ⟨h1,h2,h3⟩ := vshape_spec h
  rw [Bool.not_true,cond_false,cond_true,f38_eq hk s h,wu64_id (by omega) (by omega),gd (by omega),pow64 h3 h2]
  simp
theorem f41_eq (hk : 10000 ≤ k) (s : DT4) (K : Int → Option α) : f41 k s K = K (szOf s) := by
 simp only [f41,s41,SumT.leaf,SumT.pre,SumT.seq,SumT.cond,SumT.block,SumT.blockP,SumT.loop,zB]
 rw [f64_eq hk]
 unfold szOf
 cases h : vshape s
 ·rfl
 ·obtain ⟨h1,h2,h3⟩ := vshape_spec h
  rw [Bool.not_true,cond_false,cond_true,f70_eq]
  show lpF _ k ((1 : Int),s,(0 : Int)) = _
  have hl6 : (sl6 s).length = 6 := rfl
  have hb : ∀ i,i < 6 → 0 ≤ (sl6 s).getD i 0 ∧ (sl6 s).getD i 0 ≤ 12 := fun i hi => h1 _ (getD_mem 0 (by omega))
  have hpre : ∀ i,i ≤ 6 → run (fun i (t : Nat) => t + ((sl6 s).getD i 0).toNat) 0 i 0 ≤ 12 := by
   have hlast : run (fun i (t : Nat) => t + ((sl6 s).getD i 0).toNat) 0 6 0 ≤ 12 := by
    show 0 + s.1.toNat + s.2.1.toNat + s.2.2.1.toNat + s.2.2.2.1.toNat + s.2.2.2.2.1.toNat + s.2.2.2.2.2.toNat ≤ 12
    have := fun w hw => (h1 w hw).1
    simp only [sl6,List.mem_cons,List.not_mem_nil,or_false,forall_eq_or_imp,forall_eq] at this
    unfold bitsOf at h2
    omega
   intro i hi
   have hm : ∀ d i,run (fun i (t : Nat) => t + ((sl6 s).getD i 0).toNat) 0 i 0 ≤ run (fun i (t : Nat) => t + ((sl6 s).getD i 0).toNat) 0 (i + d) 0 := by
    intro d
    induction d with
    | zero => exact fun i => Nat.le_refl _
    | succ d ih =>
     intro i
     rw [show i + (d + 1) = (i + d) + 1 by omega,run_succ]
     exact Nat.le_trans (ih i) (Nat.le_add_right _ _)
   have := hm (6 - i) i
   rw [show i + (6 - i) = 6 by omega] at this
   omega
  refine lp_run2 (fun i (t : Nat) => (((2 ^ t : Nat) : Int),s,(i : Int))) 6 (fun i t => t + ((sl6 s).getD i 0).toNat) (fun i t => i ≤ 6 ∧ t = run (fun i (t : Nat) => t + ((sl6 s).getD i 0).toNat) 0 i 0) (by omega) (a := 0) ⟨by omega,rfl⟩ ?_ ?_
  ·rintro i t n hi ⟨h4,h5⟩
   have hbi := hb i hi
   have h6 := hpre (i + 1) (by omega)
   have h7 : run (fun i (t : Nat) => t + ((sl6 s).getD i 0).toNat) 0 (i + 1) 0 = t + ((sl6 s).getD i 0).toNat := by rw [run_succ,← h5,Nat.zero_add]
   refine ⟨?_,by omega,h7.symm⟩
   simp only []
   rw [dlt (by omega),cond_true,gd (by omega),Int.toNat_natCast,show [s.1,s.2.1,s.2.2.1,s.2.2.2.1,s.2.2.2.2.1,s.2.2.2.2.2] = sl6 s from rfl,gd (by omega),show min ((sl6 s).getD i 0).toNat 64 = ((sl6 s).getD i 0).toNat by omega]
   have e : ((2 ^ t : Nat) : Int) * 2 ^ ((sl6 s).getD i 0).toNat = ((2 ^ (t + ((sl6 s).getD i 0).toNat) : Nat) : Int) := by
    rw [Nat.pow_add]
    simp
   have h8 : 2 ^ (t + ((sl6 s).getD i 0).toNat) ≤ 2 ^ 12 := Nat.pow_le_pow_right (by omega) (by omega)
   rw [e]
   have h9 : w64 ((2 ^ (t + ((sl6 s).getD i 0).toNat) : Nat) : Int) = ((2 ^ (t + ((sl6 s).getD i 0).toNat) : Nat) : Int) := by
    generalize 2 ^ (t + ((sl6 s).getD i 0).toNat) = q at h8 ⊢
    exact w64_id (by omega) (by omega)
   rw [h9,w64_id (by omega) (by omega)]
   rfl
  ·intro n hI
   simp only []
   rw [dge (by omega),cond_false]
   have : run (fun i (t : Nat) => t + ((sl6 s).getD i 0).toNat) 0 6 0 = (bitsOf s).toNat := by
    show 0 + s.1.toNat + s.2.1.toNat + s.2.2.1.toNat + s.2.2.2.1.toNat + s.2.2.2.2.1.toNat + s.2.2.2.2.2.toNat = _
    have := fun w hw => (h1 w hw).1
    simp only [sl6,List.mem_cons,List.not_mem_nil,or_false,forall_eq_or_imp,forall_eq] at this
    unfold bitsOf
    omega
   rw [this]
   simp
theorem shr_ne {n w : Int} (hn : 0 ≤ n) (h0 : 0 ≤ w) (h1 : w ≤ 12) : (Int.fdiv n (2 ^ (min w.toNat 64)) != 0) = decide (n ≥ 2 ^ w.toNat) := by
 rw [show min w.toNat 64 = w.toNat by omega]
 have e : (2 : Int) ^ w.toNat = ((2 ^ w.toNat : Nat) : Int) := by simp
 have hp : 0 < 2 ^ w.toNat := Nat.pow_pos (by omega)
 rw [e]
 generalize 2 ^ w.toNat = q at hp ⊢
 rw [Int.fdiv_eq_ediv_of_nonneg _ (by omega)]
 obtain ⟨a,rfl⟩ : ∃ a : Nat,n = a := ⟨n.toNat,by omega⟩
 rw [Bool.eq_iff_iff,bne_iff_ne,decide_eq_true_eq,← Int.natCast_ediv]
 constructor
 ·intro h
  refine Int.not_lt.1 fun h2 => h ?_
  rw [Nat.div_eq_of_lt (by omega)]
  rfl
 ·intro h h2
  have : a / q = 0 := by omega
  have := (Nat.div_eq_zero_iff_lt hp).1 this
  omega
theorem f94_eq (hk : 10000 ≤ k) (s p : DT4) (K : Bool → Option α) : f94 k s p K = K (vplace s p) := by
 simp only [f94,s94,SumT.leaf,SumT.pre,SumT.seq,SumT.cond,SumT.block,SumT.blockP,SumT.loop,zB]
 rw [f64_eq hk]
 unfold vplace
 cases h : vshape s
 ·rfl
 ·obtain ⟨h1,h2,h3⟩ := vshape_spec h
  rw [Bool.not_true,cond_false,Bool.true_and,f70_eq,f95_eq]
  show lpF _ k (sl6 s,p,(0 : Int)) = _
  have hl6 : (sl6 s).length = 6 := rfl
  have hl6p : (sl6 p).length = 6 := rfl
  have hb : ∀ i,i < 6 → 0 ≤ (sl6 s).getD i 0 ∧ (sl6 s).getD i 0 ≤ 12 := fun i hi => h1 _ (getD_mem 0 (by omega))
  refine lp_rule (fun m x => ∃ i : Nat,i + m = 6 ∧ x = (sl6 s,p,(i : Int)) ∧ vpl ((sl6 s).drop i) ((sl6 p).drop i) = vpl (sl6 s) (sl6 p)) ?_ (m := 6) ⟨0,by omega,rfl,rfl⟩ (by omega)
  rintro m x n ⟨i,hi,rfl,hv⟩ hn
  rw [← hv]
  cases m with
  | zero =>
   simp only []
   rw [dge (by omega),cond_false,List.drop_eq_nil_of_le (show (sl6 s).length ≤ i by omega)]
   rfl
  | succ m =>
   have hbi := hb i (by omega)
   simp only []
   rw [dlt (by omega),cond_true,gd (by omega),Int.toNat_natCast,Nat.add_zero,show [p.1,p.2.1,p.2.2.1,p.2.2.2.1,p.2.2.2.2.1,p.2.2.2.2.2] = sl6 p from rfl,drop_getD 0 (show i < (sl6 s).length by omega),drop_getD 0 (show i < (sl6 p).length by omega),vpl]
   rw [drop_getD 0 (show i < (sl6 s).length by omega),drop_getD 0 (show i < (sl6 p).length by omega),vpl] at hv
   generalize (sl6 s).getD i 0 = w at hv hbi ⊢
   generalize (sl6 p).getD i 0 = q at hv ⊢
   by_cases h4 : q < 0
   ·rw [decide_eq_true h4]
    rfl
   ·rw [decide_eq_false h4,cond_false,cond_false,gd (by omega),gd (by omega),gd (by omega),shr_ne (by omega) hbi.1 hbi.2]
    rw [decide_eq_false h4,cond_false] at hv
    cases h5 : decide (q ≥ 2 ^ w.toNat)
    ·rw [h5,cond_false] at hv
     rw [cond_false,cond_false,w64_id (by omega) (by omega),hv]
     exact hn m _ (by omega) ⟨i + 1,by omega,rfl,hv⟩
    ·rfl
theorem f81_eq (hk : 10000 ≤ k) (s p : DT4) (K : Bool → Option α) : f81 k s p K = K (vplace s p) := by
 simp only [f81,s81,SumT.leaf,SumT.pre,SumT.seq,SumT.cond,SumT.block,SumT.blockP,SumT.loop,zB]
 rw [f37_eq hk]
 unfold vplace
 cases h : vshape s
 ·rfl
 ·obtain ⟨h1,h2,h3⟩ := vshape_spec h
  rw [Bool.not_true,cond_false,Bool.true_and,f60_eq,f82_eq]
  show lpF _ k (sl6 s,sl6 p,(0 : Int)) = _
  have hl6 : (sl6 s).length = 6 := rfl
  have hl6p : (sl6 p).length = 6 := rfl
  have hb : ∀ i,i < 6 → 0 ≤ (sl6 s).getD i 0 ∧ (sl6 s).getD i 0 ≤ 12 := fun i hi => h1 _ (getD_mem 0 (by omega))
  refine lp_rule (fun m x => ∃ i : Nat,i + m = 6 ∧ x = (sl6 s,sl6 p,(i : Int)) ∧ vpl ((sl6 s).drop i) ((sl6 p).drop i) = vpl (sl6 s) (sl6 p)) ?_ (m := 6) ⟨0,by omega,rfl,rfl⟩ (by omega)
  rintro m x n ⟨i,hi,rfl,hv⟩ hn
  rw [← hv]
  cases m with
  | zero =>
   simp only []
   rw [dge (by omega),cond_false,List.drop_eq_nil_of_le (show (sl6 s).length ≤ i by omega)]
   rfl
  | succ m =>
   have hbi := hb i (by omega)
   simp only []
   rw [dlt (by omega),cond_true,gd (by omega),Int.toNat_natCast,Nat.add_zero,gd (by omega),drop_getD 0 (show i < (sl6 s).length by omega),drop_getD 0 (show i < (sl6 p).length by omega),vpl]
   rw [drop_getD 0 (show i < (sl6 s).length by omega),drop_getD 0 (show i < (sl6 p).length by omega),vpl] at hv
   generalize (sl6 s).getD i 0 = w at hv hbi ⊢
   generalize (sl6 p).getD i 0 = q at hv ⊢
   by_cases h4 : q < 0
   ·rw [decide_eq_true h4]
    rfl
   ·rw [decide_eq_false h4,cond_false,cond_false,gd (by omega),gd (by omega),gd (by omega),gd (by omega),wu64_id (by omega) (by omega),gd (by omega),pow64 hbi.1 hbi.2,show ((2 ^ w.toNat : Nat) : Int) = 2 ^ w.toNat by simp]
    rw [decide_eq_false h4,cond_false] at hv
    cases h5 : decide (q ≥ 2 ^ w.toNat)
    ·rw [h5,cond_false] at hv
     rw [cond_false,cond_false,w64_id (by omega) (by omega),hv]
     exact hn m _ (by omega) ⟨i + 1,by omega,rfl,hv⟩
    ·rfl
end
def nmd (kind : Int) : List Bool := bif kind == 1 then [true,true,true,true,true,true] else bif kind == 2 then [true,true,true,true,true,false] else bif kind == 3 then [true,true,true,true,false,true] else
 bif kind == 4 then [true,true,true,true,false,false] else bif kind == 5 then [true,true,true,false,false,false] else bif kind == 6 then [true,true,false,false,false,false] else [false,false,false,false,false,false]
def known (kind : Int) : Bool := decide (1 ≤ kind) && decide (kind ≤ 6)
theorem nmd_len (kind : Int) : (nmd kind).length = 6 := by
 unfold nmd
 cases kind == 1 <;> cases kind == 2 <;> cases kind == 3 <;> cases kind == 4 <;> cases kind == 5 <;> cases kind == 6 <;> rfl
theorem names_nmd {kind : Int} (h : known kind = true) {i : Nat} (hi : i < 6) : namesT.getD (i + (kind.toNat * 6 + 0)) false = (nmd kind).getD i false := by
 unfold known at h
 simp only [Bool.and_eq_true,decide_eq_true_eq] at h
 have hk : kind = 1 ∨ kind = 2 ∨ kind = 3 ∨ kind = 4 ∨ kind = 5 ∨ kind = 6 := by omega
 have key : ∀ kd : Fin 7,1 ≤ kd.val → ∀ i : Fin 6,namesT.getD (i.val + (kd.val * 6 + 0)) false = (nmd (kd.val : Int)).getD i.val false := by decide +kernel
 rcases hk with rfl | rfl | rfl | rfl | rfl | rfl
 ·exact key 1 (by decide) ⟨i,hi⟩
 ·exact key 2 (by decide) ⟨i,hi⟩
 ·exact key 3 (by decide) ⟨i,hi⟩
 ·exact key 4 (by decide) ⟨i,hi⟩
 ·exact key 5 (by decide) ⟨i,hi⟩
 ·exact key 6 (by decide) ⟨i,hi⟩
theorem namesT_len : namesT.length = 42 := rfl
def vnm : List Bool → List Int → Bool
 | l :: ls,n :: ns => bif n != 0 && !l then false else vnm ls ns
 | _,_ => true
def vcv : List Bool → List Int → List Int → Bool
 | l :: ls,a :: as_,b :: bs => bif l && a != b then false else vcv ls as_ bs
 | _,_,_ => true
abbrev plOf (f : DT1) : DT4 := (f.2.1,f.2.2.1,f.2.2.2.1,f.2.2.2.2.1,f.2.2.2.2.2.1,f.2.2.2.2.2.2.1)
def vend (chips : Int) (f : DT1) : Bool := decide (0 ≤ f.2.2.2.2.2.2.2.1) && (decide (f.2.2.2.2.2.2.2.1 < chips) && (f.2.2.2.2.2.2.2.2.1 != 0 && (bitI .andNot .u8 f.2.2.2.2.2.2.2.2.2.1 f.2.2.2.2.2.2.2.2.1 == 0 && (f.2.2.2.2.2.2.2.2.2.2 || f.2.2.2.2.2.2.2.2.2.1 == 0))))
def vfault (s : DT4) (chips : Int) (f : DT1) : Bool := known f.1 && (vplace s (plOf f) && (vnm (nmd f.1) (sl6 (plOf f)) && vend chips f))
def cov (f : DT1) (p : DT4) : Bool := known f.1 && vcv (nmd f.1) (sl6 (plOf f)) (sl6 p)
def atStep (s : DT4) (j : Nat) (x : Int × List Int) : Int × List Int := (x.1 / 2 ^ ((sl6 s).getD (5 - j) 0).toNat,x.2.set (5 - j) (x.1 % 2 ^ ((sl6 s).getD (5 - j) 0).toNat))
def atL (s : DT4) (index : Int) : List Int := (run (atStep s) 0 6 (index,[0,0,0,0,0,0])).2
def atP4 (s : DT4) (index : Int) : DT4 := ((atL s index).getD 0 0,(atL s index).getD 1 0,(atL s index).getD 2 0,(atL s index).getD 3 0,(atL s index).getD 4 0,(atL s index).getD 5 0)
theorem and_mask {x : Int} {w : Nat} (h0 : 0 ≤ x) (h1 : x < 9223372036854775808) (hw : w ≤ 12) : bitI .and .i64 x (w64 (((2 ^ w : Nat) : Int) - 1)) = x % 2 ^ w := by
 have h3 : 2 ^ w ≤ 2 ^ 12 := Nat.pow_le_pow_right (by omega) hw
 have hp : 0 < 2 ^ w := Nat.pow_pos (by omega)
 have e0 : w64 (((2 ^ w : Nat) : Int) - 1) = ((2 ^ w - 1 : Nat) : Int) := by
  generalize 2 ^ w = q at h3 hp ⊢
  rw [w64_id (by omega) (by omega)]
  omega
 rw [e0]
 obtain ⟨a,rfl⟩ : ∃ a : Nat,x = a := ⟨x.toNat,by omega⟩
 show w64 ((BitVec.ofInt 64 (a : Int) &&& BitVec.ofInt 64 ((2 ^ w - 1 : Nat) : Int)).toNat : Int) = _
 have h2 : (BitVec.ofInt 64 (a : Int) &&& BitVec.ofInt 64 ((2 ^ w - 1 : Nat) : Int)).toNat = a % 2 ^ w := by
  rw [BitVec.toNat_and,BitVec.ofInt_natCast,BitVec.ofInt_natCast,BitVec.toNat_ofNat,BitVec.toNat_ofNat,Nat.mod_eq_of_lt (by omega)]
  rw [Nat.mod_eq_of_lt (a := 2 ^ w - 1) (by generalize 2 ^ w = q at h3 hp ⊢; omega)]
  exact Nat.and_two_pow_sub_one_eq_mod a w
 have h4 := Nat.mod_lt a hp
 rw [h2]
 have e : (2 : Int) ^ w = ((2 ^ w : Nat) : Int) := by simp
 rw [e,← Int.natCast_emod]
 generalize a % 2 ^ w = q at h4 ⊢
 generalize 2 ^ w = r at h4 h3
 exact w64_id (by omega) (by omega)
section
variable {α : Type} {k : Nat}
theorem f93_eq (kind : Int) (K : Bool → Option α) : f93 k kind K = K (known kind) := by
 simp only [f93,s93,SumT.leaf,SumT.pre,SumT.seq,SumT.cond,SumT.block,SumT.blockP,SumT.loop,zB]
 unfold known
 rw [show decide (kind ≥ 1) = decide (1 ≤ kind) from rfl]
 cases decide (1 ≤ kind) <;> rfl
theorem f80_eq (kind : Int) (K : List Bool → Bool → Option α) : f80 k kind K = K (nmd kind) (known kind) := by
 simp only [f80,s80,SumT.leaf,SumT.pre,SumT.seq,SumT.cond,SumT.block,SumT.blockP,SumT.loop,zB]
 unfold nmd known
 by_cases h1 : kind = 1
 ·subst h1; rfl
 rw [beq_eq_false_iff_ne.2 h1]
 by_cases h2 : kind = 2
 ·subst h2; rfl
 rw [beq_eq_false_iff_ne.2 h2]
 by_cases h3 : kind = 3
 ·subst h3; rfl
 rw [beq_eq_false_iff_ne.2 h3]
 by_cases h4 : kind = 4
 ·subst h4; rfl
 rw [beq_eq_false_iff_ne.2 h4]
 by_cases h5 : kind = 5
 ·subst h5; rfl
 rw [beq_eq_false_iff_ne.2 h5]
 by_cases h6 : kind = 6
 ·subst h6; rfl
 rw [beq_eq_false_iff_ne.2 h6]
 have : (decide (1 ≤ kind) && decide (kind ≤ 6)) = false := by
  rw [Bool.and_eq_false_iff,decide_eq_false_iff_not,decide_eq_false_iff_not]
  omega
 rw [this]
 rfl
theorem f68_eq (hk : 10000 ≤ k) (s : DT4) (chips : Int) (f : DT1) (K : Bool → Option α) : f68 k s chips f K = K (vfault s chips f) := by
 simp only [f68,s68,SumT.leaf,SumT.pre,SumT.seq,SumT.cond,SumT.block,SumT.blockP,SumT.loop,zB]
 rw [f93_eq,f94_eq hk]
 unfold vfault
 cases hkn : known f.1
 ·rfl
 rw [Bool.not_true,cond_false,Bool.true_and]
 cases hpl : vplace s (plOf f)
 ·rfl
 rw [Bool.not_true,cond_false,Bool.true_and,f95_eq]
 show lpF _ k (chips,f,plOf f,(0 : Int)) = _
 have hkn' := hkn
 unfold known at hkn'
 simp only [Bool.and_eq_true,decide_eq_true_eq] at hkn'
 have hl6 : (sl6 (plOf f)).length = 6 := rfl
 have hln := nmd_len f.1
 refine lp_rule (fun m x => ∃ i : Nat,i + m = 6 ∧ x = (chips,f,plOf f,(i : Int)) ∧ vnm ((nmd f.1).drop i) ((sl6 (plOf f)).drop i) = vnm (nmd f.1) (sl6 (plOf f))) ?_ (m := 6) ⟨0,by omega,rfl,rfl⟩ (by omega)
 rintro m x n ⟨i,hi,rfl,hv⟩ hn
 rw [← hv]
 cases m with
 | zero =>
  simp only []
  rw [dge (by omega),cond_false,List.drop_eq_nil_of_le (show (nmd f.1).length ≤ i by omega),show vnm [] ((sl6 (plOf f)).drop i) = true from rfl,Bool.true_and]
  unfold vend
  rw [show decide (f.2.2.2.2.2.2.2.1 ≥ 0) = decide (0 ≤ f.2.2.2.2.2.2.2.1) from rfl]
  cases decide (0 ≤ f.2.2.2.2.2.2.2.1) <;> cases decide (f.2.2.2.2.2.2.2.1 < chips) <;> cases f.2.2.2.2.2.2.2.2.1 != 0 <;> cases bitI .andNot .u8 f.2.2.2.2.2.2.2.2.2.1 f.2.2.2.2.2.2.2.2.1 == 0 <;> cases f.2.2.2.2.2.2.2.2.2.2 <;> rfl
 | succ m =>
  simp only []
  rw [dlt (by omega),cond_true,gd (by omega),Int.toNat_natCast,namesT_len,names_nmd hkn (by omega),show [f.2.1,f.2.2.1,f.2.2.2.1,f.2.2.2.2.1,f.2.2.2.2.2.1,f.2.2.2.2.2.2.1] = sl6 (plOf f) from rfl]
  rw [drop_getD false (show i < (nmd f.1).length by omega),drop_getD 0 (show i < (sl6 (plOf f)).length by omega),vnm] at hv ⊢
  generalize (sl6 (plOf f)).getD i 0 = q at hv ⊢
  generalize (nmd f.1).getD i false = l at hv ⊢
  cases hq : q != 0
  ·rw [hq,Bool.false_and,cond_false] at hv
   rw [cond_false,Bool.false_and,cond_false,w64_id (by omega) (by omega),hv]
   exact hn m _ (by omega) ⟨i + 1,by omega,rfl,hv⟩
  ·rw [hq,Bool.true_and] at hv
   rw [cond_true,Bool.true_and,gd (by omega),gd (by omega),gd (by omega),gd (by omega)]
   cases l
   ·rfl
   ·rw [Bool.not_true,cond_false] at hv
    rw [Bool.not_true,cond_false,cond_false,w64_id (by omega) (by omega),hv]
    exact hn m _ (by omega) ⟨i + 1,by omega,rfl,hv⟩
theorem nmd_list (kind : Int) : [(nmd kind).getD 0 false,(nmd kind).getD 1 false,(nmd kind).getD 2 false,(nmd kind).getD 3 false,(nmd kind).getD 4 false,(nmd kind).getD 5 false] = nmd kind := by
 unfold nmd
 cases kind == 1 <;> cases kind == 2 <;> cases kind == 3 <;> cases kind == 4 <;> cases kind == 5 <;> cases kind == 6 <;> rfl
theorem f49_eq (hk : 10000 ≤ k) (s : DT4) (chips : Int) (f : DT1) (K : Bool → Option α) : f49 k s chips f K = K (vfault s chips f) := by
 simp only [f49,s49,SumT.leaf,SumT.pre,SumT.seq,SumT.cond,SumT.block,SumT.blockP,SumT.loop,zB]
 rw [f80_eq,f81_eq hk,f82_eq]
 simp only [nmd_list]
 unfold vfault
 cases hkn : known f.1
 ·rfl
 rw [Bool.not_true,cond_false,Bool.true_and]
 cases hpl : vplace s (plOf f)
 ·rfl
 rw [Bool.not_true,cond_false,Bool.true_and]
 have hl6 : (sl6 (plOf f)).length = 6 := rfl
 have hln := nmd_len f.1
 have hfin : ∀ (A B : Option α),(bif decide (f.2.2.2.2.2.2.2.1 < 0) then A else bif decide (f.2.2.2.2.2.2.2.1 ≥ chips) then A else bif f.2.2.2.2.2.2.2.2.1 == 0 then A else bif bitI .andNot .u8 f.2.2.2.2.2.2.2.2.2.1 f.2.2.2.2.2.2.2.2.1 != 0 then A else bif !f.2.2.2.2.2.2.2.2.2.2 then (bif f.2.2.2.2.2.2.2.2.2.1 != 0 then A else B) else B) = bif vend chips f then B else A := fun A B => by
  unfold vend
  rw [show decide (f.2.2.2.2.2.2.2.1 < 0) = !decide (0 ≤ f.2.2.2.2.2.2.2.1) by rw [← decide_not]; congr 1; rw [Int.not_le],show decide (f.2.2.2.2.2.2.2.1 ≥ chips) = !decide (f.2.2.2.2.2.2.2.1 < chips) by rw [← decide_not]; congr 1; rw [Int.not_lt],
   bne,bne,bne]
  cases decide (0 ≤ f.2.2.2.2.2.2.2.1) <;> cases decide (f.2.2.2.2.2.2.2.1 < chips) <;> cases f.2.2.2.2.2.2.2.2.1 == 0 <;> cases bitI .andNot .u8 f.2.2.2.2.2.2.2.2.2.1 f.2.2.2.2.2.2.2.2.1 == 0 <;> cases f.2.2.2.2.2.2.2.2.2.2 <;> cases f.2.2.2.2.2.2.2.2.2.1 == 0 <;> rfl
 refine (hfin _ _).trans ?_
 cases hve : vend chips f
 ·rw [cond_false,cond_true,Bool.and_false]
 rw [cond_true,Bool.and_true]
 show lpF _ k (nmd f.1,sl6 (plOf f),(0 : Int)) = _
 refine lp_rule (fun m x => ∃ i : Nat,i + m = 6 ∧ x = (nmd f.1,sl6 (plOf f),(i : Int)) ∧ vnm ((nmd f.1).drop i) ((sl6 (plOf f)).drop i) = vnm (nmd f.1) (sl6 (plOf f))) ?_ (m := 6) ⟨0,by omega,rfl,rfl⟩ (by omega)
 rintro m x n ⟨i,hi,rfl,hv⟩ hn
 rw [← hv]
 cases m with
 | zero =>
  simp only []
  rw [dge (by omega),cond_false,List.drop_eq_nil_of_le (show (nmd f.1).length ≤ i by omega),show vnm [] ((sl6 (plOf f)).drop i) = true from rfl]
 | succ m =>
  simp only []
  rw [dlt (by omega),cond_true,gd (by omega),Int.toNat_natCast,Nat.add_zero,gd (by omega)]
  rw [drop_getD false (show i < (nmd f.1).length by omega),drop_getD 0 (show i < (sl6 (plOf f)).length by omega),vnm] at hv ⊢
  generalize hq' : (sl6 (plOf f)).getD i 0 = q at hv ⊢
  generalize (nmd f.1).getD i false = l at hv ⊢
  cases l
  ·rw [Bool.not_false,cond_true,gd (by omega),gd (by omega),Bool.and_true]
   rw [Bool.not_false,Bool.and_true] at hv
   cases hq : q != 0
   ·rw [hq,cond_false] at hv
    rw [cond_false,cond_false,w64_id (by omega) (by omega),hv]
    exact hn m _ (by omega) ⟨i + 1,by omega,rfl,hv⟩
   ·rfl
  ·rw [Bool.not_true,Bool.and_false,cond_false] at hv
   rw [Bool.not_true,cond_false,Bool.and_false,cond_false,w64_id (by omega) (by omega),hv]
   exact hn m _ (by omega) ⟨i + 1,by omega,rfl,hv⟩
theorem f102_eq (hk : 10000 ≤ k) (f : DT1) (p : DT4) (K : Bool → Option α) : f102 k f p K = K (cov f p) := by
 simp only [f102,s102,SumT.leaf,SumT.pre,SumT.seq,SumT.cond,SumT.block,SumT.blockP,SumT.loop,zB]
 rw [f93_eq]
 unfold cov
 cases hkn : known f.1
 ·rfl
 rw [Bool.not_true,cond_false,Bool.true_and,f95_eq,f95_eq]
 have hkn' := hkn
 unfold known at hkn'
 simp only [Bool.and_eq_true,decide_eq_true_eq] at hkn'
 have hln := nmd_len f.1
 rw [gd (by omega),namesT_len,gd (by omega),gd (by omega)]
 have e : ∀ i,i < 6 → namesT.getD (f.1.toNat * 6 + 0 + i) false = (nmd f.1).getD i false := fun i hi => by rw [Nat.add_comm (f.1.toNat * 6 + 0) i]; exact names_nmd hkn hi
 rw [e 0 (by omega),e 1 (by omega),e 2 (by omega),e 3 (by omega),e 4 (by omega),e 5 (by omega)]
 show lpF _ k (sl6 (plOf f),sl6 p,((nmd f.1).getD 0 false,(nmd f.1).getD 1 false,(nmd f.1).getD 2 false,(nmd f.1).getD 3 false,(nmd f.1).getD 4 false,(nmd f.1).getD 5 false),(0 : Int)) = _
 have hl6 : (sl6 (plOf f)).length = 6 := rfl
 have hl6p : (sl6 p).length = 6 := rfl
 refine lp_rule (fun m x => ∃ i : Nat,i + m = 6 ∧ x = (sl6 (plOf f),sl6 p,((nmd f.1).getD 0 false,(nmd f.1).getD 1 false,(nmd f.1).getD 2 false,(nmd f.1).getD 3 false,(nmd f.1).getD 4 false,(nmd f.1).getD 5 false),(i : Int)) ∧
  vcv ((nmd f.1).drop i) ((sl6 (plOf f)).drop i) ((sl6 p).drop i) = vcv (nmd f.1) (sl6 (plOf f)) (sl6 p)) ?_ (m := 6) ⟨0,by omega,rfl,rfl⟩ (by omega)
 rintro m x n ⟨i,hi,rfl,hv⟩ hn
 rw [← hv]
 cases m with
 | zero =>
  simp only []
  rw [dge (by omega),cond_false,List.drop_eq_nil_of_le (show (nmd f.1).length ≤ i by omega)]
  rfl
 | succ m =>
  simp only [nmd_list]
  rw [dlt (by omega),cond_true,gd (by omega),Int.toNat_natCast,Nat.add_zero]
  rw [drop_getD false (show i < (nmd f.1).length by omega),drop_getD 0 (show i < (sl6 (plOf f)).length by omega),drop_getD 0 (show i < (sl6 p).length by omega),vcv] at hv ⊢
  generalize hqa : (sl6 (plOf f)).getD i 0 = qa at hv ⊢
  generalize hqb : (sl6 p).getD i 0 = qb at hv ⊢
  generalize (nmd f.1).getD i false = l at hv ⊢
  cases l
  ·rw [Bool.false_and,cond_false] at hv
   rw [cond_false,Bool.false_and,cond_false,w64_id (by omega) (by omega),hv]
   exact hn m _ (by omega) ⟨i + 1,by omega,rfl,hv⟩
  ·rw [Bool.true_and] at hv
   rw [cond_true,Bool.true_and,gd (by omega),gd (by omega),gd (by omega),gd (by omega)]
   cases hq : qa != qb
   ·rw [hq,cond_false] at hv
    rw [cond_false,cond_false,w64_id (by omega) (by omega),hv]
    exact hn m _ (by omega) ⟨i + 1,by omega,rfl,hv⟩
   ·rfl
theorem f84_eq (hk : 10000 ≤ k) (f : DT1) (p : DT4) (K : Bool → Option α) : f84 k f p K = K (cov f p) := by
 simp only [f84,s84,SumT.leaf,SumT.pre,SumT.seq,SumT.cond,SumT.block,SumT.blockP,SumT.loop,zB]
 rw [f80_eq]
 unfold cov
 cases hkn : known f.1
 ·rfl
 rw [Bool.not_true,cond_false,Bool.true_and,f82_eq,f82_eq,nmd_list]
 have hln := nmd_len f.1
 show lpF _ k (nmd f.1,sl6 (plOf f),sl6 p,(0 : Int)) = _
 have hl6 : (sl6 (plOf f)).length = 6 := rfl
 have hl6p : (sl6 p).length = 6 := rfl
 refine lp_rule (fun m x => ∃ i : Nat,i + m = 6 ∧ x = (nmd f.1,sl6 (plOf f),sl6 p,(i : Int)) ∧
  vcv ((nmd f.1).drop i) ((sl6 (plOf f)).drop i) ((sl6 p).drop i) = vcv (nmd f.1) (sl6 (plOf f)) (sl6 p)) ?_ (m := 6) ⟨0,by omega,rfl,rfl⟩ (by omega)
 rintro m x n ⟨i,hi,rfl,hv⟩ hn
 rw [← hv]
 cases m with
 | zero =>
  simp only []
  rw [dge (by omega),cond_false,List.drop_eq_nil_of_le (show (nmd f.1).length ≤ i by omega)]
  rfl
 | succ m =>
  simp only []
  rw [dlt (by omega),cond_true,gd (by omega),Int.toNat_natCast,Nat.add_zero,gd (by omega)]
  rw [drop_getD false (show i < (nmd f.1).length by omega),drop_getD 0 (show i < (sl6 (plOf f)).length by omega),drop_getD 0 (show i < (sl6 p).length by omega),vcv] at hv ⊢
  generalize hqa : (sl6 (plOf f)).getD i 0 = qa at hv ⊢
  generalize hqb : (sl6 p).getD i 0 = qb at hv ⊢
  generalize (nmd f.1).getD i false = l at hv ⊢
  cases l
  ·rw [Bool.false_and,cond_false] at hv
   rw [cond_false,Bool.false_and,cond_false,w64_id (by omega) (by omega),hv]
   exact hn m _ (by omega) ⟨i + 1,by omega,rfl,hv⟩
  ·rw [Bool.true_and] at hv
   rw [cond_true,Bool.true_and,gd (by omega),gd (by omega),gd (by omega),gd (by omega)]
   cases hq : qa != qb
   ·rw [hq,cond_false] at hv
    rw [cond_false,cond_false,w64_id (by omega) (by omega),hv]
    exact hn m _ (by omega) ⟨i + 1,by omega,rfl,hv⟩
   ·rfl
theorem div_nn {x : Int} {w : Nat} (h0 : 0 ≤ x) : 0 ≤ x / 2 ^ w ∧ x / 2 ^ w ≤ x := by
 have hp : (0 : Int) < 2 ^ w := Int.pow_pos (by decide)
 exact ⟨Int.ediv_nonneg h0 (Int.le_of_lt hp),Int.ediv_le_self _ h0⟩
theorem f101_eq (hk : 10000 ≤ k) (s : DT4) (index : Int) (h : vshape s = true) (h0 : 0 ≤ index) (h1 : index < szOf s) (K : DT4 → Int → Option α) : f101 k s index K = K (atP4 s index) 0 := by
 obtain ⟨hv1,hv2,hv3⟩ := vshape_spec h
 have hsz := szOf_le s
 simp only [f101,s101,SumT.leaf,SumT.pre,SumT.seq,SumT.cond,SumT.block,SumT.blockP,SumT.loop,zB]
 rw [f64_eq hk,h,Bool.not_true,cond_false,decide_eq_false (by omega),cond_false,f41_eq hk,decide_eq_false (by omega),cond_false,f70_eq]
 show lpF _ k (index,((0 : Int),(0 : Int),(0 : Int),(0 : Int),(0 : Int),(0 : Int)),[(0 : Int),0,0,0,0,0],sl6 s,(5 : Int)) = _
 have hl6 : (sl6 s).length = 6 := rfl
 have hb : ∀ i,i < 6 → 0 ≤ (sl6 s).getD i 0 ∧ (sl6 s).getD i 0 ≤ 12 := fun i hi => hv1 _ (getD_mem 0 (by omega))
 refine lp_run2 (fun j (x : Int × List Int) => (x.1,((0 : Int),(0 : Int),(0 : Int),(0 : Int),(0 : Int),(0 : Int)),x.2,sl6 s,(5 : Int) - j)) 6 (atStep s) (fun j x => 0 ≤ x.1 ∧ x.1 ≤ 4096 ∧ x.2.length = 6) (by omega) (a := (index,[0,0,0,0,0,0])) ⟨h0,by show index ≤ 4096; omega,rfl⟩ ?_ ?_
 ·rintro j ⟨x,l⟩ n hj ⟨hx0,hx1,hl⟩
  have hx0 : 0 ≤ x := hx0
  have hx1 : x ≤ 4096 := hx1
  have hl : l.length = 6 := hl
  have hbj := hb (5 - j) (by omega)
  have hd := div_nn (w := ((sl6 s).getD (5 - j) 0).toNat) hx0
  refine ⟨?_,hd.1,Int.le_trans hd.2 hx1,by show (l.set _ _).length = 6; rw [List.length_set,hl]⟩
  simp only []
  have e5 : ((5 : Int) - j).toNat = 5 - j := by omega
  rw [dle (by omega),cond_true,gd (by omega),e5,Nat.add_zero,gd (by omega),gd (by omega),gd (by omega),gd (by omega),gd (by omega),gd (by omega),gd (by omega),pow64 hbj.1 hbj.2,and_mask hx0 (by omega) (by omega),
   show min ((sl6 s).getD (5 - j) 0).toNat 64 = ((sl6 s).getD (5 - j) 0).toNat by omega,Int.fdiv_eq_ediv_of_nonneg _ (Int.le_of_lt (Int.pow_pos (by decide))),w64_id (by omega) (by omega),show (5 : Int) - j - 1 = 5 - ((j + 1 : Nat) : Int) by omega]
  rfl
 ·rintro n ⟨_,_,hl⟩
  simp only []
  rw [dgt (by omega),cond_false,hl,gd (by omega)]
  rfl
theorem f83_eq (hk : 10000 ≤ k) (s : DT4) (index : Int) (h : vshape s = true) (h0 : 0 ≤ index) (h1 : index < szOf s) (K : DT4 → Int → Option α) : f83 k s index K = K (atP4 s index) 0 := by
 obtain ⟨hv1,hv2,hv3⟩ := vshape_spec h
 have hsz := szOf_le s
 simp only [f83,s83,SumT.leaf,SumT.pre,SumT.seq,SumT.cond,SumT.block,SumT.blockP,SumT.loop,zB]
 rw [f37_eq hk,h,Bool.not_true,cond_false,decide_eq_false (by omega),cond_false,f13_eq hk,decide_eq_false (by omega),cond_false,f60_eq]
 show lpF _ k (index,((0 : Int),(0 : Int),(0 : Int),(0 : Int),(0 : Int),(0 : Int)),sl6 s,[(0 : Int),0,0,0,0,0],(5 : Int)) = _
 have hl6 : (sl6 s).length = 6 := rfl
 have hb : ∀ i,i < 6 → 0 ≤ (sl6 s).getD i 0 ∧ (sl6 s).getD i 0 ≤ 12 := fun i hi => hv1 _ (getD_mem 0 (by omega))
 refine lp_run2 (fun j (x : Int × List Int) => (x.1,((0 : Int),(0 : Int),(0 : Int),(0 : Int),(0 : Int),(0 : Int)),sl6 s,x.2,(5 : Int) - j)) 6 (atStep s) (fun j x => 0 ≤ x.1 ∧ x.1 ≤ 4096 ∧ x.2.length = 6) (by omega) (a := (index,[0,0,0,0,0,0])) ⟨h0,by show index ≤ 4096; omega,rfl⟩ ?_ ?_
 ·rintro j ⟨x,l⟩ n hj ⟨hx0,hx1,hl⟩
  have hx0 : 0 ≤ x := hx0
  have hx1 : x ≤ 4096 := hx1
  have hl : l.length = 6 := hl
  have hbj := hb (5 - j) (by omega)
  have hd := div_nn (w := ((sl6 s).getD (5 - j) 0).toNat) hx0
  refine ⟨?_,hd.1,Int.le_trans hd.2 hx1,by show (l.set _ _).length = 6; rw [List.length_set,hl]⟩
  simp only []
  have e5 : ((5 : Int) - j).toNat = 5 - j := by omega
  have hne : ¬ (((2 ^ ((sl6 s).getD (5 - j) 0).toNat : Nat) : Int) = 0) := by
   have : 0 < 2 ^ ((sl6 s).getD (5 - j) 0).toNat := Nat.pow_pos (by omega)
   generalize 2 ^ ((sl6 s).getD (5 - j) 0).toNat = q at this ⊢
   omega
  rw [dle (by omega),cond_true,gd (by omega),e5,Nat.add_zero,gd (by omega),wu64_id (by omega) (by omega),gd (by omega),pow64 hbj.1 hbj.2,if_neg hne,gd (by omega),gd (by omega),gd (by omega),gd (by omega),gd (by omega),if_neg hne,Int.tdiv_eq_ediv_of_nonneg hx0,Int.tmod_eq_emod_of_nonneg hx0,
   show ((2 ^ ((sl6 s).getD (5 - j) 0).toNat : Nat) : Int) = 2 ^ ((sl6 s).getD (5 - j) 0).toNat by simp,w64_id (by omega) (by omega),w64_id (by omega) (by omega),show (5 : Int) - j - 1 = 5 - ((j + 1 : Nat) : Int) by omega]
  rfl
 ·rintro n ⟨_,_,hl⟩
  simp only []
  rw [dgt (by omega),cond_false,hl,gd (by omega),gd (by omega),gd (by omega),gd (by omega),gd (by omega),gd (by omega)]
  rfl
end
end Go.Proofs.YtkeiedikiiccpaaGreatDoor.Am
