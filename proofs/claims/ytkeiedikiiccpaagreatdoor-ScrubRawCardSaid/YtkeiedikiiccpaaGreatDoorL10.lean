/- The plain law: the program and the reference answer alike. -/
import Derived.Test.YtkeiedikiiccpaaGreatDoorL9
set_option linter.all false
namespace Go.Proofs.YtkeiedikiiccpaaGreatDoor.Am
open Go
def Byt (l : List Int) : Prop := ∀ x ∈ l,0 ≤ x ∧ x < 256
theorem Byt.set {l : List Int} (h : Byt l) (i : Nat) {x : Int} (hx : 0 ≤ x ∧ x < 256) : Byt (l.set i x) := fun y hy => by
 rcases List.mem_or_eq_of_mem_set hy with h1 | rfl
 ·exact h y h1
 ·exact hx
theorem Byt.bs (l : List F8) : Byt (bs l) := fun x hx => by
 obtain ⟨a,_,rfl⟩ := List.mem_map.1 hx
 exact ⟨ofG_nn a,ofG_lt a⟩
theorem Byt.rep (n : Nat) : Byt (List.replicate n 0) := fun x hx => by
 rw [(List.mem_replicate.1 hx).2]
 omega
theorem or_byt (x y : Int) : 0 ≤ bitI .or .u8 x y ∧ bitI .or .u8 x y < 256 := by
 have h : ∀ z : Int,0 ≤ w8 z ∧ w8 z < 256 := fun z => by
  simp only [w8,IntKind.wrap,IntKind.bits,IntKind.signed]
  simp
  omega
 exact h _
theorem vws_iff {size n : Int} : ∀ {ws : List DT0} {last : Int},vws size n ws last = true ↔ (∀ w ∈ ws,last < w.1 ∧ w.1 < size ∧ ((List.length w.2.1 : Nat) : Int) = n ∧ blank w = false) ∧ Srt ws
 | [],last => ⟨fun _ => ⟨fun w hw => (by cases hw),List.Pairwise.nil⟩,fun _ => rfl⟩
 | w :: ws,last => by
  rw [vws]
  constructor
  ·intro h
   cases h1 : decide (w.1 ≤ last) <;> rw [h1] at h
   case true => cases h
   cases h2 : decide (w.1 ≥ size) <;> rw [h2] at h
   case true => cases h
   cases h3 : (((List.length w.2.1 : Nat) : Int) != n) <;> rw [h3] at h
   case true => cases h
   cases h4 : blank w <;> rw [h4] at h
   case true => cases h
   simp only [cond_false] at h
   have h1 := of_decide_eq_false h1
   have h2 := of_decide_eq_false h2
   have h3 : ((List.length w.2.1 : Nat) : Int) = n := by simpa using h3
   obtain ⟨h5,h6⟩ := vws_iff.1 h
   refine ⟨fun v hv => ?_,List.pairwise_cons.2 ⟨fun v hv => (h5 v hv).1,h6⟩⟩
   rcases List.mem_cons.1 hv with rfl | hv
   ·exact ⟨by omega,by omega,h3,h4⟩
   ·have := h5 v hv
    exact ⟨by omega,this.2⟩
  ·rintro ⟨h1,h2⟩
   obtain ⟨h3,h4⟩ := List.pairwise_cons.1 h2
   obtain ⟨a1,a2,a3,a4⟩ := h1 w (by simp)
   rw [decide_eq_false (by omega),decide_eq_false (by omega),a3,a4,show (n != n) = false by simp]
   exact vws_iff.2 ⟨fun v hv => ⟨h3 v hv,(h1 v (by simp [hv])).2⟩,h4⟩
theorem vfs_all {s : DT4} {n : Int} : ∀ {fs pre : List DT1},vfs s n pre fs = true → ∀ f ∈ fs,vfault s n f = true
 | f :: r,pre,h,g,hg => by
  rw [vfs] at h
  cases h1 : f.2.2.2.2.2.2.2.2.2.2 <;> rw [h1] at h
  case false => cases h
  cases h2 : vfault s n f <;> rw [h2] at h
  case false => cases h
  cases h3 : pre.any (fun x => eqf f x) <;> rw [h3] at h
  case true => cases h
  rcases List.mem_cons.1 hg with rfl | hg
  ·exact h2
  ·exact vfs_all h g hg
abbrev chipOf (f : DT1) : Int := f.2.2.2.2.2.2.2.1
theorem vfault_chip {s : DT4} {n : Int} {f : DT1} (h : vfault s n f = true) : 0 ≤ chipOf f ∧ chipOf f < n := by
 unfold vfault vend at h
 simp only [Bool.and_eq_true,decide_eq_true_eq] at h
 exact ⟨h.2.2.2.1,h.2.2.2.2.1⟩
structure VM (s : DT4) (c : DT5) (ws : List DT0) (fs : List DT1) : Prop where
 sh : vshape s = true
 cd : vcode c = true
 fl : fs.length ≤ 64
 ok : ∀ w ∈ ws,0 ≤ w.1 ∧ w.1 < szOf s ∧ ((List.length w.2.1 : Nat) : Int) = chips c ∧ blank w = false ∧ Byt w.2.1
 so : Srt ws
 ft : vfs s (chips c) [] fs = true
theorem vm_of {s : DT4} {c : DT5} {ws : List DT0} {fs : List DT1} (h : vmem s c ws fs = true) (hb : ∀ w ∈ ws,Byt w.2.1) : VM s c ws fs := by
 unfold vmem at h
 cases h1 : vshape s <;> rw [h1] at h
 case false => cases h
 cases h2 : vcode c <;> rw [h2] at h
 case false => cases h
 cases h3 : decide (((fs.length : Nat) : Int) > 64) <;> rw [h3] at h
 case true => cases h
 simp only [Bool.not_true,cond_false,Bool.and_eq_true] at h
 have h3 := of_decide_eq_false h3
 obtain ⟨h4,h5⟩ := vws_iff.1 h.1
 exact ⟨h1,h2,by omega,fun w hw => by
  obtain ⟨a1,a2,a3,a4⟩ := h4 w hw
  exact ⟨by omega,a2,a3,a4,hb w hw⟩,h5,h.2⟩
section
variable {s : DT4} {c : DT5} {ws : List DT0} {fs : List DT1}
theorem VM.mem (h : VM s c ws fs) : vmem s c ws fs = true := by
 unfold vmem
 rw [h.sh,h.cd,decide_eq_false (by have := h.fl; omega),h.ft,vws_iff.2 ⟨fun w hw => ?_,h.so⟩]
 ·rfl
 ·obtain ⟨a1,a2,a3,a4,_⟩ := h.ok w hw
  exact ⟨by omega,a2,a3,a4⟩
theorem srt_len : ∀ {ws : List DT0} {N lo : Int},Srt ws → (∀ w ∈ ws,lo ≤ w.1 ∧ w.1 < N) → lo ≤ N → (ws.length : Int) ≤ N - lo
 | [],N,lo,_,_,h => by simp; omega
 | w :: ws,N,lo,hs,hb,h => by
  obtain ⟨h1,h2⟩ := List.pairwise_cons.1 hs
  have h3 := hb w (by simp)
  have := srt_len (ws := ws) (N := N) (lo := w.1 + 1) h2 (fun v hv => by
   have := h1 v hv
   have := hb v (by simp [hv])
   omega) (by omega)
  simp only [List.length_cons]
  omega
theorem VM.mb (h : VM s c ws fs) : MB ws fs := by
 have hsz := szOf_le s
 have h1 := srt_len (N := szOf s) (lo := 0) h.so (fun w hw => ⟨(h.ok w hw).1,(h.ok w hw).2.1⟩) hsz.1
 have hch := chips_le h.cd
 refine ⟨by omega,by have := h.fl; omega,fun w hw => ?_⟩
 have := (h.ok w hw).2.2.1
 unfold room
 omega
theorem mem_take_drop {w v : DT0} (h : v ∈ putW ws w) : v ∈ ws ∨ v = w ∧ blank w = false := by
 rw [putW_eq] at h
 rcases List.mem_append.1 h with h | h
 ·rcases List.mem_append.1 h with h | h
  ·exact .inl (List.mem_of_mem_take h)
  ·unfold nb at h
   cases hb : blank w
   ·rw [hb,cond_false,List.mem_singleton] at h
    exact .inr ⟨h,rfl⟩
   ·rw [hb] at h
    cases h
 ·exact .inl (List.mem_of_mem_drop h)
theorem putW_srt {w : DT0} (hs : Srt ws) : Srt (putW ws w) := by
 rw [putW_eq]
 have h1 : Srt (ws.take (lb w.1 ws)) := hs.sublist (List.take_sublist _ _)
 have h2 : Srt (ws.drop (skp w.1 ws)) := hs.sublist (List.drop_sublist _ _)
 have ht : ∀ a ∈ ws.take (lb w.1 ws),a.1 < w.1 := fun a ha => by
  obtain ⟨i,hi,rfl⟩ := List.mem_iff_getElem.1 ha
  have hi2 : i < lb w.1 ws := by rw [List.length_take] at hi; omega
  have := lb_lt hi2
  rw [List.getElem_take]
  rwa [List.getD_eq_getElem?_getD,List.getElem?_eq_getElem (by have := lb_le w.1 ws; omega)] at this
 obtain ⟨k1,k2,k3⟩ := skp_le w.1 ws
 have hd : ∀ b ∈ ws.drop (skp w.1 ws),w.1 < b.1 := fun b hb => by
  obtain ⟨i,hi,rfl⟩ := List.mem_iff_getElem.1 hb
  rw [List.length_drop] at hi
  rw [List.getElem_drop]
  have hge := lb_ge hs (show lb w.1 ws ≤ skp w.1 ws + i by omega) (by omega)
  have e : (ws.getD (skp w.1 ws + i) zT0).1 = ws[skp w.1 ws + i].1 := by
   rw [List.getD_eq_getElem?_getD,List.getElem?_eq_getElem (by omega)]
   rfl
  rw [e] at hge
  by_cases h0 : lb w.1 ws = skp w.1 ws + i
  ·
   have hf : fnd w.1 ws = false := by
    unfold skp at h0 k1
    cases h : fnd w.1 ws
    ·rfl
    ·rw [h] at h0
     simp at h0
     omega
   unfold fnd at hf
   rw [decide_eq_true (show lb w.1 ws < ws.length by omega),Bool.true_and,beq_eq_false_iff_ne,h0,e] at hf
   omega
  ·have h3 := lb_ge hs (Nat.le_refl (lb w.1 ws)) (by omega)
   have h4 := List.pairwise_iff_getElem.1 hs (lb w.1 ws) (skp w.1 ws + i) (by omega) (by omega) (by omega)
   rw [List.getD_eq_getElem?_getD,List.getElem?_eq_getElem (show lb w.1 ws < ws.length by omega)] at h3
   have h3 : w.1 ≤ ws[lb w.1 ws].1 := h3
   omega
 have hnb : ∀ b ∈ nb w,b = w := fun b hb => by
  unfold nb at hb
  cases h : blank w <;> rw [h] at hb
  ·simpa using hb
  ·cases hb
 refine List.pairwise_append.2 ⟨List.pairwise_append.2 ⟨h1,?_,fun a ha b hb => ?_⟩,h2,fun a ha b hb => ?_⟩
 ·unfold nb
  cases blank w
  ·exact List.pairwise_singleton _ _
  ·exact List.Pairwise.nil
 ·rw [hnb b hb]
  exact ht a ha
 ·have h5 := hd b hb
  rcases List.mem_append.1 ha with h | h
  ·have := ht a h
   omega
  ·rw [hnb a h]
   exact h5
theorem VM.put (h : VM s c ws fs) {w : DT0} (h0 : 0 ≤ w.1) (h1 : w.1 < szOf s) (h2 : ((List.length w.2.1 : Nat) : Int) = chips c) (h3 : Byt w.2.1) : VM s c (putW ws w) fs :=
 ⟨h.sh,h.cd,h.fl,fun v hv => by
  rcases mem_take_drop hv with hv | ⟨rfl,hb⟩
  ·exact h.ok v hv
  ·exact ⟨h0,h1,h2,hb,h3⟩,putW_srt h.so,h.ft⟩
theorem VM.lk (h : VM s c ws fs) (t : Int) : (lkW t (chips c).toNat ws).1 = t ∧ ((List.length (lkW t (chips c).toNat ws).2.1 : Nat) : Int) = chips c ∧ Byt (lkW t (chips c).toNat ws).2.1 := by
 have hch := chips_le h.cd
 unfold lkW
 cases hf : fnd t ws
 ·refine ⟨rfl,?_,Byt.rep _⟩
  show ((List.length (List.replicate _ _) : Nat) : Int) = _
  rw [List.length_replicate]
  omega
 ·unfold fnd at hf
  simp only [Bool.and_eq_true,decide_eq_true_eq,beq_iff_eq] at hf
  obtain ⟨_,_,a3,_,a5⟩ := h.ok _ (getD_mem zT0 hf.1)
  exact ⟨hf.2,a3,a5⟩
end
def flt (f : DT1) (w : DT0) : DT0 := (w.1,List.set w.2.1 (chipOf f).toNat (bitI .or .u8 (bitI .andNot .u8 (List.getD w.2.1 (chipOf f).toNat 0) f.2.2.2.2.2.2.2.2.1) f.2.2.2.2.2.2.2.2.2.1),w.2.2)
def seenW (fs : List DT1) (p : DT4) (w : DT0) : DT0 := run (fun i w => bif cov (fs.getD i zT1) p then flt (fs.getD i zT1) w else w) 0 fs.length w
theorem seenW_ok (fs : List DT1) (p : DT4) (w : DT0) (hb : Byt w.2.1) : (seenW fs p w).1 = w.1 ∧ List.length (seenW fs p w).2.1 = List.length w.2.1 ∧ Byt (seenW fs p w).2.1 ∧ (seenW fs p w).2.2 = w.2.2 :=
 run_inv (fun _ (v : DT0) => v.1 = w.1 ∧ List.length v.2.1 = List.length w.2.1 ∧ Byt v.2.1 ∧ v.2.2 = w.2.2) _ _ _ ⟨rfl,rfl,hb,rfl⟩ fun j v _ _ ⟨h1,h2,h3,h4⟩ => by
  cases cov (fs.getD j zT1) p
  ·exact ⟨h1,h2,h3,h4⟩
  ·exact ⟨h1,by show List.length (List.set _ _ _) = _; rw [List.length_set,h2],h3.set _ (or_byt _ _),h4⟩
section
variable {α : Type} {k : Nat} {s : DT4} {c : DT5} {ws : List DT0} {fs : List DT1}
theorem f76_eq (hk : 10000 ≤ k) (h : VM s c ws fs) (t : Int) (h0 : 0 ≤ t) (h1 : t < szOf s) (K : DT0 → Option α) : f76 k (mk s c ws fs) t K = K (seenW fs (atP4 s t) (lkW t (chips c).toNat ws)) := by
 simp only [f76,s76,SumT.leaf,SumT.pre,SumT.seq,SumT.cond,SumT.block,SumT.blockP,SumT.loop,zB]
 obtain ⟨l1,l2,l3⟩ := h.lk t
 have hfl := h.fl
 rw [f100_eq hk s c ws fs t h.so h.mb h.cd]
 simp only [mk,peta]
 rw [f101_eq hk s t h.sh h0 h1]
 generalize lkW t (chips c).toNat ws = w at l1 l2 l3
 generalize atP4 s t = p
 refine lp_run2 (fun i w => (zT0,w,p,fs,(fs.length : Int),(i : Int))) fs.length (fun i w => bif cov (fs.getD i zT1) p then flt (fs.getD i zT1) w else w) (fun _ v => ((List.length v.2.1 : Nat) : Int) = chips c) (by omega) (a := w) l2 ?_ ?_
 ·intro i v n hi hI
  have hch := vfault_chip (vfs_all h.ft _ (getD_mem zT1 hi))
  simp only [chipOf] at hch
  simp only []
  rw [dlt (by omega),cond_true,gd (by omega),Int.toNat_natCast,f102_eq hk]
  cases hcv : cov (fs.getD i zT1) p
  ·rw [cond_false,cond_false,w64_id (by omega) (by omega)]
   exact ⟨rfl,hI⟩
  ·rw [cond_true,cond_true,gd (by omega),gd (by omega),w64_id (by omega) (by omega)]
   exact ⟨rfl,by show ((List.length (List.set _ _ _) : Nat) : Int) = _; rw [List.length_set,hI]⟩
 ·intro n _
  simp only []
  rw [dge (by omega),cond_false]
  rfl
theorem f88_eq (hk : 10000 ≤ k) (h : VM s c ws fs) (t : Int) (h0 : 0 ≤ t) (h1 : t < szOf s) (K : DT0 → Option α) : f88 k (mk s c ws fs) t K = K (seenW fs (atP4 s t) (lkW t (chips c).toNat ws)) := by
 simp only [f88,s88,SumT.leaf,SumT.pre,SumT.seq,SumT.cond,SumT.block,SumT.blockP,SumT.loop,zB]
 obtain ⟨l1,l2,l3⟩ := h.lk t
 have hfl := h.fl
 rw [f51_eq hk s c ws fs t h.so h.mb h.cd]
 simp only [mk,peta]
 rw [f83_eq hk s t h.sh h0 h1]
 generalize lkW t (chips c).toNat ws = w at l1 l2 l3
 generalize atP4 s t = p
 refine lp_run2 (fun i w => (mk s c ws fs,zT0,w,p,(i : Int))) fs.length (fun i w => bif cov (fs.getD i zT1) p then flt (fs.getD i zT1) w else w) (fun _ v => ((List.length v.2.1 : Nat) : Int) = chips c) (by omega) (a := w) l2 ?_ ?_
 ·intro i v n hi hI
  have hch := vfault_chip (vfs_all h.ft _ (getD_mem zT1 hi))
  simp only [chipOf] at hch
  simp only []
  rw [dlt (by omega),cond_true,gd (by omega),Int.toNat_natCast,f84_eq hk]
  cases hcv : cov (fs.getD i zT1) p
  ·rw [cond_false,cond_false,w64_id (by omega) (by omega)]
   exact ⟨rfl,hI⟩
  ·rw [cond_true,cond_true,gd (by omega),gd (by omega),w64_id (by omega) (by omega)]
   exact ⟨rfl,by show ((List.length (List.set _ _ _) : Nat) : Int) = _; rw [List.length_set,hI]⟩
 ·intro n _
  simp only []
  rw [dge (by omega),cond_false]
  rfl
def ascI (E : List Int) : Nat → Nat → Bool
 | _,0 => true
 | i,n + 1 => bif decide (E.getD (i - 1) 0 ≥ E.getD i 0) then false else ascI E (i + 1) n
def oob (n p : Int) : Bool := decide (p < 0) || decide (p ≥ n)
def eok (c : DT5) (E : List Int) : Int := bif E.any (oob (chips c)) then 2 else bif !ascI E 1 (E.length - 1) then 17 else bif decide (((E.length : Nat) : Int) > bif c.1 == 1 then 0 else c.2.2.1) then 3 else 0
theorem f71_eq (hk : 10000 ≤ k) (E : List Int) (n : Int) (hl : E.length ≤ 100) (K : Bool → Option α) : f71_72 k E n K = K (E.any (oob n)) := by
 simp only [f71_72,s71_72,SumT.leaf,SumT.pre,SumT.seq,SumT.cond,SumT.block,SumT.blockP,SumT.loop,zB]
 simp only [f97_72,s97_72,SumT.leaf,SumT.pre,SumT.seq,SumT.cond,SumT.block,SumT.blockP,SumT.loop,zB]
 refine lp_rule (fun m x => ∃ i : Nat,i + m = E.length ∧ x = (E,n,(E.length : Int),(i : Int)) ∧ (E.drop i).any (oob n) = E.any (oob n)) ?_ (m := E.length) ⟨0,by omega,rfl,rfl⟩ (by omega)
 rintro m x n' ⟨i,hi,rfl,hc⟩ hn
 cases m with
 | zero =>
  simp only []
  rw [← hc,dge (by omega),cond_false,List.drop_eq_nil_of_le (by omega)]
  rfl
 | succ m =>
  have hi' : i < E.length := by omega
  rw [drop_getD 0 hi',List.any_cons] at hc
  simp only []
  rw [dlt (by omega),cond_true,gd (by omega),Int.toNat_natCast]
  simp only [f72,s72,SumT.leaf,SumT.pre,SumT.seq,SumT.cond,SumT.block,SumT.blockP,SumT.loop,zB]
  have e : ∀ A : Bool → Option α,(bif decide (E.getD i 0 < 0) then A true else A (decide (E.getD i 0 ≥ n))) = A (oob n (E.getD i 0)) := fun A => by
   unfold oob
   cases decide (E.getD i 0 < 0) <;> rfl
  rw [e (fun t => bif t then K (decide ((i : Int) ≥ 0)) else n' (E,n,(E.length : Int),w64 ((i : Int) + 1)))]
  cases he : oob n (E.getD i 0)
  ·rw [he,Bool.false_or] at hc
   rw [cond_false,w64_id (by omega) (by omega)]
   exact hn m _ (by omega) ⟨i + 1,by omega,rfl,hc⟩
  ·rw [he,Bool.true_or] at hc
   rw [cond_true,← hc,decide_eq_true (by omega)]
theorem f73_eq (hk : 10000 ≤ k) (E : List Int) (hl : E.length ≤ 100) (K : Bool → Option α) : f73 k E K = K (ascI E 1 (E.length - 1)) := by
 simp only [f73,s73,SumT.leaf,SumT.pre,SumT.seq,SumT.cond,SumT.block,SumT.blockP,SumT.loop,zB]
 by_cases h0 : E.length = 0
 ·obtain ⟨k',rfl⟩ : ∃ k',k = k' + 1 := ⟨k - 1,by omega⟩
  rw [lpF]
  simp only []
  rw [dge (by omega),cond_false,h0]
  rfl
 refine lp_rule (fun m x => ∃ i : Nat,1 ≤ i ∧ i + m = E.length ∧ x = (E,(i : Int)) ∧ ascI E i m = ascI E 1 (E.length - 1)) ?_ (m := E.length - 1) ⟨1,Nat.le_refl _,by omega,rfl,rfl⟩ (by omega)
 rintro m x n ⟨i,hi1,hi,rfl,hc⟩ hn
 cases m with
 | zero =>
  simp only []
  rw [← hc,dge (by omega),cond_false]
  rfl
 | succ m =>
  have e1 : w64 ((i : Int) - 1) = ((i - 1 : Nat) : Int) := by
   rw [w64_id (by omega) (by omega)]
   omega
  rw [ascI] at hc
  simp only [e1]
  rw [dlt (by omega),cond_true,gd (by omega),gd (by omega),Int.toNat_natCast,Int.toNat_natCast]
  cases he : decide (E.getD (i - 1) 0 ≥ E.getD i 0)
  ·rw [he,cond_false] at hc
   rw [cond_false,w64_id (by omega) (by omega)]
   exact hn m _ (by omega) ⟨i + 1,by omega,by omega,rfl,hc⟩
  ·rw [he,cond_true] at hc
   rw [cond_true,← hc]
theorem f42_eq (hk : 10000 ≤ k) (c : DT5) (E : List Int) (hl : E.length ≤ 100) (K : Int → Option α) : f42 k c E K = K (eok c E) := by
 simp only [f42,s42,SumT.leaf,SumT.pre,SumT.seq,SumT.cond,SumT.block,SumT.blockP,SumT.loop,zB]
 rw [f66_eq]
 unfold eok
 simp only [f71_eq hk _ _ hl,f73_eq hk _ hl]
 cases c.1 == 1 <;> cases E.any (oob (chips c)) <;> cases ascI E 1 (E.length - 1) <;> simp only [cond_true,cond_false,Bool.not_true,Bool.not_false]
 ·cases decide (((E.length : Nat) : Int) > c.2.2.1) <;> rfl
 ·cases decide (((E.length : Nat) : Int) > 0) <;> rfl
theorem f86_eq (hk : 10000 ≤ k) (c : DT5) (hc : vcode c = true) (E : List Int) (hl : E.length ≤ 100) (K : Int → Option α) : f86 k c E K = K (eok c E) := by
 simp only [f86,s86,SumT.leaf,SumT.pre,SumT.seq,SumT.cond,SumT.block,SumT.blockP,SumT.loop,zB]
 show lpF _ k (E,c,chips c,(0 : Int)) = _
 unfold eok
 generalize hn : chips c = n
 refine lp_rule (fun m x => ∃ i : Nat,i + m = E.length ∧ x = (E,c,n,(i : Int)) ∧ (E.drop i).any (oob n) = E.any (oob n)) ?_ (m := E.length) ⟨0,by omega,rfl,rfl⟩ (by omega)
 rintro m x n' ⟨i,hi,rfl,hany⟩ hn'
 cases m with
 | zero =>
  rw [List.drop_eq_nil_of_le (by omega),List.any_nil] at hany
  rw [← hany,cond_false]
  simp only []
  rw [dge (by omega),cond_false]
  have hend : (bif decide ((E.length : Int) > c.2.2.1) then K 3 else bif c.1 == 1 then (bif decide ((E.length : Int) > 0) then K 3 else K 0) else K 0) = K (bif decide (((E.length : Nat) : Int) > bif c.1 == 1 then 0 else c.2.2.1) then 3 else 0) := by
   by_cases h1 : c.1 = 2
   ·rw [h1,show ((2 : Int) == 1) = false from rfl,cond_false,cond_false]
    cases decide (((E.length : Nat) : Int) > c.2.2.1) <;> rfl
   ·rw [vcode_bit hc h1]
    show (bif decide ((E.length : Int) > 1) then K 3 else (bif decide ((E.length : Int) > 0) then K 3 else K 0)) = K (bif decide ((E.length : Int) > 0) then 3 else 0)
    by_cases h2 : (E.length : Int) > 0
    ·rw [decide_eq_true h2]
     cases decide ((E.length : Int) > 1) <;> rfl
    ·rw [decide_eq_false h2,decide_eq_false (by omega)]
     rfl
  by_cases h0 : E.length = 0
  ·obtain ⟨k',rfl⟩ : ∃ k',k = k' + 1 := ⟨k - 1,by omega⟩
   rw [lpF]
   simp only []
   rw [dge (by omega),cond_false,hend,h0]
   rfl
  refine lp_rule (fun m x => ∃ i : Nat,1 ≤ i ∧ i + m = E.length ∧ x = (E,c,(i : Int)) ∧ ascI E i m = ascI E 1 (E.length - 1)) ?_ (m := E.length - 1) ⟨1,Nat.le_refl _,by omega,rfl,rfl⟩ (by omega)
  rintro m x n2 ⟨j,hj1,hj,rfl,hcj⟩ hn2
  cases m with
  | zero =>
   simp only []
   rw [← hcj,dge (by omega),cond_false,hend]
   rfl
  | succ m =>
   have e1 : w64 ((j : Int) - 1) = ((j - 1 : Nat) : Int) := by
    rw [w64_id (by omega) (by omega)]
    omega
   rw [ascI] at hcj
   simp only [e1]
   rw [dlt (by omega),cond_true,gd (by omega),gd (by omega),Int.toNat_natCast,Int.toNat_natCast]
   cases he : decide (E.getD (j - 1) 0 ≥ E.getD j 0)
   ·rw [he,cond_false] at hcj
    rw [cond_false,w64_id (by omega) (by omega)]
    exact hn2 m _ (by omega) ⟨j + 1,by omega,by omega,rfl,hcj⟩
   ·rw [he,cond_true] at hcj
    rw [cond_true,← hcj]
    rfl
 | succ m =>
  have hi' : i < E.length := by omega
  rw [drop_getD 0 hi',List.any_cons] at hany
  simp only []
  rw [dlt (by omega),cond_true,gd (by omega),Int.toNat_natCast,gd (by omega)]
  cases h1 : decide (E.getD i 0 < 0)
  ·rw [cond_false]
   cases h2 : decide (E.getD i 0 ≥ n)
   ·have he : oob n (E.getD i 0) = false := by
     unfold oob
     rw [h1,h2]
     rfl
    rw [he,Bool.false_or] at hany
    rw [cond_false,w64_id (by omega) (by omega)]
    exact hn' m _ (by omega) ⟨i + 1,by omega,rfl,hany⟩
   ·have he : oob n (E.getD i 0) = true := by
     unfold oob
     rw [h1,h2]
     rfl
    rw [he,Bool.true_or] at hany
    rw [← hany]
    rfl
  ·have he : oob n (E.getD i 0) = true := by
    unfold oob
    rw [h1]
    rfl
   rw [he,Bool.true_or] at hany
   rw [← hany]
   rfl
theorem ascI_spec {E : List Int} : ∀ {m i : Nat},ascI E i m = true → ∀ j,i ≤ j → j < i + m → E.getD (j - 1) 0 < E.getD j 0
 | 0,_,_,_,_,_ => by omega
 | m + 1,i,h,j,h1,h2 => by
  rw [ascI] at h
  cases he : decide (E.getD (i - 1) 0 ≥ E.getD i 0) <;> rw [he] at h
  ·have := of_decide_eq_false he
   by_cases e : i = j
   ·subst e
    omega
   ·exact ascI_spec h j (by omega) (by omega)
  ·cases h
theorem eok_zero {c : DT5} {E : List Int} (h : eok c E = 0) : ∃ E' : List Nat,E = zs E' ∧ E'.Pairwise (· < ·) ∧ (∀ p ∈ E',(p : Int) < chips c) ∧ ((E'.length : Nat) : Int) ≤ bif c.1 == 1 then 0 else c.2.2.1 := by
 unfold eok at h
 cases h1 : E.any (oob (chips c)) <;> rw [h1] at h
 case true => cases h
 cases h2 : ascI E 1 (E.length - 1) <;> rw [h2] at h
 case false => cases h
 cases h3 : decide (((E.length : Nat) : Int) > bif c.1 == 1 then 0 else c.2.2.1) <;> rw [h3] at h
 case true => cases h
 have h3 := of_decide_eq_false h3
 have hr : ∀ p ∈ E,0 ≤ p ∧ p < chips c := fun p hp => by
  have := List.any_eq_false.1 h1 p hp
  unfold oob at this
  simp only [Bool.or_eq_true,decide_eq_true_eq] at this
  omega
 have hE : E = zs (E.map Int.toNat) := by
  unfold zs
  rw [List.map_map]
  conv => lhs; rw [← List.map_id E]
  exact List.map_congr_left fun p hp => by
   show p = ((p.toNat : Nat) : Int)
   have := hr p hp
   omega
 have hasc : ∀ j,1 ≤ j → j < E.length → E.getD (j - 1) 0 < E.getD j 0 := fun j h4 h5 => ascI_spec h2 j h4 (by omega)
 have hlt : ∀ d i,i + d < E.length → 0 < d → E.getD i 0 < E.getD (i + d) 0 := by
  intro d
  induction d with
  | zero => intro i _ h; omega
  | succ d ih =>
   intro i hi _
   have := hasc (i + (d + 1)) (by omega) hi
   rw [show i + (d + 1) - 1 = i + d by omega] at this
   rcases Nat.eq_zero_or_pos d with h0 | h0
   ·subst h0
    exact this
   ·have := ih i (by omega) h0
    omega
 refine ⟨E.map Int.toNat,hE,?_,fun p hp => ?_,by rw [List.length_map]; omega⟩
 ·rw [List.pairwise_iff_getElem]
  intro i j hi hj hij
  rw [List.length_map] at hi hj
  have := hlt (j - i) i (by omega) (by omega)
  rw [show i + (j - i) = j by omega,List.getD_eq_getElem?_getD,List.getD_eq_getElem?_getD,List.getElem?_eq_getElem hi,List.getElem?_eq_getElem hj] at this
  have this : E[i] < E[j] := this
  rw [List.getElem_map,List.getElem_map]
  have a := hr E[i] (List.getElem_mem hi)
  omega
 ·obtain ⟨q,hq,rfl⟩ := List.mem_map.1 hp
  have := hr q hq
  omega
end
theorem z0 : ((0 : Int) != 0) = false := rfl
theorem z1 : ((1 : Int) == 1) = true := rfl
theorem z2 : ((1 : Int) == 2) = false := rfl
theorem z3 : ((1 : Int) != 1) = false := rfl
structure RdOk (n : Int) (r : DT8) : Prop where
 oc : r.1 = 0 ∨ r.1 = 1 ∨ r.1 = 2
 wd : r.1 ≠ 2 → Byt r.2.1 ∧ ((List.length r.2.1 : Nat) : Int) = n
 ps : List.length r.2.2 ≤ 100
theorem refDec_ok {n most : Nat} {s w : List F8} {E : List Nat} (hn : n ≤ 40) (hw : w.length = n) : RdOk n (refDec n most s w E) := by
 unfold refDec
 cases refFind (refTry n s (U n s E) E) 0 (most + 1) with
 | none => exact ⟨.inr (.inr rfl),fun h => absurd rfl h,Nat.zero_le _⟩
 | some p =>
  refine ⟨?_,fun _ => ⟨Byt.bs _,?_⟩,?_⟩
  ·by_cases h : appl w p.1 p.2 = w
   ·exact .inl (if_pos h)
   ·exact .inr (.inl (if_neg h))
  ·show (((bs _).length : Nat) : Int) = n
   rw [bs_len,appl_len,hw]
  ·show (zs _).length ≤ 100
   rw [zs_len]
   refine Nat.le_trans (List.length_filter_le _ _) ?_
   rw [List.length_range]
   omega
theorem hdec_ok {w : List F8} (hw : w.length = 9) : RdOk 9 (hdec w).1 := by
 unfold hdec
 split
 ·exact ⟨.inl rfl,fun _ => ⟨Byt.bs _,by show (((bs w).length : Nat) : Int) = 9; rw [bs_len,hw]; rfl⟩,Nat.zero_le _⟩
 ·cases hfind (hsyn w) 0 72 with
  | none => exact ⟨.inr (.inr rfl),fun h => absurd rfl h,Nat.zero_le _⟩
  | some b => exact ⟨.inr (.inl rfl),fun _ => ⟨Byt.bs _,by show (((bs _).length : Nat) : Int) = 9; rw [bs_len,List.length_set,hw]; rfl⟩,by show 1 ≤ 100; decide⟩
theorem eok_len {c : DT5} (hc : vcode c = true) {E : List Int} (h : eok c E = 0) : E.length ≤ 100 := by
 obtain ⟨E',rfl,_,_,h3⟩ := eok_zero h
 rw [zs_len]
 by_cases h2 : c.1 = 2
 ·obtain ⟨d,ch,f,rfl,a1,a2,a3,a4,a5⟩ := vcode_sym hc h2
  have h3 : ((E'.length : Nat) : Int) ≤ (ch : Int) := h3
  omega
 ·rw [vcode_bit hc h2] at h3
  have h3 : ((E'.length : Nat) : Int) ≤ 0 := h3
  omega
section
variable {α : Type} {k : Nat} {s : DT4} {c : DT5} {ws : List DT0} {fs : List DT1}
theorem dec_both (hk : 10000 ≤ k) (hc : vcode c = true) {w : List Int} (hb : Byt w) (hl : ((w.length : Nat) : Int) = chips c) {E : List Int} (he : eok c E = 0) :
  ∃ r : DT8,(∀ K : DT8 → Int → Option α,f77 k c w E K = K r 0) ∧ (∀ K : DT8 → Int → Option α,f105 k c w E K = K r 0) ∧ RdOk (chips c) r := by
 have hEl := eok_len hc he
 obtain ⟨w,rfl⟩ := exists_bs hb
 simp only [f77,s77,SumT.leaf,SumT.pre,SumT.seq,SumT.cond,SumT.block,SumT.blockP,SumT.loop,zB]
 simp only [f105,s105,SumT.leaf,SumT.pre,SumT.seq,SumT.cond,SumT.block,SumT.blockP,SumT.loop,zB]
 simp only [f65_eq,f78_eq,hc,Bool.not_true,cond_false,f66_eq,f42_eq hk _ _ hEl,f86_eq hk _ hc _ hEl,he]
 have hch : w64 (c.2.1 + c.2.2.1) = chips c := rfl
 rw [hch,hl]
 simp only [bne_self_eq_false,cond_false]
 rw [bs_len] at hl
 obtain ⟨E',rfl,e1,e2,e3⟩ := eok_zero he
 by_cases h2 : c.1 = 2
 ·obtain ⟨d,ch,f,rfl,a1,a2,a3,a4,a5⟩ := vcode_sym hc h2
  have hcs : chips (2,(d : Int),(ch : Int),(f : Int)) = ((d + ch : Nat) : Int) := w64_id (by simp only []; omega) (by simp only []; omega)
  rw [hcs] at hl e2 ⊢
  have hw : w.length = d + ch := by omega
  have hE : ErOk E' (d + ch) ch := ⟨e1,fun p hp => by have := e2 p hp; omega,by have e3 : ((E'.length : Nat) : Int) ≤ (ch : Int) := e3; omega⟩
  refine ⟨_,fun K => f104_eq hk d ch f a1 a2 a3 a4 a5 hc w hw E' hE K,fun K => ?_,?_⟩
  ·rw [dec_same d ch f a2 a4 w hw E' hE]
   exact f128_eq hk d ch f a1 a2 a3 a4 a5 hc w hw E' hE K
  ·rw [dec_same d ch f a2 a4 w hw E' hE]
   exact refDec_ok (by omega) hw
 ·have := vcode_bit hc h2
  subst this
  have hw : w.length = 9 := by
   have : chips (1,8,1,1) = 9 := rfl
   omega
  simp only [z1,z2,z3,cond_true,cond_false]
  exact ⟨(hdec w).1,fun K => f103_eq hk w hw _,fun K => f129_eq hk w hw _,hdec_ok hw⟩
theorem enc_both (hk : 10000 ≤ k) (hc : vcode c = true) {x : List Int} (hb : Byt x) (hl : ((x.length : Nat) : Int) = c.2.1) :
  ∃ o : List Int,(∀ K : List Int → Int → Option α,f98 k c x K = K o 0) ∧ (∀ K : List Int → Int → Option α,f58 k c x K = K o 0) ∧ Byt o ∧ ((o.length : Nat) : Int) = chips c := by
 obtain ⟨x,rfl⟩ := exists_bs hb
 simp only [f98,s98,SumT.leaf,SumT.pre,SumT.seq,SumT.cond,SumT.block,SumT.blockP,SumT.loop,zB]
 simp only [f58,s58,SumT.leaf,SumT.pre,SumT.seq,SumT.cond,SumT.block,SumT.blockP,SumT.loop,zB]
 simp only [f65_eq,f78_eq,hc,Bool.not_true,cond_false]
 rw [hl]
 simp only [bne_self_eq_false,cond_false]
 rw [bs_len] at hl
 by_cases h2 : c.1 = 2
 ·obtain ⟨d,ch,f,rfl,a1,a2,a3,a4,a5⟩ := vcode_sym hc h2
  have hcs : chips (2,(d : Int),(ch : Int),(f : Int)) = ((d + ch : Nat) : Int) := w64_id (by simp only []; omega) (by simp only []; omega)
  have hl : ((x.length : Nat) : Int) = (d : Int) := hl
  have hw : x.length = d := by omega
  refine ⟨_,fun K => f113_eq hk d ch f a1 a2 a3 a4 a5 x hw _,fun K => f89_eq hk d ch f a1 a2 a3 a4 a5 x hw _,Byt.bs _,?_⟩
  rw [hcs,bs_len,show (enc x ch).length = d + ch by unfold enc; rw [List.length_append,List.length_map,List.length_range,hw]]
 ·have := vcode_bit hc h2
  subst this
  have hw : x.length = 8 := by
   have hl : ((x.length : Nat) : Int) = 8 := hl
   omega
  have hlen : (bs x).length = 8 := by rw [bs_len,hw]
  simp only [z1,z2,z3,cond_true,cond_false]
  refine ⟨bs x ++ [ofG (hsyn x)],fun K => ?_,fun K => ?_,fun y hy => ?_,?_⟩
  ·rw [f114_eq hk x hw,z0,cond_false]
   unfold cloneF
   rw [gd (by rw [hlen]; unfold room; omega)]
   simp only []
   rw [gd (by rw [hlen]; unfold room; simp)]
  ·rw [f90_eq hk x hw,gd (by rw [hlen]; unfold room; omega),gd (by rw [hlen]; unfold room; simp)]
  ·rcases List.mem_append.1 hy with h | h
   ·exact Byt.bs _ y h
   ·rw [List.mem_singleton.1 h]
    exact ⟨ofG_nn _,ofG_lt _⟩
  ·rw [List.length_append,hlen]
   rfl
theorem VM.data (h : VM s c ws fs) : 0 ≤ c.2.1 ∧ c.2.1 ≤ chips c := by
 have hc := h.cd
 by_cases h2 : c.1 = 2
 ·obtain ⟨d,ch,f,rfl,a1,a2,a3,a4,a5⟩ := vcode_sym hc h2
  have hcs : chips (2,(d : Int),(ch : Int),(f : Int)) = ((d + ch : Nat) : Int) := w64_id (by simp only []; omega) (by simp only []; omega)
  rw [hcs]
  simp only []
  omega
 ·have := vcode_bit hc h2
  subst this
  exact ⟨show (0 : Int) ≤ 8 by decide,show (8 : Int) ≤ 9 by decide⟩
structure LkOk (r : DT8) : Prop where
 wd : List.length r.2.1 ≤ 100
 ps : List.length r.2.2 ≤ 100
theorem f57_eq (hk : 10000 ≤ k) (h : VM s c ws fs) (t : Int) (h0 : 0 ≤ t) (h1 : t < szOf s) (K : DT0 → Int → Option α) : f57 k (mk s c ws fs) t K = K (lkW t (chips c).toNat ws) 0 := by
 simp only [f57,s57,SumT.leaf,SumT.pre,SumT.seq,SumT.cond,SumT.block,SumT.blockP,SumT.loop,zB]
 rw [f47_eq hk s c ws fs h.mb,h.mem,Bool.not_true,cond_false,decide_eq_false (by omega),cond_false,f13_eq hk,decide_eq_false (show ¬ t ≥ szOf s by omega),cond_false,f51_eq hk s c ws fs t h.so h.mb h.cd]
theorem look_both (hk : 10000 ≤ k) (h : VM s c ws fs) (t : Int) (h0 : 0 ≤ t) (h1 : t < szOf s) {E : List Int} (he : eok c E = 0) :
  ∃ (ws' : List DT0) (r : DT8),VM s c ws' fs ∧ LkOk r ∧ (∀ K : DT2 → DT8 → Option α,f43w k (mk s c ws fs) t E K = K (mk s c ws' fs) r) ∧ (∀ K : DT2 → DT8 → Option α,f54 k (mk s c ws fs) t E K = K (mk s c ws' fs) r) ∧ (∀ K : DT8 → Option α,f87 k (mk s c ws fs) (seenW fs (atP4 s t) (lkW t (chips c).toNat ws)) E K = K r) := by
 have hch := chips_le h.cd
 have hda := h.data
 obtain ⟨l1,l2,l3⟩ := h.lk t
 have hst := h.so
 have hmb := h.mb
 obtain ⟨q1,q2,q3,q4⟩ := seenW_ok fs (atP4 s t) (lkW t (chips c).toNat ws) l3
 simp only [f43w,s43w,SumT.leaf,SumT.pre,SumT.seq,SumT.cond,SumT.block,SumT.blockP,SumT.loop,zB]
 simp only [f46,s46,SumT.leaf,SumT.pre,SumT.seq,SumT.cond,SumT.block,SumT.blockP,SumT.loop,zB]
 simp only [f54,s54,SumT.leaf,SumT.pre,SumT.seq,SumT.cond,SumT.block,SumT.blockP,SumT.loop,zB]
 simp only [f87,s87,SumT.leaf,SumT.pre,SumT.seq,SumT.cond,SumT.block,SumT.blockP,SumT.loop,zB]
 simp only [f76_eq hk h t h0 h1,f88_eq hk h t h0 h1]
 generalize hv : seenW fs (atP4 s t) (lkW t (chips c).toNat ws) = v at q1 q2 q3 q4
 cases hp : v.2.2
 case true => exact ⟨ws,(3,[],[]),h,⟨Nat.zero_le _,Nat.zero_le _⟩,fun K => rfl,fun K => rfl,fun K => rfl⟩
 simp only [cond_false]
 obtain ⟨r,d1,d2,d3⟩ := dec_both (α := α) hk h.cd q3 (by rw [q2,l2]) he
 have pc : ((mk s c ws fs).2.2.2.2.2.2.1,(mk s c ws fs).2.2.2.2.2.2.2.1,(mk s c ws fs).2.2.2.2.2.2.2.2.1,(mk s c ws fs).2.2.2.2.2.2.2.2.2.1) = c := rfl
 simp only [pc,d1,d2]
 by_cases hr2 : r.1 = 2
 ·rw [hr2]
  refine ⟨putW ws (t,(lkW t (chips c).toNat ws).2.1,true),(2,[],[]),h.put h0 h1 l2 l3,⟨Nat.zero_le _,Nat.zero_le _⟩,fun K => ?_,fun K => ?_,fun K => rfl⟩
  ·show f75w k (mk s c ws fs) t _ = _
   simp only [f75w,s75w,SumT.leaf,SumT.pre,SumT.seq,SumT.cond,SumT.block,SumT.blockP,SumT.loop,zB]
   rw [f100_eq hk s c ws fs t hst hmb h.cd,l1,f99w_eq hk s c ws fs _ hst hmb.hw (by show List.length (lkW t (chips c).toNat ws).2.1 < 1000; omega)]
  ·show f51 k (mk s c ws fs) t _ = _
   rw [f51_eq hk s c ws fs t hst hmb h.cd,l1,f52_eq hk s c ws fs _ hst hmb (by show List.length (lkW t (chips c).toNat ws).2.1 < 1000; omega)]
 ·obtain ⟨b1,b2⟩ := d3.wd hr2
  have hps := d3.ps
  have ht : List.length (r.2.1.take c.2.1.toNat) = c.2.1.toNat := by rw [List.length_take]; omega
  have hbt : Byt (r.2.1.take c.2.1.toNat) := fun y hy => b1 y (List.mem_of_mem_take hy)
  have pd : (mk s c ws fs).2.2.2.2.2.2.2.1 = c.2.1 := rfl
  have e2 : (r.1 == 2) = false := beq_eq_false_iff_ne.2 hr2
  have g1 : (0 : Int) ≤ 0 ∧ (0 : Int) ≤ c.2.1 ∧ c.2.1 ≤ ((List.length r.2.1 : Nat) : Int) := ⟨by omega,by omega,by omega⟩
  have g2 : c.2.1 ≤ c.2.1 ∧ c.2.1 ≤ ((List.length r.2.1 : Nat) : Int) := ⟨by omega,by omega⟩
  have g3 : List.length (r.2.1.take c.2.1.toNat) * 1 ≤ room := by rw [ht]; unfold room; omega
  simp only [pd,e2,cond_false,if_pos g1,if_pos g2,if_pos g3]
  rcases d3.oc with h3 | h3 | h3
  ·rw [h3]
   exact ⟨ws,(0,r.2.1.take c.2.1.toNat,r.2.2),h,⟨by show List.length (r.2.1.take c.2.1.toNat) ≤ 100; omega,hps⟩,fun K => rfl,fun K => rfl,fun K => rfl⟩
  ·rw [h3]
   obtain ⟨o,o1,o2,o3,o4⟩ := enc_both (α := α) hk h.cd hbt (by rw [ht]; omega)
   refine ⟨putW ws (t,o,false),(1,r.2.1.take c.2.1.toNat,r.2.2),h.put h0 h1 o4 o3,⟨by show List.length (r.2.1.take c.2.1.toNat) ≤ 100; omega,hps⟩,fun K => ?_,fun K => ?_,fun K => rfl⟩
   ·show f74ww k (mk s c ws fs) t (r.2.1.take c.2.1.toNat) _ = _
    simp only [f74ww,s74ww,SumT.leaf,SumT.pre,SumT.seq,SumT.cond,SumT.block,SumT.blockP,SumT.loop,zB]
    rw [pc,o1,f99w_eq hk s c ws fs _ hst hmb.hw (by show o.length < 1000; omega)]
   ·show f33 k (mk s c ws fs) t (r.2.1.take c.2.1.toNat) _ = _
    simp only [f33,s33,SumT.leaf,SumT.pre,SumT.seq,SumT.cond,SumT.block,SumT.blockP,SumT.loop,zB]
    rw [f57_eq hk h t h0 h1,show ((0 : Int) != 0) = false from rfl,cond_false,pc,o2,show ((0 : Int) != 0) = false from rfl,cond_false,f52_eq hk s c ws fs _ hst hmb (by show o.length < 1000; omega)]
  ·exact absurd h3 hr2
end
theorem eqI_self (a : Int) (b : Bool) : eqI a a b = b := by
 unfold eqI
 rw [beq_self_eq_true]
 rfl
theorem eqB_self (a b : Bool) : eqB a a b = b := by
 unfold eqB
 rw [beq_self_eq_true]
 rfl
structure Ok (k : Nat) (ws : List DT0) (fs : List DT1) : Prop where
 mb : MB ws fs
 sm : ∀ w ∈ ws,List.length w.2.1 < k
abbrev rdOf (x : DT6) : DT8 := (x.2.1,x.2.2.1,x.2.2.2)
structure FoOk (l : List DT6) : Prop where
 ln : l.length ≤ 5000
 al : ∀ x ∈ l,LkOk (rdOf x)
section
variable {α : Type} {k : Nat} {s : DT4} {c : DT5} {ws : List DT0} {fs : List DT1}
theorem f22_eq (p : List Int) (h : p.length < k) (hr : p.length ≤ room) (K : Bool → Option α) : f22 k p p K = K true := by
 simp only [f22,s22,SumT.leaf,SumT.pre,SumT.seq,SumT.cond,SumT.block,SumT.blockP,SumT.loop,zB]
 rw [bne_self_eq_false,cond_false]
 unfold room at hr
 refine lp_run2 (fun i (_ : Unit) => (p,p,(i : Int))) p.length (fun _ a => a) (fun _ _ => True) (by omega) (a := ()) trivial ?_ ?_
 ·intro i _ n hi _
  refine ⟨?_,trivial⟩
  simp only []
  rw [dlt (by omega),cond_true,gd (by omega),gd (by omega),bne_self_eq_false,cond_false,w64_id (by omega) (by omega)]
  rfl
 ·intro n _
  simp only []
  rw [dge (by omega),cond_false]
theorem f20_eq (hk : 10000 ≤ k) (r : DT8) (h : LkOk r) (K : Bool → Option α) : f20 k r r K = K true := by
 have h1 := h.wd
 have h2 := h.ps
 simp only [f20,s20,SumT.leaf,SumT.pre,SumT.seq,SumT.cond,SumT.block,SumT.blockP,SumT.loop,zB]
 rw [bne_self_eq_false,cond_false,f22_eq _ (by omega) (by unfold room; omega),bne_self_eq_false,Bool.not_true,cond_false,cond_false]
 refine lp_run2 (fun i (_ : Unit) => (r,r,(i : Int))) (List.length r.2.2) (fun _ a => a) (fun _ _ => True) (by omega) (a := ()) trivial ?_ ?_
 ·intro i _ n hi _
  refine ⟨?_,trivial⟩
  simp only []
  rw [dlt (by omega),cond_true,gd (by omega),gd (by omega),bne_self_eq_false,cond_false,w64_id (by omega) (by omega)]
  rfl
 ·intro n _
  simp only []
  rw [dge (by omega),cond_false]
theorem f44_eq (w : DT0) (h : List.length w.2.1 < k) (hr : List.length w.2.1 ≤ room) (K : Bool → Option α) : f44 k w w K = K true := by
 simp only [f44,s44,SumT.leaf,SumT.pre,SumT.seq,SumT.cond,SumT.block,SumT.blockP,SumT.loop,zB]
 rw [beq_self_eq_true,beq_self_eq_true,cond_true,cond_true,f22_eq _ h hr]
theorem f29_eq (hk : 10000 ≤ k) (l : List DT6) (h : FoOk l) (K : Bool → Option α) : f29 k l l K = K true := by
 have h1 := h.ln
 simp only [f29,s29,SumT.leaf,SumT.pre,SumT.seq,SumT.cond,SumT.block,SumT.blockP,SumT.loop,zB]
 rw [bne_self_eq_false,cond_false]
 refine lp_run2 (fun i (_ : Unit) => (l,l,(i : Int))) l.length (fun _ a => a) (fun _ _ => True) (by omega) (a := ()) trivial ?_ ?_
 ·intro i _ n hi _
  refine ⟨?_,trivial⟩
  simp only []
  rw [dlt (by omega),cond_true,gd (by omega),gd (by omega),Int.toNat_natCast,bne_self_eq_false,cond_false,gd (by omega),gd (by omega),f20_eq hk _ (h.al _ (getD_mem zT6 hi)),Bool.not_true,cond_false,w64_id (by omega) (by omega)]
  rfl
 ·intro n _
  simp only []
  rw [dge (by omega),cond_false]
theorem f19_eq (hk : 10000 ≤ k) (h : Ok k ws fs) (K : Bool → Option α) : f19 k (mk s c ws fs) (mk s c ws fs) K = K true := by
 have h1 := h.mb.hw
 have h2 := h.mb.hf
 simp only [f19,s19,SumT.leaf,SumT.pre,SumT.seq,SumT.cond,SumT.block,SumT.blockP,SumT.loop,zB,mk]
 simp only [eqI_self,eqB_self,Bool.not_true,cond_false,bne_self_eq_false]
 refine lp_run2 (fun i (_ : Unit) => (mk s c ws fs,mk s c ws fs,(i : Int))) ws.length (fun _ a => a) (fun _ _ => True) (by omega) (a := ()) trivial ?_ ?_
 ·intro i _ n hi _
  refine ⟨?_,trivial⟩
  have hm := getD_mem zT0 hi
  simp only []
  rw [dlt (by omega),cond_true,gd (by omega),gd (by omega),Int.toNat_natCast,f44_eq _ (h.sm _ hm) (h.mb.hs _ hm),Bool.not_true,cond_false,w64_id (by omega) (by omega)]
  rfl
 ·intro n _
  simp only []
  rw [dge (by omega),cond_false]
  refine lp_run2 (fun i (_ : Unit) => (mk s c ws fs,mk s c ws fs,(i : Int))) fs.length (fun _ a => a) (fun _ _ => True) (by omega) (a := ()) trivial ?_ ?_
  ·intro i _ n hi _
   refine ⟨?_,trivial⟩
   simp only [eqI_self,eqB_self,Bool.not_true,cond_false]
   rw [dlt (by omega),cond_true,gd (by omega),gd (by omega),w64_id (by omega) (by omega)]
   rfl
  ·intro n _
   simp only []
   rw [dge (by omega),cond_false]
end
end Go.Proofs.YtkeiedikiiccpaaGreatDoor.Am
