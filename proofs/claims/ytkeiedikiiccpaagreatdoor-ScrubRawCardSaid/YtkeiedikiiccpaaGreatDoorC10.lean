/- The machine on typed data is sound: what it computes is what the model does. -/
import Derived.Test.YtkeiedikiiccpaaGreatDoorC9
import Derived.Test.YtkeiedikiiccpaaGreatDoorA1
import Derived.ChangeShapes
import Derived.ChangeArms
import Derived.OpenShut
import Derived.DataReads
import Derived.Below
import Derived.Carry
import Derived.RowKit
import Derived.ChangeOld
import Derived.WideShapes
import Derived.MakeChecks
import Derived.FnData
set_option linter.all false
namespace Go.Proofs.YtkeiedikiiccpaaGreatDoor.Am
open Go
theorem app_e0 : ∀ {l : AV},prL l → l.app .e0 = l
 | .e0,_ => rfl
 | .cn a b,h => by
  simp only [AV.app,app_e0 (l := b) h]
theorem ofS_all {e : Ty} {l : AV} {x : e.den} (h : ofS e l = some (x,.e0)) : l = toC e x := by
 rw [ofS_eq e h,app_e0 (prL_toC e x)]
structure Dec1.Ok {α : Type} (d : Dec1 α) : Prop where
 ok : ∀ {i j : Nat} {v : AV} {o : List Ob} {x : α},d.dec i j v o = some x → v = d.av i j x ∧ (d.rs i j x).length = d.nr ∧ (d.ns i j x).length = d.nn ∧
  (∀ t,t < d.nr → o[i + t]? = (d.rs i j x)[t]?) ∧ (∀ t,t < d.nn → o[j + t]? = (d.ns i j x)[t]?)
structure Dec.Ok {α : Type} (d : Dec α) : Prop where
 ok : ∀ {i j : Nat} {v : AV} {o : List Ob} {x : α},d.dc i j v o = some x → v = d.av i j x ∧ (d.rs i j x).length = d.nr ∧ (d.ns i j x).length = d.nn ∧
  (∀ t,t < d.nr → o[i + t]? = (d.rs i j x)[t]?) ∧ (∀ t,t < d.nn → o[j + t]? = (d.ns i j x)[t]?)
theorem dP_ok (t : Ty) : (dP t).Ok := ⟨fun {i j v o x} h => ⟨castP_eq h,rfl,rfl,fun t ht => absurd ht (Nat.not_lt_zero t),fun t ht => absurd ht (Nat.not_lt_zero t)⟩⟩
theorem dS_ok (e : Ty) : (dS e).Ok := ⟨fun {i j v o x} h => by
 have h' : v = .agg (toC e x) := by
  cases v <;> simp only [dS,reduceCtorEq] at h
  rename_i c
  split at h
  ·rename_i y h1
   cases h
   rw [ofS_all h1]
  ·cases h
 exact ⟨h',rfl,rfl,fun t ht => absurd ht (Nat.not_lt_zero t),fun t ht => absurd ht (Nat.not_lt_zero t)⟩⟩
theorem dR_ok (e : Ty) : (dR e).Ok := ⟨fun {i j v o x} h => by
 have h' : v = .rp (toC e x) 0 := by
  cases v <;> simp only [dR,reduceCtorEq] at h
  rename_i c n
  cases n <;> simp only [reduceCtorEq] at h
  split at h
  ·rename_i y h1
   cases h
   rw [ofS_all h1]
  ·cases h
 exact ⟨h',rfl,rfl,fun t ht => absurd ht (Nat.not_lt_zero t),fun t ht => absurd ht (Nat.not_lt_zero t)⟩⟩
theorem cast_L {e' e : Ty} {x : List e'.den} {y : List e.den} (h : cast (.sl e') (.sl e) x = some y) : Ob.L e' x = .L e y := by
 unfold cast at h
 split at h
 ·rename_i q
  cases q
  cases h
  rfl
 ·cases h
theorem cast_N {e' e : Ty} {x : List (List e'.den)} {y : List (List e.den)} (h : cast (.sl (.sl e')) (.sl (.sl e)) x = some y) : Ob.N e' none x 0 none = .N e none y 0 none := by
 unfold cast at h
 split at h
 ·rename_i q
  cases q
  cases h
  rfl
 ·cases h
theorem dO_ok (e : Ty) : (dO e).Ok := ⟨fun {i j v o x} h => by
 have h' : v = .sl i none none ∧ o[i]? = some (.L e x) := by
  cases v <;> try (simp only [dO,reduceCtorEq] at h; done)
  rename_i a f l
  cases f <;> cases l <;> try (simp only [dO,reduceCtorEq] at h; done)
  simp only [dO] at h
  by_cases hi : a = i
  case neg => rw [if_neg hi] at h; cases h
  rw [if_pos hi] at h
  subst hi
  cases ho : o[a]? with
  | none => rw [ho] at h; cases h
  | some ob =>
   rw [ho] at h
   cases ob with
   | L e' y => exact ⟨rfl,by rw [cast_L h]⟩
   | _ => cases h
 refine ⟨h'.1,rfl,rfl,fun t ht => ?_,fun t ht => absurd ht (Nat.not_lt_zero t)⟩
 obtain rfl : t = 0 := by have : t < 1 := ht; omega
 exact h'.2⟩
theorem dNR_ok (e : Ty) : (dNR e).Ok := ⟨fun {i j v o x} h => by
 have h' : v = .sl i none none ∧ o[i]? = some (.N e none x 0 none) := by
  cases v <;> try (simp only [dNR,reduceCtorEq] at h; done)
  rename_i a f l
  cases f <;> cases l <;> try (simp only [dNR,reduceCtorEq] at h; done)
  simp only [dNR] at h
  by_cases hi : a = i
  case neg => rw [if_neg hi] at h; cases h
  rw [if_pos hi] at h
  subst hi
  cases ho : o[a]? with
  | none => rw [ho] at h; cases h
  | some ob =>
   rw [ho] at h
   cases ob with
   | N e' r y k q =>
    cases r <;> try cases h
    cases k <;> try cases h
    cases q <;> try cases h
    exact ⟨rfl,by rw [cast_N h]⟩
   | _ => cases h
 refine ⟨h'.1,rfl,rfl,fun t ht => ?_,fun t ht => absurd ht (Nat.not_lt_zero t)⟩
 obtain rfl : t = 0 := by have : t < 1 := ht; omega
 exact h'.2⟩
theorem unmask_ok : ∀ {m : List Bool} {j : Nat} {c : AV} {o : List Ob},prL (unmask m j c o) →
  c = maskC m j (unmask m j c o) ∧ (maskO m (unmask m j c o)).length = (m.filter id).length ∧ ∀ t,t < (m.filter id).length → o[j + t]? = (maskO m (unmask m j c o))[t]?
 | [],j,c,o,h => by
  simp only [unmask] at h ⊢
  exact ⟨by cases c <;> rfl,rfl,fun t ht => absurd ht (Nat.not_lt_zero t)⟩
 | false :: m,j,c,o,h => by
  cases c <;> try (simp [unmask,prL] at h; done)
  rename_i v r
  have h2 : prL (unmask m j r o) := by
   simpa only [unmask,prL] using h
  obtain ⟨h3,h4,h5⟩ := unmask_ok h2
  simp only [unmask,maskC,maskO,List.filter_cons,id,Bool.false_eq_true,if_false]
  exact ⟨by rw [← h3],h4,h5⟩
 | true :: m,j,c,o,h => by
  cases c <;> try (simp [unmask,prL] at h; done)
  rename_i v r
  cases v <;> try (simp [unmask,prL] at h; done)
  rename_i hh f l
  cases f <;> cases l <;> try (simp [unmask,prL] at h; done)
  simp only [unmask] at h ⊢
  by_cases hj : hh = j
  case neg => simp [if_neg hj,prL] at h
  subst hj
  simp only [if_true] at h ⊢
  cases ho : o[hh]? with
  | none => simp [ho,prL] at h
  | some ob =>
  cases ob <;> try (simp [ho,prL] at h; done)
  rename_i e x
  simp only [ho] at h ⊢
  have h2 : prL (unmask m (hh + 1) r o) := by
   simpa only [prL] using h
  have hx := ho
  obtain ⟨h3,h4,h5⟩ := unmask_ok h2
  simp only [if_true,hx,maskC,maskO,List.filter_cons,id,List.length_cons]
  refine ⟨by rw [← h3],by rw [h4],fun t ht => ?_⟩
  cases t with
  | zero => simpa using hx
  | succ t =>
   have := h5 t (by omega)
   rw [List.getElem?_cons_succ,← this]
   congr 1
   omega
theorem dB_ok (e : Ty) (m : List Bool) : (dB e m).Ok := ⟨fun {i j v o x} h => by
 have h' : v = .ptr i 0 0 ∧ ∃ c,o[i]? = some (.B c) ∧ unmask m j c o = toC e x := by
  simp only [dB] at h
  split at h
  ·rename_i a
   split at h
   ·rename_i hi
    subst hi
    split at h
    ·rename_i c hc
     split at h
     ·rename_i y hy
      cases h
      exact ⟨rfl,c,hc,ofS_all hy⟩
     ·cases h
    ·cases h
   ·cases h
  ·cases h
 obtain ⟨h1,c,h2,h3⟩ := h'
 have h4 := unmask_ok (m := m) (j := j) (c := c) (o := o) (by rw [h3]; exact prL_toC e x)
 rw [h3] at h4
 refine ⟨h1,rfl,h4.2.1,fun t ht => ?_,h4.2.2⟩
 obtain rfl : t = 0 := by have : t < 1 := ht; omega
 show o[i]? = some (Ob.B (maskC m j (toC e x)))
 rw [h2,← h4.1]⟩
theorem dN_ok : dN.Ok := ⟨fun {i j v o x} h => by
 have h' : v = .e0 := by
  cases v <;> simp only [dN,reduceCtorEq] at h
  rfl
 exact ⟨h',rfl,rfl,fun t ht => absurd ht (Nat.not_lt_zero t),fun t ht => absurd ht (Nat.not_lt_zero t)⟩⟩
theorem d1_ok {α : Type} {d : Dec1 α} (hd : d.Ok) : (d1 d).Ok := ⟨fun {i j v o x} h => by
 simp only [d1] at h
 split at h
 ·rename_i a
  obtain ⟨h1,h2⟩ := hd.ok h
  subst h1
  exact ⟨rfl,h2⟩
 ·cases h⟩
theorem dA_ok {α β : Type} {d : Dec1 α} {r : Dec β} (hd : d.Ok) (hr : r.Ok) : (dA d r).Ok := ⟨fun {i j v o x} h => by
 simp only [dA] at h
 split at h
 case h_2 => cases h
 rename_i a b
 split at h
 case h_2 => cases h
 rename_i y hy
 split at h
 case h_2 => cases h
 rename_i z hz
 cases h
 obtain ⟨h1,h2,h3,h4,h5⟩ := hd.ok hy
 obtain ⟨k1,k2,k3,k4,k5⟩ := hr.ok hz
 refine ⟨by rw [h1,k1]; rfl,by simp [dA,h2,k2],by simp [dA,h3,k3],fun t ht => ?_,fun t ht => ?_⟩
 ·have ht : t < d.nr + r.nr := ht
  show o[i + t]? = (d.rs i j y ++ r.rs (i + d.nr) (j + d.nn) z)[t]?
  rcases Nat.lt_or_ge t d.nr with hl | hl
  ·rw [List.getElem?_append_left (by omega),h4 t hl]
  ·rw [List.getElem?_append_right (by omega),h2,← k4 (t - d.nr) (by omega)]
   congr 1
   omega
 ·have ht : t < d.nn + r.nn := ht
  show o[j + t]? = (d.ns i j y ++ r.ns (i + d.nr) (j + d.nn) z)[t]?
  rcases Nat.lt_or_ge t d.nn with hl | hl
  ·rw [List.getElem?_append_left (by omega),h5 t hl]
  ·rw [List.getElem?_append_right (by omega),h3,← k5 (t - d.nn) (by omega)]
   congr 1
   omega⟩
theorem dC_ok {α : Type} (f : Nat) {d : Dec α} (hd : d.Ok) : (dC f d).Ok := ⟨fun {i j v o x} h => by
 simp only [dC] at h
 split at h
 ·rename_i g c
  split at h
  ·rename_i hg
   subst hg
   obtain ⟨h1,h2⟩ := hd.ok h
   subst h1
   exact ⟨rfl,h2⟩
  ·cases h
 ·cases h⟩
theorem Dec.Ok.dec {α : Type} {d : Dec α} (hd : d.Ok) {a : AV} {o : List Ob} {x : α} (h : d.dec a o = some x) : a = d.args x ∧ o = d.ins x := by
 unfold Dec.dec at h
 split at h
 ·rename_i hl
  obtain ⟨h1,h2,h3,h4,h5⟩ := hd.ok h
  refine ⟨h1,?_⟩
  unfold Dec.ins
  apply List.ext_getElem?
  intro t
  rcases Nat.lt_or_ge t d.nr with ht | ht
  ·rw [List.getElem?_append_left (by omega),← h4 t ht,Nat.zero_add]
  ·rcases Nat.lt_or_ge t (d.nr + d.nn) with ht2 | ht2
   ·rw [List.getElem?_append_right (by omega),h2,← h5 (t - d.nr) (by omega)]
    congr 1
    omega
   ·rw [List.getElem?_eq_none (by omega),List.getElem?_eq_none (by simp; omega)]
 ·cases h
def hl (a : H) : H := .n [] [] a .d
def hr (b : H) : H := .n [] [] .d b
def hb (a b : H) : H := .n [] [] a b
def isSeq : Code → Bool | .seq _ _ => true | _ => false
def isCond : Code → Bool | .cond _ _ _ => true | _ => false
def isBlock : Code → Bool | .block _ _ => true | _ => false
def isLoop : Code → Bool | .loop _ => true | _ => false
def codeO : Code → Operand | .cond o _ _ => o | _ => .tmp 0
def codeI : Code → Nat | .block i _ => i | _ => 0
section
variable {E : Env} {nr j : Nat}
theorem evC_seq {c : Code} {h : H} (hc : isSeq c = true) (s : St) (K : KX) : evC E nr j c h s K = evC E nr j (codeL c) h.l s (poK nr h.post (thK (evC E nr j (codeR c) h.r) K)) := by
 cases c <;> first | rfl | cases hc
theorem evC_cond {c : Code} {h : H} (hc : isCond c = true) (s : St) (K : KX) : evC E nr j c h s K = match evA E s.tm (codeO c) with
  | .p .bool x => cond x (evC E nr j (codeL c) h.l s K) (evC E nr j (codeR c) h.r s K)
  | _ => none := by
 cases c <;> first | rfl | cases hc
theorem evC_block {c : Code} {h : H} (hc : isBlock c = true) (s : St) (K : KX) : evC E nr j c h s K = evC E nr j (codeL c) h.l s (poK nr h.post (blK (codeI c) K)) := by
 cases c <;> first | rfl | cases hc
theorem evC_loop {c : Code} {h : H} (hc : isLoop c = true) (s : St) (K : KX) : evC E nr j c h s K = gsE nr h.pre s fun s => lpE (fun s K => evC E nr j (codeL c) h.l s (poK nr h.post K)) j s K := by
 cases c <;> first | rfl | cases hc
def spn : Nat → Code → H → List (Code × H × List G)
 | 0,_,_ => []
 | n + 1,c,h => (codeL c,h.l,h.post) :: spn n (codeR c) h.r
def dropC : Nat → Code → Code | 0,c => c | n + 1,c => dropC n (codeR c)
def dropH : Nat → H → H | 0,h => h | n + 1,h => dropH n h.r
def okS : Nat → Code → Bool | 0,_ => true | n + 1,c => isSeq c && okS n (codeR c)
theorem evC_spn : ∀ {n : Nat} {c : Code} {h : H},okS n c = true → evC E nr j c h = evS E nr j (spn n c h) (evC E nr j (dropC n c) (dropH n h))
 | 0,_,_,_ => rfl
 | n + 1,c,h,hs => by
  rw [okS,Bool.and_eq_true] at hs
  funext s K
  rw [evC_seq hs.1,evC_spn (h := h.r) hs.2]
  rfl
structure SumT {V W U Z : Type} (E : Env) (nr j : Nat) (c : Code) (h : H) (po : List G) (S : V → St) (N : W → St) (R : U → St) (Q : Z → Nat × St) : Type 1 where
 F : ∀ {α : Type},V → (W → Option α) → (U → Option α) → (Z → Option α) → Option α
 ok : Sum E nr j c h po S N R Q F
variable {V W U Z Y : Type} {c : Code} {h : H} {po : List G} {S : V → St} {N : W → St} {R : U → St} {Q : Z → Nat × St}
def SumT.leaf (F : ∀ {α : Type},V → (W → Option α) → (U → Option α) → (Z → Option α) → Option α)
  (hF : ∀ (K : KX) (x : V),evC E nr j c h (S x) (poK nr po K) = F x (fun w => K .nm (N w)) (fun u => K .rt (R u)) (fun z => K (.ex (Q z).1) (Q z).2) := by intro K x; kernel_rfl) : SumT E nr j c h po S N R Q := ⟨F,hF⟩
def SumT.pre (n : Nat) (T : Y → St) (F : ∀ {α : Type},V → (Y → Option α) → (U → Option α) → (Z → Option α) → Option α) (B : SumT E nr j (dropC n c) (dropH n h) po T N R Q)
  (hs : okS n c = true := by kernel_rfl)
  (hF : ∀ (m : St → Option FRes) (K : KX) (x : V),evS E nr j (spn n c h) (fun s _ => m s) (S x) K = F x (fun y => m (T y)) (fun u => K .rt (R u)) (fun z => K (.ex (Q z).1) (Q z).2) := by intro m K x; kernel_rfl) :
  SumT E nr j c h po S N R Q := ⟨fun x n r z => F x (fun y => B.F y n r z) r z,by
 intro K x
 rw [evC_spn (n := n) hs,evS_end,hF]
 show F x (fun y => evC E nr j (dropC n c) (dropH n h) (T y) (poK nr po K)) (fun u => K .rt (R u)) (fun z => K (.ex (Q z).1) (Q z).2) = _
 have hB : ∀ y,evC E nr j (dropC n c) (dropH n h) (T y) (poK nr po K) = _ := B.ok K
 simp only [hB]⟩
def SumT.seq (T : Y → St) (A : SumT E nr j (codeL c) h.l h.post S T R Q) (B : SumT E nr j (codeR c) h.r po T N R Q) (hc : isSeq c = true := by kernel_rfl) : SumT E nr j c h po S N R Q :=
 ⟨fun x n r z => A.F x (fun y => B.F y n r z) r z,by
 intro K x
 rw [evC_seq hc,A.ok]
 show A.F x (fun y => evC E nr j (codeR c) h.r (T y) (poK nr po K)) (fun u => K .rt (R u)) (fun z => K (.ex (Q z).1) (Q z).2) = _
 have hB : ∀ y,evC E nr j (codeR c) h.r (T y) (poK nr po K) = _ := B.ok K
 simp only [hB]⟩
def SumT.cond (t : V → Bool) (A : SumT E nr j (codeL c) h.l po S N R Q) (B : SumT E nr j (codeR c) h.r po S N R Q) (hc : isCond c = true := by kernel_rfl)
  (ht : ∀ x,evA E (S x).tm (codeO c) = .p .bool (t x) := by intro x; kernel_rfl) : SumT E nr j c h po S N R Q :=
 ⟨fun x n r z => _root_.cond (t x) (A.F x n r z) (B.F x n r z),by
 intro K x
 rw [evC_cond hc,ht]
 show _root_.cond (t x) (evC E nr j (codeL c) h.l (S x) (poK nr po K)) (evC E nr j (codeR c) h.r (S x) (poK nr po K)) = _
 rw [A.ok,B.ok]⟩
theorem qB_ne' {W Z : Type} {id i : Nat} {N : W → St} {Q : Z → Nat × St} (h : Nat.beq i id = false) (hq : ∀ z,(Q z).1 ≠ id) : ∀ z,(qB i N Q z).1 ≠ id :=
 qB_ne (fun e => by rw [e,Nat.beq_refl] at h; cases h) hq
def SumT.block (A : SumT E nr j (codeL c) h.l h.post S N R (qB (codeI c) N Q)) (hc : isBlock c = true := by kernel_rfl)
  (hq : ∀ z,(Q z).1 ≠ codeI c := by repeat' first | exact q0_ne | refine qB_ne' ?_ ?_ | kernel_rfl) : SumT E nr j c h [] S N R Q :=
 ⟨fun x n r z => A.F x n r (zB n z),by
 intro K x
 rw [evC_block hc,show blK (codeI c) (poK nr [] K) = blK (codeI c) (poK nr [] K) from rfl,A.ok]
 congr 1
 funext z
 cases z with
 | inl w => simp [blK,poK,gsE,qB,zB]
 | inr z => simp [blK,poK,hq z,qB,zB]⟩
def SumT.blockP (A : SumT E nr j (codeL c) h.l h.post S N R (qB (codeI c) N Q)) (hc : isBlock c = true := by kernel_rfl)
  (hq : ∀ z,(Q z).1 ≠ codeI c := by repeat' first | exact q0_ne | refine qB_ne' ?_ ?_ | kernel_rfl)
  (hm : ∀ (y : W) (K : St → Option FRes),gsE nr po (N y) K = K (N y) := by intro y K; kernel_rfl) : SumT E nr j c h po S N R Q :=
 ⟨fun x n r z => A.F x n r (zB n z),by
 have h1 := Sum.post (N := N) (po := po) (m := fun y => y) (SumT.block A hc hq).ok hm
 exact h1⟩
def SumT.loop (T : Y → St) (m : V → Y) (A : SumT E nr j (codeL c) h.l h.post T T R Q) (hc : isLoop c = true := by kernel_rfl)
  (hm : ∀ (x : V) (K : St → Option FRes),gsE nr h.pre (S x) K = K (T (m x)) := by intro x K; kernel_rfl) : SumT E nr j c h po S N R Q :=
 ⟨fun x _ r z => lpF (fun x n => A.F x n r z) j (m x),by
 intro K x
 rw [evC_loop hc,hm,lp_sum A.ok]
 rfl⟩
end
def AllI (P : Program) (gv : Nat → AV) : List (Nat × List Nat × Spec) → Prop
 | [] => True
 | (f,_,sp) :: r => Impl P gv f sp ∧ AllI P gv r
theorem AllI.get {P : Program} {gv : Nat → AV} : ∀ {l : List (Nat × List Nat × Spec)},AllI P gv l → ∀ f s sp,lkS l f s = some sp → Impl P gv f sp
 | [],_,_,_,_,h => by cases h
 | (g,t,sp') :: r,hl,f,s,sp,h => by
  simp only [lkS] at h
  split at h
  ·rename_i hg
   subst hg
   split at h
   ·cases h
    exact hl.1
   ·exact AllI.get hl.2 _ _ _ h
  ·exact AllI.get hl.2 _ _ _ h
theorem envOk {P : Program} {t : TT} {E : Env} (h1 : E.ti = t.get) (h : t.all (fun i v => tiChk P i v) = true) : EnvOk P E := by
 refine ⟨fun i hi => ?_⟩
 rw [h1] at hi ⊢
 clear h1
 induction t with
 | lf => cases hi
 | nd k v l r ih1 ih2 =>
  simp only [TT.all,Bool.and_eq_true] at h
  simp only [TT.get] at hi ⊢
  cases hb : Nat.beq k i
  ·rw [hb] at hi
   simp only [cond_false] at hi ⊢
   cases hc : Nat.ble k i
   ·rw [hc] at hi
    exact ih1 h.1.2 hi
   ·rw [hc] at hi
    exact ih2 h.2 hi
  ·rw [Nat.eq_of_beq_eq_true hb] at h
   exact h.1.1
def Dec.St {V : Type} (d : Dec V) (x : V) : St := { tm := (d.args x).nth,hp := fun i => (d.ins x).getD i .dead,n := (d.ins x).length }
structure World0 (P : Program) (gv : Nat → AV) (t : TT) : Prop where
 mix : P.follows .mixedOrders = true
 tab : t.all (fun i v => tiChk P i v) = true
 gls : ∀ g,hs (gv g) = []
theorem Impl.of {P : Program} {gv : Nat → AV} {t : TT} (W0 : World0 P gv t) {l : List (Nat × List Nat × Spec)} (hO : AllI P gv l) {f j nr : Nat} {fn : Func} {V U : Type} {h : H} {po : List G} {R : U → St} {d : Dec V}
  (s : SumT { ti := t.get,gl := gv,orc := lkS l } nr j (bodyOf fn) h po d.St R R q0) (hd : d.Ok) (sp : Spec) (out : U → (FRes → Option FRes) → Option FRes)
  (hf : P.funcs[f]? = some fn := by kernel_rfl)
  (hb : (fn.name == "runtime.NumGoroutine") = false ∧ fn.body = some (bodyOf fn) ∧ dstC fn.ntmps (bodyOf fn) = true := by exact ⟨by kernel_rfl,by kernel_rfl,by kernel_rfl⟩)
  (hr : ∀ x,(addNew [] (hs (d.args x))).length = nr := by intro x; kernel_rfl) (hl : ∀ x,Nat.ble nr (d.ins x).length = true := by intro x; kernel_rfl)
  (hR : ∀ (u : U) (K : FRes → Option FRes),(resE { ti := t.get,gl := gv,orc := lkS l } (R u) fn.results.toList fun vs => finE nr (R u).hp vs K) = out u K := by intro u K; kernel_rfl)
  (hs : ∀ (a : AV) (o : List Ob) (K : FRes → Option FRes),sp.run a o K = (d.dec a o).bind fun x => s.F x (fun u => out u K) (fun u => out u K) (fun z => nomatch z) := by intro a o K; kernel_rfl) : Impl P gv f sp := by
 refine ⟨⟨fn,hf,hb.1,by rw [hb.2.1]; rfl⟩,fun args ins K r he => ?_⟩
 rw [hs] at he
 rw [Option.bind_eq_some_iff] at he
 obtain ⟨x,hx,he⟩ := he
 obtain ⟨rfl,rfl⟩ := hd.dec hx
 have h1 := evF_sum (E := { ti := t.get,gl := gv,orc := lkS l }) (j := j) (K := K) (x := x) hb.2.1 (hr x) (hl x) s.ok rfl (fun u => hR u K)
 exact evF_snd W0.mix (envOk rfl W0.tab) rfl (fun f s sp h => hO.get f s sp h) W0.gls hf hb.2.1 hb.2.2 (h1.trans he)
abbrev E0 (gv : Nat → AV) (t : TT) : Env := { ti := t.get,gl := gv,orc := lkS [] }
theorem run_at {P : Program} {gv : Nat → AV} {t : TT} (W0 : World0 P gv t) {f j : Nat} {fn : Func} {c : Code} (hf : P.funcs[f]? = some fn) (hb : fn.body = some c) (hd : dstC fn.ntmps c = true) {h : H} {po : List G} {args : AV} {ins : List Ob} {fr : FRes}
  (he : evF (E0 gv t) j fn h po args ins some = some fr) {Z : Nat → Prop} {w : World} {σ : Nat → Sh} {vs : Array Value} (hv : VR Z w σ args vs.toList) (il : isL args = true) (m : MR gv Z w σ (obsF ins)) (hu : ∀ i,σ i = .un ↔ ins.length ≤ i) :
  Calls P f vs w (RetOk gv Z w σ ins (addNew [] (hs args)).length fr) := by
 obtain ⟨fr',h1,_,h3⟩ := evF_snd (E := E0 gv t) W0.mix (envOk rfl W0.tab) rfl (fun f s sp h => AllI.get (l := []) trivial f s sp h) W0.gls hf hb hd he
 cases h1
 exact h3 Z w σ vs hv il m hu
def hClone (e : Ty) : H := hr (hl (hr (hl (hr (.n [.own 2 none e] [] .d .d)))))
theorem clone_impl {P : Program} {gv : Nat → AV} {t : TT} (W0 : World0 P gv t) {f : Nat} {fn : Func} {e : Ty} {n k : Nat} (hf : P.funcs[f]? = some fn)
  (hb : (fn.name == "runtime.NumGoroutine") = false ∧ fn.body = some (bodyOf fn) ∧ dstC fn.ntmps (bodyOf fn) = true)
  (h1 : ∀ (x : e.den) (xs : List e.den),evF (E0 gv t) 0 fn (hClone e) [] (.cn (.p (.sl e) (x :: xs : List e.den)) .e0) [] some = if (0 + (x :: xs).length) * n ≤ room then some { ret := .sl 0 none none,objs := [.L e (x :: xs)] } else none)
  (h2 : ∀ c,evF (E0 gv t) 0 fn (hClone e) [] (.cn (.k (.slice none 0 c)) .e0) [] some = some { ret := .sl 0 none none,objs := [.L e []] })
  (h3 : ∀ a c,evF (E0 gv t) 0 fn (hClone e) [] (.cn (.k (.slice (some a) 0 c)) .e0) [] some = some { ret := .sl 0 none none,objs := [.L e []] }) : Impl P gv f (cloneS e n k) := by
 refine ⟨⟨fn,hf,hb.1,by rw [hb.2.1]; rfl⟩,fun args ins K r he => ?_⟩
 obtain ⟨xs,hx,h4⟩ := Option.bind_eq_some_iff.1 he
 clear he
 have he : cloneF n k xs (fun y => K { ret := .sl 0 none none,objs := [.L e y] }) = some r := h4
 clear h4
 obtain ⟨rfl,rfl⟩ := (d1_ok (dP_ok (.sl e))).dec hx
 unfold cloneF at he
 split at he
 case isFalse => cases he
 rename_i hn
 refine ⟨_,he,Nat.zero_le _,fun Z w σ vs hv il m hu => ?_⟩
 obtain ⟨v,r',e1,h4,h5,_⟩ := hv
 have h5 : r' = [] := h5
 subst h5
 cases xs with
 | cons x xs =>
  refine run_at W0 hf hb.2.1 hb.2.2 (args := .cn (.p (.sl e) (x :: xs : List e.den)) .e0) ((h1 x xs).trans (if_pos (by rw [Nat.zero_add]; exact hn))) (by rw [e1]; exact ⟨v,[],rfl,h4,rfl,rfl⟩) rfl m hu
 | nil =>
  obtain ⟨a,c,e2,_⟩ := h4.2
  cases e2
  cases a with
  | none => exact run_at W0 hf hb.2.1 hb.2.2 (args := .cn (.k (.slice none 0 c)) .e0) (h2 c) (by rw [e1]; exact ⟨_,[],rfl,rfl,rfl,rfl⟩) rfl m hu
  | some a => exact run_at W0 hf hb.2.1 hb.2.2 (args := .cn (.k (.slice (some a) 0 c)) .e0) (h3 a c) (by rw [e1]; exact ⟨_,[],rfl,rfl,rfl,rfl⟩) rfl m hu
def tyOk : (t : Ty) → t.den → Prop
 | .int k,x => (Lit.int k x).wf = true
 | .str,x => ByteArray.size x ≤ maxLen
 | .sl e,xs => List.length xs ≤ room ∧ ∀ x ∈ (id (α := List e.den) xs),tyOk e x
 | .pr a b,x => tyOk a x.1 ∧ tyOk b x.2
 | _,_ => True
def prOf : List Ty → Ty
 | [] => .un
 | [t] => t
 | t :: r => .pr t (prOf r)
def cellsF (P : Program) (q : TypeId → Option (List Ty)) : List Field → Nat → Option (List Ty)
 | [],_ => some []
 | f :: r,o => match q f.type with
  | some l => if f.offset = o ∧ l.length = P.cellsOf f.type then (cellsF P q r (o + l.length)).map (l ++ ·) else none
  | none => none
def repL (l : List Ty) : Nat → List Ty
 | 0 => []
 | n + 1 => l ++ repL l n
def cellsTy (P : Program) : Nat → TypeId → Option (List Ty)
 | 0,_ => none
 | d + 1,t => match P.underlying t with
  | some (.int k) => some [.int k]
  | some .bool => some [.bool]
  | some .string => some [.str]
  | some (.slice e) => match cellsTy P d e with
   | some l => if (prOf l).sz = P.cellsOf e ∧ 0 < P.cellsOf e ∧ 0 < P.bytesOf e then some [.sl (prOf l)] else none
   | none => none
  | some (.struct fs) => match cellsF P (cellsTy P d) fs.toList 0 with
   | some l => if l.length = P.cellsOf t then some l else none
   | none => none
  | some (.array n e) => match cellsTy P d e with
   | some l => if l.length = P.cellsOf e ∧ n * l.length = P.cellsOf t then some (repL l n) else none
   | none => none
  | _ => none
section
variable {P : Program} {w : World} {Z : Nat → Prop}
def PVL (Z : Nat → Prop) (w : World) : List Ty → List Value → Prop
 | [],cs => cs = []
 | t :: r,cs => ∃ c cs',cs = c ++ cs' ∧ (∃ x,PV Z w t x c ∧ tyOk t x) ∧ PVL Z w r cs'
theorem PVL.append : ∀ {l m : List Ty} {a b : List Value},PVL Z w l a → PVL Z w m b → PVL Z w (l ++ m) (a ++ b)
 | [],m,a,b,h,k => by
  cases h
  exact k
 | t :: r,m,a,b,h,k => by
  obtain ⟨c,cs',rfl,h1,h2⟩ := h
  exact ⟨c,cs' ++ b,by simp,h1,h2.append k⟩
theorem PVL.one {t : Ty} {cs : List Value} {x : t.den} (h : PV Z w t x cs) (k : tyOk t x) : PVL Z w [t] cs := ⟨cs,[],by simp,⟨x,h,k⟩,rfl⟩
theorem PVL.pr : ∀ {l : List Ty} {cs : List Value},PVL Z w l cs → ∃ x,PV Z w (prOf l) x cs ∧ tyOk (prOf l) x
 | [],cs,h => ⟨(),h,trivial⟩
 | [t],cs,h => by
  obtain ⟨c,cs',rfl,h1,h2⟩ := h
  cases h2
  rw [List.append_nil]
  exact h1
 | t :: u :: r,cs,h => by
  obtain ⟨c,cs',rfl,⟨x,h1,h3⟩,h2⟩ := h
  obtain ⟨y,h4,h5⟩ := PVL.pr h2
  exact ⟨(x,y),⟨c,cs',rfl,h1,h4⟩,h3,h5⟩
theorem choose_list {α : Type} {R : Nat → α → Prop} : ∀ n : Nat,(∀ i,i < n → ∃ x,R i x) → ∃ xs : List α,xs.length = n ∧ ∀ i x,xs[i]? = some x → R i x
 | 0,_ => ⟨[],rfl,fun i x h => by simp at h⟩
 | n + 1,h => by
  obtain ⟨xs,h1,h2⟩ := choose_list n fun i hi => h i (by omega)
  obtain ⟨x,hx⟩ := h n (by omega)
  refine ⟨xs ++ [x],by simp [h1],fun i y hy => ?_⟩
  rcases Nat.lt_or_ge i n with hi | hi
  ·rw [List.getElem?_append_left (by omega)] at hy
   exact h2 i y hy
  ·have : i = n := by
    have := (List.getElem?_eq_some_iff.1 hy).1
    simp at this
    omega
   subst this
   rw [List.getElem?_append_right (by omega)] at hy
   simp [h1] at hy
   subst hy
   exact hx
theorem take_split {cs : List Value} {o m n : Nat} : (cs.drop o).take (m + n) = (cs.drop o).take m ++ (cs.drop (o + m)).take n := by
 rw [List.take_add,List.drop_drop]
theorem cellsF_PVL {q : TypeId → Option (List Ty)} {cs : List Value} : ∀ {fs : List Field} {o : Nat} {l : List Ty},cellsF P q fs o = some l →
  (∀ f ∈ fs,∀ m,q f.type = some m → PVL Z w m ((cs.drop f.offset).take (P.cellsOf f.type))) → PVL Z w l ((cs.drop o).take l.length)
 | [],o,l,h,_ => by
  cases h
  simp [PVL]
 | f :: r,o,l,h,hf => by
  simp only [cellsF] at h
  split at h
  case h_2 => cases h
  rename_i m hm
  split at h
  case isFalse => cases h
  rename_i hc
  obtain ⟨l2,h2,rfl⟩ := Option.map_eq_some_iff.1 h
  have h3 := hf f (by simp) m hm
  rw [hc.1,← hc.2] at h3
  have h4 := cellsF_PVL h2 fun g hg => hf g (by simp [hg])
  rw [List.length_append,take_split]
  exact h3.append h4
theorem repL_PVL {l : List Ty} {cs : List Value} : ∀ {n o : Nat},(∀ i,i < n → PVL Z w l ((cs.drop (o + i * l.length)).take l.length)) → PVL Z w (repL l n) ((cs.drop o).take (n * l.length))
 | 0,o,_ => by simp [repL,PVL]
 | n + 1,o,h => by
  have h1 := h 0 (by omega)
  have h2 := repL_PVL (n := n) (o := o + l.length) fun i hi => by
   have := h (i + 1) (by omega)
   rw [Nat.succ_mul] at this
   rwa [show o + l.length + i * l.length = o + (i * l.length + l.length) by omega]
  rw [Nat.succ_mul,Nat.add_comm (n * l.length),take_split]
  rw [Nat.zero_mul,Nat.add_zero] at h1
  exact h1.append h2
theorem mem_wAll {H : Type} {e : TypeId} {n : Nat} : ∀ {l : List (DataW H)} {d : DataW H},d ∈ l → n ∈ d.weights P e → n ∈ DataW.weightsAll P e l
 | x :: l,d,hd,hn => by
  rw [DataW.weightsAll]
  rcases List.mem_cons.1 hd with rfl | hd
  ·exact List.mem_append_left _ hn
  ·exact List.mem_append_right _ (mem_wAll hd hn)
theorem mem_wEach {H : Type} {n : Nat} : ∀ {ts : List TypeId} {l : List (DataW H)} {i : Nat} {t : TypeId} {d : DataW H},ts[i]? = some t → l[i]? = some d → n ∈ d.weights P t → n ∈ DataW.weightsEach P ts l
 | u :: ts,x :: l,0,t,d,h1,h2,hn => by
  cases h1
  cases h2
  rw [DataW.weightsEach]
  exact List.mem_append_left _ hn
 | u :: ts,x :: l,i + 1,t,d,h1,h2,hn => by
  rw [DataW.weightsEach]
  exact List.mem_append_right _ (mem_wEach (i := i) (by simpa using h1) (by simpa using h2) hn)
 | [],_,_,_,_,h1,_,_ => by simp at h1
 | _ :: _,[],_,_,_,_,h2,_ => by simp at h2
theorem trod_PVL {H : Type} {enc : TypeId × Value → H} {base : Nat} {spare : Nat → Bool} {held : Bool} : ∀ {d fuel : Nat} {t : TypeId} {cs : List Value} {r : DataW H × List MemPlace} {l : List Ty},
  DataW.trod enc P w base spare held fuel t cs = some r → cellsTy P d t = some l → (∀ n ∈ r.1.weights P t,n ≤ reachBytes) → PVL (fun b => b < w.heap.size) w l cs
 | 0,_,_,_,_,_,_,hl,_ => by cases hl
 | d + 1,fuel,t,cs,r,l,h,hl,hz => by
  unfold cellsTy at hl
  split at hl
  ·rename_i k hu
   cases hl
   obtain ⟨n,rfl,_,hw⟩ := DataW.trod_int hu h
   exact PVL.one (t := .int k) (x := n) rfl hw
  ·rename_i hu
   cases hl
   obtain ⟨b,rfl,_⟩ := DataW.trod_bool hu h
   exact PVL.one (t := .bool) (x := b) rfl trivial
  ·rename_i hu
   cases hl
   obtain ⟨s,rfl,_,hs⟩ := DataW.trod_string hu h
   exact PVL.one (t := .str) (x := s) rfl hs
  ·rename_i e hu
   split at hl
   case h_2 => cases hl
   rename_i l' hl'
   split at hl
   case isFalse => cases hl
   rename_i hc
   cases hl
   rcases DataW.trod_slice hu h with ⟨rfl,_⟩ | ⟨a,len,cap,elems,rest,n,_,rfl,rfl,hb,hle,hm,hlen,hel,_⟩
   ·exact PVL.one (t := .sl (prOf l')) (x := ([] : List (prOf l').den)) ⟨none,0,rfl,Nat.le_refl _,.inl rfl⟩ ⟨Nat.zero_le _,fun x hx => by cases hx⟩
   ·simp only [DataW.weights,hu,List.mem_cons,List.mem_append,List.length_map] at hz
    have hroom : len ≤ room := by
     have h0 := hz _ (.inl rfl)
     have h1 : elems.length + rest.length ≤ (elems.length + rest.length) * P.bytesOf e := Nat.le_mul_of_pos_right _ hc.2.2
     have h2 : reachBytes ≤ room := by decide
     omega
    obtain ⟨xs,h1,h2⟩ := choose_list (R := fun i (x : (prOf l').den) => ∃ q,w.cells? base (a.add (i * P.cellsOf e)) (P.cellsOf e) = some q ∧ PV (fun b => b < w.heap.size) w (prOf l') x q ∧ tyOk (prOf l') x) len fun i hi => by
     have h3 := hel i hi
     rw [show elems[i]? = some elems[i] from List.getElem?_eq_getElem (by omega)] at h3
     obtain ⟨q,h4,h5⟩ := Option.bind_eq_some_iff.1 h3
     obtain ⟨x,h6,h7⟩ := (trod_PVL h5 hl' fun m hm => hz m (.inr (.inl (mem_wAll (List.mem_map.2 ⟨_,List.getElem_mem (by omega),rfl⟩) hm)))).pr
     exact ⟨x,q,h4,h6,h7⟩
    refine PVL.one (t := .sl (prOf l')) (x := xs) ⟨some a,cap,by rw [h1],by omega,?_⟩ ⟨by rw [h1]; exact hroom,fun x hx => ?_⟩
    ·by_cases h0 : len = 0
     ·exact .inl (by omega)
     ·obtain ⟨q,h4,h5,_⟩ := h2 0 xs[0] (List.getElem?_eq_getElem (by omega))
      obtain ⟨_,h6,h7⟩ := World.cells?_some h4
      have h8 := h7 0 hc.2.1
      have h9 : (a.add (0 * P.cellsOf e)).add 0 = a := by simp [Addr.add]
      rw [h9,List.getElem?_eq_getElem (by omega)] at h8
      have h10 : a.spot = none ∧ a.block < w.heap.size := by
       unfold World.cell? at h8
       split at h8
       ·rename_i hh
        refine ⟨?_,(Array.getElem?_eq_some_iff.1 hh).1⟩
        split at h8
        ·cases h8
        ·rename_i hs
         simpa using hs
       ·cases h8
      refine .inr ⟨a.block,a.off,by rw [← h10.1],h10.2,fun i x hx => ?_⟩
      obtain ⟨q,h4,h5,_⟩ := h2 i x hx
      obtain ⟨_,h6,h7⟩ := World.cells?_some h4
      refine ⟨q,h5,fun j v hj => ?_⟩
      have hj' : j < P.cellsOf e := by
       have := (List.getElem?_eq_some_iff.1 hj).1
       omega
      have h11 := h7 j hj'
      rw [hj] at h11
      have h12 : (a.add (i * P.cellsOf e)).add j = ⟨a.block,a.off + i * (prOf l').sz + j,none⟩ := by
       rw [hc.1]
       have := h10.1
       cases a
       simp only at this
       subst this
       simp only [Addr.add]
       split <;> split <;> simp_all <;> omega
      rw [← h12]
      exact h11
    ·obtain ⟨i,hi⟩ := List.getElem?_of_mem hx
     obtain ⟨_,_,_,h3⟩ := h2 i x hi
     exact h3
  ·rename_i fs hu
   split at hl
   case h_2 => cases hl
   rename_i l' hl'
   split at hl
   case isFalse => cases hl
   rename_i hc
   cases hl
   obtain ⟨xs,n,_,rfl,hlen,hxs,hf⟩ := DataW.trod_struct hu h
   simp only [DataW.weights,hu] at hz
   have h1 := cellsF_PVL (P := P) (Z := fun b => b < w.heap.size) (w := w) (cs := cs) hl' fun f hmem m hm => by
    obtain ⟨i,hi⟩ := List.getElem?_of_mem hmem
    rw [Array.getElem?_toList] at hi
    have h2 := hf i f hi
    have hi2 : i < xs.length := by
     rw [hxs]
     exact (Array.getElem?_eq_some_iff.1 hi).1
    rw [List.getElem?_eq_getElem hi2] at h2
    exact trod_PVL h2 hm fun q hq => hz q (mem_wEach (i := i) (by rw [List.getElem?_map,Array.getElem?_toList,hi]; rfl) (by rw [List.getElem?_map,List.getElem?_eq_getElem hi2]; rfl) hq)
   rw [List.drop_zero,List.take_of_length_le (by omega)] at h1
   exact h1
  ·rename_i n e hu
   split at hl
   case h_2 => cases hl
   rename_i l' hl'
   split at hl
   case isFalse => cases hl
   rename_i hc
   cases hl
   obtain ⟨xs,m,_,rfl,hlen,hxs,hf⟩ := DataW.trod_array hu h
   simp only [DataW.weights,hu] at hz
   have h1 := repL_PVL (Z := fun b => b < w.heap.size) (w := w) (l := l') (cs := cs) (n := n) (o := 0) fun i hi => by
    have h2 := hf i hi
    rw [List.getElem?_eq_getElem (by omega)] at h2
    rw [Nat.zero_add,hc.1]
    exact trod_PVL h2 hl' fun q hq => hz q (mem_wAll (List.mem_map.2 ⟨_,List.getElem_mem (by omega),rfl⟩) hq)
   rw [List.drop_zero,List.take_of_length_le (by omega)] at h1
   exact h1
  ·cases hl
end
end Go.Proofs.YtkeiedikiiccpaaGreatDoor.Am
namespace Go.Proofs.YtkeiedikiiccpaaGreatDoor.Am
open Go Go.RowKit Go.ChangeShapes
abbrev Zw (W : World) : Nat → Prop := fun b => b < W.heap.size
theorem run_law {P : Program} {gv : Nat → AV} {f : FuncId} {sp : Spec} (I : Impl P gv f sp) {av : AV} (h : sp.run av [] some = some { ret := .p .bool true,objs := [] }) {W : World} {vs : Array Value}
  (hv : VR (Zw W) W (fun _ => .un) av vs.toList) (il : isL av = true) (hg : ∀ g,VR (Zw W) W (fun _ => .un) (gv g) [.pointer (some ⟨g,0,none⟩)]) :
  Calls P f vs W fun e W' => e = .returned (.bool true) ∧ Below W.heap.size W W' := by
 obtain ⟨fr,h1,_,h3⟩ := I.run av [] some _ h
 cases h1
 have m : MR gv (Zw W) W (fun _ => .un) (obsF []) := ⟨fun h e => absurd rfl e,fun _ _ => rfl,fun h h' b hb _ => hb.elim,fun _ h => h,hg⟩
 refine Calls.mono (h3 (Zw W) W (fun _ => .un) vs hv il m fun i => ⟨fun _ => Nat.zero_le _,fun _ => rfl⟩) fun e W' hr => ?_
 cases e with
 | returned v =>
  obtain ⟨Z',σ',h4,_,h5,_⟩ := hr
  refine ⟨by rw [h4.boolp],h5.os,h5.tape,h5.out,h5.size,fun k hk => h5.same k hk fun ho => ?_⟩
  obtain ⟨h,hb⟩ := ho
  exact hb.elim
 | panicked _ => exact hr.elim
 | outgrown => exact hr.elim
section
variable {H : Type} {enc : TypeId × Value → H} {P : Program} {W W' : World}
theorem trodAll_below (hl : laidOutB P = true) (hb : Below W.heap.size W W') : ∀ {ts : List TypeId} {vs : List Value} {ds : List (DataW H)} {ps : List MemPlace},
  (∀ t ∈ ts,P.readableRec t = true ∧ t < P.types.size) → DataW.TrodAll enc P W 0 (fun _ => true) true ts vs ds ps → (∀ x ∈ ps,x.block < W.heap.size) → DataW.TrodAll enc P W' 0 (fun b => decide (b < W.heap.size)) true ts vs ds ps
 | [],[],[],_,_,h,_ => h
 | t :: ts,v :: vs,d :: ds,ps,ht,h,hp => by
  obtain ⟨p,q,h1,h2,rfl⟩ := h
  have h3 := ht t (by simp)
  exact ⟨p,q,Below.trod hl h3.1 h3.2 h1 hb fun x hx => hp x (by simp [hx]),trodAll_below hl hb (fun t h => ht t (by simp [h])) h2 fun x hx => hp x (by simp [hx]),rfl⟩
 | [],_ :: _,_,_,_,h,_ => h.elim
 | [],[],_ :: _,_,_,h,_ => h.elim
 | _ :: _,[],_,_,_,h,_ => h.elim
 | _ :: _,_ :: _,[],_,_,h,_ => h.elim
theorem law_post {f : Func} {s : ChangeSpec} {apart fresh handsOn : Bool} {args : Array Value} {ds gs : List (DataW H)} {before : List MemPlace} {tb : TypeId} (hl : laidOutB P = true) (hs : s.vars = [])
  (hW : DataW.Whole enc P f.params.toList s.vars apart W args.toList ds gs before) (hfn : s.fn H (ds ++ gs) = { results := [.lit (.bool true)],args := ds })
  (hr : f.resultTypes = #[tb]) (hub : P.underlying tb = some .bool) (hp : ∀ t ∈ f.params.toList,P.readableRec t = true ∧ t < P.types.size) (hb : Below W.heap.size W W') :
  s.post enc P f apart fresh handsOn false W args (.bool true) W' := by
 have hW' := hW
 obtain ⟨p,q,hA,hV,rfl,_,_⟩ := hW'
 refine ⟨ds,gs,p ++ q,[],p,[],hW,?_,?_,?_,hb.frame _,fun h => by cases h⟩
 ·rw [hfn,hr]
  exact trodAll_mk1 (shut_bool hub true)
 ·rw [hfn]
  exact trodAll_below hl hb hp hA fun x hx => hW.lt x (by simp [hx])
 ·rw [hfn,hs]
  rfl
end
end Go.Proofs.YtkeiedikiiccpaaGreatDoor.Am
namespace Go.Proofs.YtkeiedikiiccpaaGreatDoor.Am
open Go Go.RowKit Go.ChangeShapes
section
variable {H : Type} {enc : TypeId × Value → H} {P : Program} {W : World} {r : _root_.Go.Reach} {base b0 : Nat} {spare : Nat → Bool} {held : Bool} {t : TypeId} {v : Value} {d : DataW H} {ps : List MemPlace} {σ : Nat → Sh} {m : Nat}
def tyIs (P : Program) (m : Nat) (t : TypeId) (e : Ty) : Prop := (cellsTy P m t).map prOf = some e
theorem tyIs_spec {e : Ty} (h : tyIs P m t e) : ∃ l,cellsTy P m t = some l ∧ prOf l = e := by
 obtain ⟨l,h1,h2⟩ := Option.map_eq_some_iff.1 h
 exact ⟨l,h1,h2⟩
theorem arg_struct {fs : Array Field} {e : Ty} (hu : P.underlying t = some (.struct fs)) (he : tyIs P m t e) (hval : Value.okWide P W r b0 t v) (h : DataW.Trod enc P W base spare held t v d ps) (hz : ∀ n ∈ d.weights P t,n ≤ reachBytes) :
  ∃ x : e.den,VR (Zw W) W σ (.agg (toC e x)) [v] ∧ tyOk e x := by
 obtain ⟨l,h1,rfl⟩ := tyIs_spec he
 obtain ⟨cs,rfl,_⟩ := WideShapes.okWide_struct hu hval
 obtain ⟨fuel,hf⟩ := h
 obtain ⟨x,h2,h3⟩ := (trod_PVL hf h1 hz).pr
 exact ⟨x,⟨cs,rfl,PV.toC _ h2,isL_toC _ _⟩,h3⟩
theorem arg_array {n : Nat} {te : TypeId} {e : Ty} (hu : P.underlying t = some (.array n te)) (he : tyIs P m t e) (hval : Value.okWide P W r b0 t v) (h : DataW.Trod enc P W base spare held t v d ps) (hz : ∀ n ∈ d.weights P t,n ≤ reachBytes) :
  ∃ x : e.den,VR (Zw W) W σ (.agg (toC e x)) [v] ∧ tyOk e x := by
 obtain ⟨l,h1,rfl⟩ := tyIs_spec he
 obtain ⟨cs,rfl⟩ : ∃ cs,v = .agg cs := by
  simp only [Value.okWide,hu] at hval
  obtain ⟨cs,h1,_⟩ := hval
  exact ⟨cs,h1⟩
 obtain ⟨fuel,hf⟩ := h
 obtain ⟨x,h2,h3⟩ := (trod_PVL hf h1 hz).pr
 exact ⟨x,⟨cs,rfl,PV.toC _ h2,isL_toC _ _⟩,h3⟩
theorem arg_slice {te : TypeId} {e : Ty} (hu : P.underlying t = some (.slice te)) (he : tyIs P m t (.sl e)) (hval : Value.okWide P W r b0 t v) (h : DataW.Trod enc P W base spare held t v d ps) (hz : ∀ n ∈ d.weights P t,n ≤ reachBytes) :
  ∃ x : List e.den,VR (Zw W) W σ (.p (.sl e) x) [v] ∧ tyOk (.sl e) x := by
 obtain ⟨l,h1,h4⟩ := tyIs_spec he
 obtain ⟨a,n,c,rfl⟩ := WideShapes.okWide_slice hu hval
 obtain ⟨fuel,hf⟩ := h
 obtain ⟨x,h2,h3⟩ := (trod_PVL hf h1 hz).pr
 revert x
 rw [h4]
 intro x h2 h3
 exact ⟨x,⟨rfl,h2⟩,h3⟩
end
end Go.Proofs.YtkeiedikiiccpaaGreatDoor.Am
namespace Go.Proofs.YtkeiedikiiccpaaGreatDoor.Am
open Go Go.RowKit Go.ChangeShapes
mutual
def litsOf {H : Type} : DataW H → Option (List Value)
 | .lit (.bool b) => some [.bool b]
 | .lit (.int k n) => some [.int k n]
 | .agg ps => litsAll ps
 | _ => none
def litsAll {H : Type} : List (DataW H) → Option (List Value)
 | [] => some []
 | d :: r => match litsOf d,litsAll r with
  | some a,some b => some (a ++ b)
  | _,_ => none
end
def arrN (P : Program) : Nat → TypeId → Bool
 | 0,_ => false
 | d + 1,t => match P.underlying t with
  | some (.int _) => true
  | some .bool => true
  | some (.array n e) => arrN P d e && decide (n * P.cellsOf e = P.cellsOf t)
  | _ => false
section
variable {H : Type} {enc : TypeId × Value → H} {P : Program} {w : World} {base : Nat} {spare : Nat → Bool} {held : Bool}
theorem lits_parts {cs : List Value} {c : Nat} : ∀ {xs : List (DataW H × List MemPlace)} {o : Nat} {vs : List Value},
  (∀ i (x : DataW H × List MemPlace),xs[i]? = some x → ∀ ws,litsOf x.1 = some ws → (cs.drop (o + i * c)).take c = ws) → litsAll (xs.map (·.1)) = some vs → (cs.drop o).take (xs.length * c) = vs
 | [],o,vs,_,h => by
  simp only [List.map_nil,litsAll,Option.some.injEq] at h
  simp [← h]
 | x :: xs,o,vs,hx,h => by
  simp only [List.map_cons,litsAll] at h
  split at h
  case h_2 => cases h
  rename_i a b ha hb
  cases h
  have h1 := hx 0 x rfl a ha
  have h2 := lits_parts (xs := xs) (o := o + c) (fun i y hy ws hw => by
   have := hx (i + 1) y (by simpa using hy) ws hw
   rw [Nat.succ_mul] at this
   rwa [show o + c + i * c = o + (i * c + c) by omega]) hb
  rw [Nat.zero_mul,Nat.add_zero] at h1
  rw [List.length_cons,Nat.succ_mul,Nat.add_comm (xs.length * c),take_split,h1,h2]
theorem lits_eq : ∀ {m fuel : Nat} {t : TypeId} {cs : List Value} {r : DataW H × List MemPlace} {vs : List Value},DataW.trod enc P w base spare held fuel t cs = some r → arrN P m t = true → litsOf r.1 = some vs → cs = vs
 | 0,_,_,_,_,_,_,h,_ => by cases h
 | m + 1,fuel,t,cs,r,vs,h,ha,hv => by
  unfold arrN at ha
  split at ha
  ·rename_i k hu
   obtain ⟨n,rfl,rfl,_⟩ := DataW.trod_int hu h
   simpa [litsOf] using hv
  ·rename_i hu
   obtain ⟨b,rfl,rfl⟩ := DataW.trod_bool hu h
   simpa [litsOf] using hv
  ·rename_i n e hu
   simp only [Bool.and_eq_true,decide_eq_true_eq] at ha
   obtain ⟨xs,q,_,rfl,hlen,hxs,hf⟩ := DataW.trod_array hu h
   simp only [litsOf] at hv
   have h1 := lits_parts (cs := cs) (c := P.cellsOf e) (o := 0) (fun i x hx ws hw => by
    have hi : i < n := by
     have := (List.getElem?_eq_some_iff.1 hx).1
     omega
    have h2 := hf i hi
    rw [hx] at h2
    rw [Nat.zero_add]
    exact lits_eq h2 ha.1 hw) hv
   rw [List.drop_zero,List.take_of_length_le (by rw [hxs]; omega)] at h1
   exact h1
  ·cases ha
theorem laid_cells {n : String} {d : DataW Unit} {l : List (String × DataW Unit)} {m g : Nat} {t : TypeId} {vs : List Value} (h : laidMet P ((n,d) :: l) w) (hg : P.globalNamed n = some g) (ht : (P.globals[g]?).map (·.type) = some t) (ha : arrN P m t = true) (hv : litsOf d = some vs) :
  ∃ cs,w.var? P n = some cs ∧ cs.toList = vs := by
 obtain ⟨ps,h1,_⟩ := h
 obtain ⟨g',t',cs,fuel,p,q,e1,e2,e3,e4,_⟩ := h1
 rw [hg] at e1
 cases e1
 rw [ht] at e2
 cases e2
 exact ⟨cs,e3,lits_eq e4 ha hv⟩
end
theorem gl_bools {P : Program} {w : World} {σ : Nat → Sh} {n : String} {g : Nat} {xs : List Bool} {cs : Array Value} (hg : P.globalNamed n = some g) (h : w.var? P n = some cs) (hc : cs.toList = xs.map fun b => Value.bool b) (hx : 0 < xs.length) :
  VR (Zw w) w σ (.rl .bool xs 0 0) [.pointer (some ⟨g,0,none⟩)] := by
 have hcell : ∀ i b,xs[i]? = some b → w.cell? ⟨g,i,none⟩ = some (.bool b) := fun i b hb => by
  rw [World.var?_cell hg h i,← Array.getElem?_toList,hc,List.getElem?_map,hb]
  rfl
 refine ⟨g,0,by simp,?_,hx,fun i b hb => ⟨[.bool b],rfl,fun j v hj => ?_⟩⟩
 ·simp only [World.var?,hg,Option.bind_some] at h
  split at h
  ·rename_i e
   exact (Array.getElem?_eq_some_iff.1 e).1
  ·cases h
 ·have hj0 : j = 0 := by
   have := (List.getElem?_eq_some_iff.1 hj).1
   simp at this
   omega
  subst hj0
  simp at hj
  subst hj
  simpa [Ty.sz] using hcell i b hb
end Go.Proofs.YtkeiedikiiccpaaGreatDoor.Am
