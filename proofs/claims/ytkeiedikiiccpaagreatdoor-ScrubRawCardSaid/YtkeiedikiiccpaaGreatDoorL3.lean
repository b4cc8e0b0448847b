/- The plain law: the program and the reference answer alike. -/
import Derived.Test.YtkeiedikiiccpaaGreatDoorL2
set_option linter.all false
namespace Go.Proofs.YtkeiedikiiccpaaGreatDoor.Am
open Go
def gsum : Nat → (Nat → F8) → F8
 | 0,_ => 0
 | n + 1,f => gsum n f ^^^ f n
theorem gsum_congr {f g : Nat → F8} : ∀ {n : Nat},(∀ i,i < n → f i = g i) → gsum n f = gsum n g
 | 0,_ => rfl
 | n + 1,h => by rw [gsum,gsum,gsum_congr fun i hi => h i (by omega),h n (by omega)]
theorem gsum_zero : ∀ {n : Nat} {f : Nat → F8},(∀ i,i < n → f i = 0) → gsum n f = 0
 | 0,_,_ => rfl
 | n + 1,f,h => by rw [gsum,gsum_zero fun i hi => h i (by omega),h n (by omega),x0]
theorem gsum_add (f g : Nat → F8) : ∀ n,gsum n (fun i => f i ^^^ g i) = gsum n f ^^^ gsum n g
 | 0 => (x0 _).symm
 | n + 1 => by
  simp only [gsum]
  rw [gsum_add f g n,xor_mid]
theorem gsum_mul (c : F8) (f : Nat → F8) : ∀ n,gsum n (fun i => gmul c (f i)) = gmul c (gsum n f)
 | 0 => (gmul_zero c).symm
 | n + 1 => by
  simp only [gsum]
  rw [gsum_mul c f n,gmul_add]
theorem gsum_swap (f : Nat → Nat → F8) (m : Nat) : ∀ n,gsum n (fun i => gsum m (f i)) = gsum m (fun j => gsum n fun i => f i j)
 | 0 => (gsum_zero fun _ _ => rfl).symm
 | n + 1 => by
  simp only [gsum]
  rw [gsum_swap f m n,← gsum_add]
theorem gsum_ext {f : Nat → F8} {n : Nat} : ∀ {m : Nat},n ≤ m → (∀ i,n ≤ i → i < m → f i = 0) → gsum m f = gsum n f
 | 0,h,_ => by rw [Nat.le_zero.1 h]
 | m + 1,h,h0 => by
  by_cases e : n = m + 1
  ·rw [e]
  ·rw [gsum,h0 m (by omega) (by omega),x0,gsum_ext (by omega) fun i h1 h2 => h0 i h1 (by omega)]
theorem gsum_front (f : Nat → F8) : ∀ n,gsum (n + 1) f = f 0 ^^^ gsum n fun i => f (i + 1)
 | 0 => by simp only [gsum]; rw [zx,x0]
 | n + 1 => by rw [gsum,gsum_front f n,gsum,BitVec.xor_assoc]
theorem gsum_rev (f : Nat → F8) : ∀ n,gsum n f = gsum n fun i => f (n - 1 - i)
 | 0 => rfl
 | n + 1 => by
  rw [gsum_front (fun i => f (n + 1 - 1 - i)) n,gsum,gsum_rev f n,BitVec.xor_comm]
  congr 1
  refine gsum_congr fun i hi => ?_
  congr 1
  omega
theorem gsum_shift (f : Nat → F8) (a : Nat) : ∀ n,gsum (a + n) (fun i => if a ≤ i then f (i - a) else 0) = gsum n f
 | 0 => gsum_zero fun i hi => by rw [if_neg (by omega)]
 | n + 1 => by
  rw [← Nat.add_assoc,gsum,gsum_shift f a n,if_pos (by omega),gsum]
  congr 2
  omega
theorem gsum_one {f : Nat → F8} {n k : Nat} (hk : k < n) (h : ∀ i,i < n → i ≠ k → f i = 0) : gsum n f = f k := by
 rw [gsum_ext (n := k + 1) (by omega) fun i h1 h2 => h i h2 (by omega),gsum,gsum_zero fun i hi => h i (by omega) (by omega),zx]
section
variable (u : Nat → F8)
def Gn (C : Nat → F8) (L N : Nat) : Prop := ∀ i,L ≤ i → i < N → gsum (L + 1) (fun j => gmul (C j) (u (i - j))) = 0
variable {u}
theorem Gn.le {C : Nat → F8} {L N M : Nat} (h : Gn u C L N) (hm : M ≤ N) : Gn u C L M := fun i h1 h2 => h i h1 (by omega)
theorem massey {B C : Nat → F8} {LB L N : Nat} (hB : Gn u B LB N) (hd : gsum (LB + 1) (fun j => gmul (B j) (u (N - j))) ≠ 0) (hC : Gn u C L (N + 1)) (hC0 : C 0 = 1) : N + 1 ≤ L + LB := by
 refine Nat.lt_of_not_le fun hle => hd ?_
 have h1 : gsum (LB + 1) (fun i => gsum (L + 1) fun j => gmul (gmul (B i) (C j)) (u (N - i - j))) = 0 := by
  refine gsum_zero fun i hi => ?_
  have := hC (N - i) (by omega) (by omega)
  rw [show gsum (L + 1) (fun j => gmul (gmul (B i) (C j)) (u (N - i - j))) = gsum (L + 1) (fun j => gmul (B i) (gmul (C j) (u (N - i - j)))) from gsum_congr fun j _ => gmul_assoc _ _ _,gsum_mul,this,gmul_zero]
 rw [gsum_swap,gsum_front,gsum_zero (n := L),x0,hC0] at h1
 ·rw [← h1]
  exact gsum_congr fun i _ => by rw [gmul_one,Nat.sub_zero]
 ·intro j hj
  have := hB (N - (j + 1)) (by omega) (by omega)
  rw [show gsum (LB + 1) (fun i => gmul (gmul (B i) (C (j + 1))) (u (N - i - (j + 1)))) = gsum (LB + 1) (fun i => gmul (C (j + 1)) (gmul (B i) (u (N - (j + 1) - i)))) from gsum_congr fun i _ => by
   rw [gmul_comm (B i),gmul_assoc]
   congr 3
   omega,gsum_mul,this,gmul_zero]
def HS (u : Nat → F8) (N v : Nat) (l : Nat → F8) : Prop := ∀ i,i + v < N → gsum v (fun k => gmul (l k) (u (i + k))) = u (i + v)
theorem hs_gn {N v : Nat} {l C : Nat → F8} (h0 : C 0 = 1) (hl : ∀ k,k < v → l k = C (v - k)) : HS u N v l ↔ Gn u C v N := by
 have key : ∀ i,gsum (v + 1) (fun j => gmul (C j) (u (i + v - j))) = u (i + v) ^^^ gsum v (fun k => gmul (l k) (u (i + k))) := fun i => by
  rw [gsum_front,h0,one_gmul,Nat.sub_zero,gsum_rev (fun k => gmul (l k) (u (i + k)))]
  congr 1
  refine gsum_congr fun j hj => ?_
  rw [hl _ (by omega)]
  congr 2
  ·omega
  ·omega
 constructor
 ·intro h i h1 h2
  have := key (i - v)
  rw [show i - v + v = i by omega] at this
  rw [this,h (i - v) (by omega),show i - v + v = i by omega,xx]
 ·intro h i hi
  have := h (i + v) (by omega) hi
  rw [key,xor_eq_zero] at this
  exact this.symm
def Least (u : Nat → F8) (N L : Nat) : Prop := ∀ C' L',C' 0 = 1 → Gn u C' L' N → L ≤ L'
theorem no_less {N L v : Nat} {l : Nat → F8} (hL : Least u N L) (h : HS u N v l) : L ≤ v :=
 hL (fun j => if j = 0 then 1 else l (v - j)) v rfl ((hs_gn rfl fun k hk => by
  rw [if_neg (by omega)]
  congr 1
  omega).1 h)
theorem last_ne {δ : Nat → F8} : ∀ {L : Nat},(∃ k,k < L ∧ δ k ≠ 0) → ∃ d,d < L ∧ δ d ≠ 0 ∧ ∀ k,d < k → k < L → δ k = 0
 | 0,⟨k,h,_⟩ => absurd h (Nat.not_lt_zero _)
 | L + 1,⟨k,h,hk⟩ => by
  by_cases hz : δ L = 0
  ·obtain ⟨d,h1,h2,h3⟩ := last_ne (δ := δ) (L := L) ⟨k,by
    by_cases e : k = L
    ·subst e; exact absurd hz hk
    ·omega,hk⟩
   refine ⟨d,by omega,h2,fun j hj1 hj2 => ?_⟩
   by_cases e : j = L
   ·rw [e,hz]
   ·exact h3 j hj1 (by omega)
  ·exact ⟨L,by omega,hz,fun j h1 h2 => by omega⟩
theorem hs_unique {N L : Nat} {l l' : Nat → F8} (hL : Least u N L) (h2 : 2 * L ≤ N) (h : HS u N L l) (h' : HS u N L l') : ∀ k,k < L → l k = l' k := by
 intro k hk
 refine Classical.byContradiction fun hne => ?_
 obtain ⟨d,hd,hdn,hdz⟩ := last_ne (δ := fun k => l k ^^^ l' k) ⟨k,hk,fun e => hne (xor_eq_zero.1 e)⟩
 let δ : Nat → F8 := fun k => l k ^^^ l' k
 let t : Nat → F8 := fun i => gsum (d + 1) fun k => gmul (δ k) (u (i + k))
 have t0 : ∀ i,i + L < N → t i = 0 := fun i hi => by
  show gsum (d + 1) (fun k => gmul (δ k) (u (i + k))) = 0
  rw [← gsum_ext (m := L) (by omega) fun j h1 h2 => by rw [show δ j = 0 from hdz j (by omega) h2,zero_gmul]]
  rw [show gsum L (fun k => gmul (δ k) (u (i + k))) = gsum L (fun k => gmul (l k) (u (i + k)) ^^^ gmul (l' k) (u (i + k))) from gsum_congr fun j _ => add_gmul _ _ _,gsum_add,h i hi,h' i hi,xx]
 have tz : ∀ i,i + d < N → t i = 0 := by
  intro i
  induction i using Nat.strongRecOn with
  | ind i ih =>
   intro hi
   by_cases hs : i + L < N
   ·exact t0 i hs
   ·have e : t i = gsum L fun j => gmul (l j) (t (i - L + j)) := by
     show gsum (d + 1) (fun k => gmul (δ k) (u (i + k))) = _
     rw [show gsum (d + 1) (fun k => gmul (δ k) (u (i + k))) = gsum (d + 1) (fun k => gsum L fun j => gmul (gmul (δ k) (l j)) (u (i + k - L + j))) from gsum_congr fun k hk => by
      have := h (i + k - L) (by omega)
      rw [show i + k - L + L = i + k by omega] at this
      rw [← this,← gsum_mul]
      exact gsum_congr fun j _ => (gmul_assoc _ _ _).symm,gsum_swap]
     refine gsum_congr fun j hj => ?_
     rw [← gsum_mul]
     refine gsum_congr fun k hk => ?_
     rw [gmul_comm (δ k),gmul_assoc]
     congr 3
     omega
    rw [e]
    exact gsum_zero fun j hj => by rw [ih (i - L + j) (by omega) (by omega),gmul_zero]
 have hm : HS u N d fun k => gmul (ginv (δ d)) (δ k) := fun i hi => by
  have h3 := tz i hi
  have h3 : gsum d (fun k => gmul (δ k) (u (i + k))) ^^^ gmul (δ d) (u (i + d)) = 0 := h3
  rw [xor_eq_zero] at h3
  rw [show gsum d (fun k => gmul (gmul (ginv (δ d)) (δ k)) (u (i + k))) = gsum d (fun k => gmul (ginv (δ d)) (gmul (δ k) (u (i + k)))) from gsum_congr fun _ _ => gmul_assoc _ _ _,gsum_mul,h3,← gmul_assoc,ginv_gmul hdn,one_gmul]
 have := no_less hL hm
 omega
theorem hs_more {N L v : Nat} {l : Nat → F8} (h : HS u N L l) (hv : L < v) : ∃ l1 l2,HS u N v l1 ∧ HS u N v l2 ∧ ∃ k,k < v ∧ l1 k ≠ l2 k := by
 let l1 : Nat → F8 := fun k => if v - L ≤ k then l (k - (v - L)) else 0
 let e : Nat → F8 := fun k => if k < L then l k else if k = L then 1 else 0
 have h1 : HS u N v l1 := fun i hi => by
  have h3 := h (i + (v - L)) (by omega)
  rw [show i + (v - L) + L = i + v by omega] at h3
  rw [← h3,← gsum_shift _ (v - L) L,show v - L + L = v by omega]
  refine gsum_congr fun k hk => ?_
  show gmul (if v - L ≤ k then l (k - (v - L)) else 0) (u (i + k)) = _
  split
  ·congr 2
   omega
  ·exact zero_gmul _
 refine ⟨l1,fun k => l1 k ^^^ e k,h1,fun i hi => ?_,L,hv,fun h => ?_⟩
 ·rw [show gsum v (fun k => gmul (l1 k ^^^ e k) (u (i + k))) = gsum v (fun k => gmul (l1 k) (u (i + k)) ^^^ gmul (e k) (u (i + k))) from gsum_congr fun j _ => add_gmul _ _ _,gsum_add,h1 i hi]
  have : gsum v (fun k => gmul (e k) (u (i + k))) = 0 := by
   rw [gsum_ext (n := L + 1) (by omega) fun j h1 h2 => by
    show gmul (if j < L then l j else if j = L then 1 else 0) _ = 0
    rw [if_neg (by omega),if_neg (by omega),zero_gmul]]
   show gsum L (fun k => gmul (e k) (u (i + k))) ^^^ gmul (if L < L then l L else if L = L then 1 else 0) (u (i + L)) = 0
   rw [if_neg (by omega),if_pos rfl,one_gmul,← h i (by omega),xor_eq_zero]
   refine gsum_congr fun k hk => ?_
   show gmul (if k < L then l k else _) _ = _
   rw [if_pos hk]
  rw [this,x0]
 ·have : l1 L ^^^ l1 L = l1 L ^^^ (l1 L ^^^ e L) := congrArg (l1 L ^^^ ·) h
  rw [← BitVec.xor_assoc,xx,zx] at this
  have e1 : e L = 1 := by
   show (if L < L then l L else if L = L then 1 else 0) = (1 : F8)
   rw [if_neg (by omega),if_pos rfl]
  rw [e1] at this
  exact absurd this (by decide)
end
def pev (c : List F8) (x : F8) : F8 := c.foldr (fun c v => gmul v x ^^^ c) 0
def quo (a : F8) : List F8 → List F8
 | [] => []
 | [_] => []
 | _ :: c :: r => pev (c :: r) a :: quo a (c :: r)
theorem xor_swap (a b c : F8) : (a ^^^ c) ^^^ (b ^^^ c) = a ^^^ b := by rw [xor_mid,xx,x0]
theorem quo_spec (a x : F8) : ∀ c,pev c x ^^^ pev c a = gmul (x ^^^ a) (pev (quo a c) x)
 | [] => by
  show (0 : F8) ^^^ 0 = gmul (x ^^^ a) 0
  rw [gmul_zero,xx]
 | [c] => by
  show (gmul 0 x ^^^ c) ^^^ (gmul 0 a ^^^ c) = gmul (x ^^^ a) 0
  rw [xor_swap,zero_gmul,zero_gmul,gmul_zero,xx]
 | c0 :: c1 :: r => by
  have ih := quo_spec a x (c1 :: r)
  show (gmul (pev (c1 :: r) x) x ^^^ c0) ^^^ (gmul (pev (c1 :: r) a) a ^^^ c0) = gmul (x ^^^ a) (gmul (pev (quo a (c1 :: r)) x) x ^^^ pev (c1 :: r) a)
  rw [xor_swap,gmul_add,← gmul_assoc,← ih,add_gmul,add_gmul,gmul_comm x (pev _ a),gmul_comm a (pev _ a),BitVec.xor_assoc,← BitVec.xor_assoc (gmul (pev (c1 :: r) a) x),xx,zx]
theorem quo_len (a : F8) : ∀ c,(quo a c).length = c.length - 1
 | [] => rfl
 | [_] => rfl
 | _ :: c :: r => by
  show (quo a (c :: r)).length + 1 = _
  rw [quo_len a (c :: r)]
  simp
theorem quo_last (a : F8) : ∀ (c : List F8) (c0 c1 : F8),(quo a (c0 :: c1 :: c)).getLast? = (c1 :: c).getLast?
 | [],c0,c1 => by
  show some (gmul 0 a ^^^ c1) = some c1
  rw [zero_gmul,zx]
 | c2 :: r,c0,c1 => by
  have ih := quo_last a r c1 c2
  show (pev (c1 :: c2 :: r) a :: quo a (c1 :: c2 :: r)).getLast? = _
  have hne : quo a (c1 :: c2 :: r) ≠ [] := fun e => by cases e
  rw [List.getLast?_cons_cons,← ih]
  cases hq : quo a (c1 :: c2 :: r) with
  | nil => exact absurd hq hne
  | cons y ys => rfl
theorem roots_le : ∀ (L : Nat) (c xs : List F8),c.length = L + 1 → c.getLast? = some 1 → xs.Nodup → (∀ x ∈ xs,pev c x = 0) → xs.length ≤ L
 | _,_,[],_,_,_,_ => Nat.zero_le _
 | 0,c,a :: xs,hl,h1,_,hr => by
  match c,hl with
  | [c0],_ =>
   have h1 : some c0 = some (1 : F8) := h1
   have := hr a (by simp)
   have : gmul 0 a ^^^ c0 = 0 := this
   rw [zero_gmul,zx,Option.some.inj h1] at this
   exact absurd this (by decide)
 | L + 1,c,a :: xs,hl,h1,hn,hr => by
  match c,hl with
  | c0 :: c1 :: r,hl =>
   rw [List.nodup_cons] at hn
   have h2 := roots_le L (quo a (c0 :: c1 :: r)) xs (by rw [quo_len,hl]; omega) (by rw [quo_last]; exact h1) hn.2 fun x hx => by
    have h3 := quo_spec a x (c0 :: c1 :: r)
    rw [hr x (by simp [hx]),hr a (by simp),xx] at h3
    refine (gmul_eq_zero h3.symm).resolve_left fun e => ?_
    rw [xor_eq_zero.1 e] at hx
    exact hn.1 hx
   simp only [List.length_cons]
   omega
theorem pev_gsum (x : F8) : ∀ c : List F8,pev c x = gsum c.length fun k => gmul (c.getD k 0) (gpow x k)
 | [] => rfl
 | c :: r => by
  have ih := pev_gsum x r
  show gmul (pev r x) x ^^^ c = gsum (r.length + 1) _
  rw [gsum_front,ih,gmul_comm,← gsum_mul,BitVec.xor_comm]
  congr 1
  ·exact (gmul_one c).symm
  ·refine gsum_congr fun k _ => ?_
   show gmul x (gmul (r.getD k 0) (gpow x k)) = gmul (r.getD k 0) (gmul (gpow x k) x)
   rw [gmul_comm,gmul_assoc]
section
variable {β : Type}
def lsum (l : List β) (f : β → F8) : F8 := l.foldr (fun x a => f x ^^^ a) 0
theorem lsum_congr {f g : β → F8} : ∀ {l : List β},(∀ x ∈ l,f x = g x) → lsum l f = lsum l g
 | [],_ => rfl
 | x :: l,h => by
  show f x ^^^ lsum l f = g x ^^^ lsum l g
  rw [h x (by simp),lsum_congr fun y hy => h y (by simp [hy])]
theorem lsum_add (f g : β → F8) : ∀ l : List β,lsum l (fun x => f x ^^^ g x) = lsum l f ^^^ lsum l g
 | [] => (x0 _).symm
 | x :: l => by
  show (f x ^^^ g x) ^^^ lsum l (fun x => f x ^^^ g x) = (f x ^^^ lsum l f) ^^^ (g x ^^^ lsum l g)
  rw [lsum_add f g l,xor_mid]
theorem lsum_mul (c : F8) (f : β → F8) : ∀ l : List β,lsum l (fun x => gmul c (f x)) = gmul c (lsum l f)
 | [] => (gmul_zero c).symm
 | x :: l => by
  show gmul c (f x) ^^^ lsum l (fun x => gmul c (f x)) = gmul c (f x ^^^ lsum l f)
  rw [lsum_mul c f l,gmul_add]
theorem lsum_perm {f : β → F8} {l m : List β} (h : l.Perm m) : lsum l f = lsum m f := by
 induction h with
 | nil => rfl
 | cons x _ ih => exact congrArg (f x ^^^ ·) ih
 | swap x y l =>
  show f y ^^^ (f x ^^^ lsum l f) = f x ^^^ (f y ^^^ lsum l f)
  rw [← BitVec.xor_assoc,BitVec.xor_comm (f y),BitVec.xor_assoc]
 | trans _ _ h1 h2 => exact h1.trans h2
theorem lsum_zero {f : β → F8} : ∀ {l : List β},(∀ x ∈ l,f x = 0) → lsum l f = 0
 | [],_ => rfl
 | x :: l,h => by
  show f x ^^^ lsum l f = 0
  rw [h x (by simp),zx,lsum_zero fun y hy => h y (by simp [hy])]
theorem lsum_gsum (f : β → F8) (d : β) : ∀ l : List β,lsum l f = gsum l.length fun i => f (l.getD i d)
 | [] => rfl
 | x :: l => by
  show f x ^^^ lsum l f = gsum (l.length + 1) _
  rw [gsum_front,lsum_gsum f d l]
  rfl
end
theorem vand : ∀ (xs : List F8) (y : F8 → F8),xs.Nodup → (∀ k,k < xs.length → lsum xs (fun x => gmul (y x) (gpow x k)) = 0) → ∀ x ∈ xs,y x = 0
 | [],_,_,_,x,hx => by cases hx
 | a :: xs,y,hn,h,x,hx => by
  rw [List.nodup_cons] at hn
  have h1 := vand xs (fun x => gmul (x ^^^ a) (y x)) hn.2 fun k hk => by
   have e : lsum (a :: xs) (fun x => gmul (gmul (x ^^^ a) (y x)) (gpow x k)) = 0 := by
    rw [lsum_congr (g := fun x => gmul (y x) (gpow x (k + 1)) ^^^ gmul a (gmul (y x) (gpow x k))) fun x _ => by
     rw [gmul_assoc,add_gmul,gmul_comm x,gmul_assoc]
     rfl]
    rw [lsum_add,lsum_mul,h (k + 1) (by simp; omega),h k (by simp; omega),gmul_zero,x0]
   have e2 : gmul (gmul (a ^^^ a) (y a)) (gpow a k) ^^^ lsum xs (fun x => gmul (gmul (x ^^^ a) (y x)) (gpow x k)) = 0 := e
   rwa [xx,zero_gmul,zero_gmul,zx] at e2
  have h2 : ∀ z ∈ xs,y z = 0 := fun z hz => (gmul_eq_zero (h1 z hz)).resolve_left fun e => by
   rw [xor_eq_zero.1 e] at hz
   exact hn.1 hz
  rcases List.mem_cons.1 hx with rfl | hx
  ·have h3 := h 0 (by simp)
   have h3 : gmul (y x) 1 ^^^ lsum xs (fun x => gmul (y x) (gpow x 0)) = 0 := h3
   rwa [lsum_zero fun z hz => by rw [h2 z hz,zero_gmul],x0,gmul_one] at h3
  ·exact h2 x hx
def mt (rows : List (List F8)) (i j : Nat) : F8 := (rows.getD i []).getD j 0
def RS (M : Nat → Nat → F8) (R w : Nat) (y : Nat → F8) : Prop := ∀ i,i < R → gsum w (fun k => gmul (M i k) (y k)) = M i w
def swM (M : Nat → Nat → F8) (a b : Nat) (i : Nat) : Nat → F8 := if i = a then M b else if i = b then M a else M i
def scM (M : Nat → Nat → F8) (c : Nat) (f : F8) (i j : Nat) : F8 := if i = c then gmul (M c j) f else M i j
def elM (M : Nat → Nat → F8) (c : Nat) (i j : Nat) : F8 := if i = c then M c j else M i j ^^^ gmul (M i c) (M c j)
def stM (M : Nat → Nat → F8) (c p : Nat) : Nat → Nat → F8 := elM (scM (swM M c p) c (ginv (M p c))) c
theorem RS_sw {M : Nat → Nat → F8} {R w a b : Nat} {y : Nat → F8} (ha : a < R) (hb : b < R) : RS (swM M a b) R w y ↔ RS M R w y := by
 have h1 : ∀ {M : Nat → Nat → F8},RS M R w y → RS (swM M a b) R w y := fun {M} h i hi => by
  unfold swM
  split
  ·exact h b hb
  ·split
   ·exact h a ha
   ·exact h i hi
 refine ⟨fun h => ?_,h1⟩
 have := h1 h
 have e : swM (swM M a b) a b = M := by
  funext i
  unfold swM
  by_cases h1 : i = a
  ·subst h1
   rw [if_pos rfl]
   by_cases h2 : b = i
   ·rw [if_pos h2,h2]
   ·rw [if_neg h2,if_pos rfl]
  ·rw [if_neg h1]
   by_cases h2 : i = b
   ·subst h2
    rw [if_pos rfl,if_pos rfl]
   ·rw [if_neg h2,if_neg h1,if_neg h2]
 rwa [e] at this
theorem RS_sc {M : Nat → Nat → F8} {R w c : Nat} {f : F8} {y : Nat → F8} (hf : f ≠ 0) : RS (scM M c f) R w y ↔ RS M R w y := by
 have e : ∀ i,gsum w (fun k => gmul (scM M c f i k) (y k)) = if i = c then gmul f (gsum w fun k => gmul (M c k) (y k)) else gsum w (fun k => gmul (M i k) (y k)) := fun i => by
  unfold scM
  split
  ·rw [← gsum_mul]
   exact gsum_congr fun k _ => by rw [gmul_comm (M c k) f,gmul_assoc]
  ·rfl
 constructor
 ·intro h i hi
  have := h i hi
  rw [e] at this
  unfold scM at this
  by_cases hc : i = c
  ·subst hc
   rw [if_pos rfl,if_pos rfl,gmul_comm (M i w)] at this
   have h2 := congrArg (gmul (ginv f)) this
   rwa [← gmul_assoc,← gmul_assoc,ginv_gmul hf,one_gmul,one_gmul] at h2
  ·rwa [if_neg hc,if_neg hc] at this
 ·intro h i hi
  rw [e]
  unfold scM
  split
  ·rename_i hc
   subst hc
   rw [h i hi,gmul_comm]
  ·exact h i hi
theorem RS_el {M : Nat → Nat → F8} {R w c : Nat} {y : Nat → F8} (hc : c < R) : RS (elM M c) R w y ↔ RS M R w y := by
 have e : ∀ i,gsum w (fun k => gmul (elM M c i k) (y k)) = if i = c then gsum w fun k => gmul (M c k) (y k) else gsum w (fun k => gmul (M i k) (y k)) ^^^ gmul (M i c) (gsum w fun k => gmul (M c k) (y k)) := fun i => by
  unfold elM
  split
  ·rfl
  ·rw [← gsum_mul,← gsum_add]
   exact gsum_congr fun k _ => by rw [add_gmul,gmul_assoc]
 constructor
 ·intro h
  have hcc := h c hc
  rw [e,if_pos rfl] at hcc
  unfold elM at hcc
  rw [if_pos rfl] at hcc
  intro i hi
  have := h i hi
  rw [e] at this
  unfold elM at this
  by_cases hic : i = c
  ·rw [hic]; exact hcc
  ·rw [if_neg hic,if_neg hic,hcc] at this
   have h2 := congrArg (· ^^^ gmul (M i c) (M c w)) this
   simp only [BitVec.xor_assoc] at h2
   rwa [xx,x0,x0] at h2
 ·intro h i hi
  rw [e]
  unfold elM
  split
  ·exact h c hc
  ·rw [h i hi,h c hc]
theorem RS_st {M : Nat → Nat → F8} {R w c p : Nat} {y : Nat → F8} (hc : c < R) (hp : p < R) (h0 : M p c ≠ 0) : RS (stM M c p) R w y ↔ RS M R w y := by
 unfold stM
 rw [RS_el hc,RS_sc (ginv_ne h0),RS_sw hc hp]
def Ech (M : Nat → Nat → F8) (R c : Nat) : Prop := c ≤ R ∧ ∀ j,j < c → ∀ i,i < R → M i j = if i = j then 1 else 0
theorem Ech_st {M : Nat → Nat → F8} {R c p : Nat} (h : Ech M R c) (hc : c ≤ p) (hp : p < R) (h0 : M p c ≠ 0) : Ech (stM M c p) R (c + 1) := by
 refine ⟨by omega,fun j hj i hi => ?_⟩
 have hcp : ∀ j,j < c → M p j = 0 := fun j hj => by rw [h.2 j hj p hp,if_neg (by omega)]
 have hcc : ∀ j,j < c → M c j = 0 := fun j hj => by rw [h.2 j hj c (by omega),if_neg (by omega)]
 have e1 : scM (swM M c p) c (ginv (M p c)) c j = gmul (M p j) (ginv (M p c)) := by
  unfold scM swM
  rw [if_pos rfl,if_pos rfl]
 unfold stM elM
 by_cases hic : i = c
 ·subst hic
  rw [if_pos rfl,e1]
  by_cases hj2 : i = j
  ·subst hj2
   rw [if_pos rfl,gmul_ginv h0]
  ·rw [if_neg hj2,hcp j (by omega),zero_gmul]
 ·rw [if_neg hic,e1]
  have e2 : ∀ j,scM (swM M c p) c (ginv (M p c)) i j = if i = p then M c j else M i j := fun j => by
   unfold scM swM
   rw [if_neg hic,if_neg hic]
   split <;> rfl
  rw [e2,e2]
  by_cases hj2 : j = c
  ·subst hj2
   rw [if_neg hic,gmul_ginv h0,gmul_one,xx]
  ·rw [hcp j (by omega),zero_gmul,gmul_zero,x0]
   split
   ·rename_i hip
    rw [hcc j (by omega),if_neg (by omega)]
   ·exact h.2 j (by omega) i hi
theorem Ech_fail {M : Nat → Nat → F8} {R w c : Nat} (h : Ech M R c) (hcw : c < w) (h0 : ∀ i,c ≤ i → i < R → M i c = 0) {y : Nat → F8} (hy : RS M R w y) : ∃ y',RS M R w y' ∧ ∃ k,k < w ∧ y' k ≠ y k := by
 refine ⟨fun k => y k ^^^ (if k < c then M k c else if k = c then 1 else 0),fun i hi => ?_,c,hcw,fun e => ?_⟩
 ·rw [show gsum w (fun k => gmul (M i k) (y k ^^^ (if k < c then M k c else if k = c then 1 else 0))) = gsum w (fun k => gmul (M i k) (y k) ^^^ gmul (M i k) (if k < c then M k c else if k = c then 1 else 0)) from gsum_congr fun _ _ => gmul_add _ _ _,gsum_add,hy i hi]
  rw [gsum_ext (n := c + 1) (f := fun k => gmul (M i k) (if k < c then M k c else if k = c then 1 else 0)) (by omega) fun k h1 h2 => by rw [if_neg (by omega),if_neg (by omega),gmul_zero]]
  rw [gsum,if_neg (by omega),if_pos rfl,gmul_one]
  have : gsum c (fun k => gmul (M i k) (if k < c then M k c else if k = c then 1 else 0)) = M i c := by
   by_cases hic : i < c
   ·rw [gsum_one hic fun k hk hne => by rw [h.2 k hk i hi,if_neg (fun e => hne e.symm),zero_gmul],h.2 i hic i hi,if_pos rfl,if_pos hic,one_gmul]
   ·rw [h0 i (by omega) hi]
    exact gsum_zero fun k hk => by rw [h.2 k hk i hi,if_neg (by omega),zero_gmul]
  rw [this,xx,x0]
 ·have e : y c ^^^ (if c < c then M c c else if c = c then 1 else 0) = y c := e
  rw [if_neg (by omega),if_pos rfl] at e
  have h2 := congrArg (y c ^^^ ·) e
  rw [show y c ^^^ (y c ^^^ 1) = 1 by rw [← BitVec.xor_assoc,xx,zx],show y c ^^^ y c = 0 from xx _] at h2
  exact absurd h2 (by decide)
theorem Ech_end {M : Nat → Nat → F8} {R w : Nat} (h : Ech M R w) (y : Nat → F8) : RS M R w y ↔ (∀ k,k < w → y k = M k w) ∧ ∀ i,w ≤ i → i < R → M i w = 0 := by
 have e1 : ∀ i,i < w → gsum w (fun k => gmul (M i k) (y k)) = y i := fun i hi => by
  rw [gsum_one hi fun k hk hne => by rw [h.2 k hk i (by have := h.1; omega),if_neg (fun e => hne e.symm),zero_gmul],h.2 i hi i (by have := h.1; omega),if_pos rfl,one_gmul]
 have e2 : ∀ i,w ≤ i → i < R → gsum w (fun k => gmul (M i k) (y k)) = 0 := fun i h1 h2 => gsum_zero fun k hk => by rw [h.2 k hk i h2,if_neg (by omega),zero_gmul]
 constructor
 ·intro hs
  refine ⟨fun k hk => ?_,fun i h1 h2 => ?_⟩
  ·rw [← hs k (by have := h.1; omega),e1 k hk]
  ·rw [← hs i h2,e2 i h1 h2]
 ·rintro ⟨h1,h2⟩ i hi
  by_cases hw : i < w
  ·rw [e1 i hw,h1 i hw]
  ·rw [e2 i (by omega) hi,h2 i (by omega) hi]
def scl (r : List F8) (f : F8) : List F8 := run (fun i r => r.set i (gmul (r.getD i 0) f)) 0 r.length r
theorem scl_len (r : List F8) (f : F8) : (scl r f).length = r.length :=
 run_inv (fun _ a => List.length a = r.length) _ _ _ rfl fun j a _ _ h => by rw [List.length_set,h]
theorem scl_run (f : F8) : ∀ (n i : Nat) (r : List F8) (j : Nat),i + n = r.length → (run (fun i r => r.set i (gmul (r.getD i 0) f)) i n r).getD j 0 = if i ≤ j then gmul (r.getD j 0) f else r.getD j 0
 | 0,i,r,j,h => by
  by_cases hj : i ≤ j
  ·rw [if_pos hj,run,getD_ge r j 0 (by omega),zero_gmul]
  ·rw [if_neg hj]
   rfl
 | n + 1,i,r,j,h => by
  rw [run,scl_run f n (i + 1) _ j (by rw [List.length_set]; omega),getD_set]
  by_cases h1 : i = j
  ·subst h1
   rw [if_neg (by omega),if_pos ⟨rfl,by omega⟩,if_pos (Nat.le_refl _)]
  ·rw [if_neg (c := i = j ∧ i < r.length) (by omega)]
   by_cases h2 : i + 1 ≤ j
   ·rw [if_pos h2,if_pos (by omega)]
   ·rw [if_neg h2,if_neg (by omega)]
theorem scl_getD (r : List F8) (f : F8) (j : Nat) : (scl r f).getD j 0 = gmul (r.getD j 0) f := by
 unfold scl
 rw [scl_run f r.length 0 r j (by omega),if_pos (Nat.zero_le _)]
def lsw (rows : List (List F8)) (a b : Nat) : List (List F8) := (rows.set a (rows.getD b [])).set b (rows.getD a [])
theorem lsw_len (rows : List (List F8)) (a b : Nat) : (lsw rows a b).length = rows.length := by simp [lsw]
theorem lsw_getD (rows : List (List F8)) (a b i : Nat) (ha : a < rows.length) (hb : b < rows.length) : (lsw rows a b).getD i [] = if i = a then rows.getD b [] else if i = b then rows.getD a [] else rows.getD i [] := by
 unfold lsw
 rw [getD_set,getD_set,List.length_set]
 by_cases h1 : b = i
 ·subst h1
  rw [if_pos ⟨rfl,hb⟩]
  by_cases h2 : b = a
  ·rw [if_pos h2,h2]
  ·rw [if_neg h2,if_pos rfl]
 ·rw [if_neg (by omega)]
  by_cases h2 : a = i
  ·rw [if_pos ⟨h2,ha⟩,if_pos h2.symm]
  ·rw [if_neg (by omega),if_neg (by omega),if_neg (by omega)]
def lel1 (c k : Nat) (rows : List (List F8)) : List (List F8) := if k = c then rows else rows.set k (paddAt (rows.getD k []) (rows.getD c []) (mt rows k c) 0)
def lel (rows : List (List F8)) (c : Nat) : List (List F8) := run (lel1 c) 0 rows.length rows
theorem lel1_len (c k : Nat) (rows : List (List F8)) : (lel1 c k rows).length = rows.length := by
 unfold lel1
 split
 ·rfl
 ·rw [List.length_set]
theorem lel_len (rows : List (List F8)) (c : Nat) : (lel rows c).length = rows.length :=
 run_inv (fun _ a => List.length a = rows.length) _ _ _ rfl fun j a _ _ h => by rw [lel1_len,h]
def Wd (rows : List (List F8)) (m : Nat) : Prop := ∀ i,i < rows.length → (rows.getD i []).length = m
theorem Wd.set {rows : List (List F8)} {m : Nat} (h : Wd rows m) (k : Nat) {r : List F8} (hr : r.length = m) : Wd (rows.set k r) m := fun i hi => by
 rw [List.length_set] at hi
 rw [getD_set]
 split
 ·exact hr
 ·exact h i hi
theorem lel1_wd {rows : List (List F8)} {m c k : Nat} (h : Wd rows m) (hk : k < rows.length) : Wd (lel1 c k rows) m := by
 unfold lel1
 split
 ·exact h
 ·exact h.set k (by rw [paddAt_len]; exact h k hk)
theorem lel1_getD {rows : List (List F8)} {c k i : Nat} : (lel1 c k rows).getD i [] = if i = k ∧ k ≠ c ∧ k < rows.length then paddAt (rows.getD k []) (rows.getD c []) (mt rows k c) 0 else rows.getD i [] := by
 unfold lel1
 by_cases h : k = c
 ·rw [if_pos h,if_neg (by omega)]
 ·rw [if_neg h,getD_set]
  by_cases h2 : k = i ∧ k < rows.length
  ·rw [if_pos h2,if_pos ⟨h2.1.symm,h,h2.2⟩]
  ·rw [if_neg h2,if_neg (by omega)]
theorem lel_run (c : Nat) : ∀ (n k : Nat) (rows : List (List F8)) (i : Nat),k + n ≤ rows.length → (run (lel1 c) k n rows).getD i [] = if k ≤ i ∧ i < k + n ∧ i ≠ c then paddAt (rows.getD i []) (rows.getD c []) (mt rows i c) 0 else rows.getD i []
 | 0,k,rows,i,_ => by rw [if_neg (by omega)]; rfl
 | n + 1,k,rows,i,h => by
  rw [run,lel_run c n (k + 1) _ i (by rw [lel1_len]; omega)]
  have ec : (lel1 c k rows).getD c [] = rows.getD c [] := by rw [lel1_getD,if_neg (by omega)]
  by_cases h1 : i = k
  ·subst h1
   rw [if_neg (by omega),lel1_getD]
   by_cases h2 : i = c
   ·rw [if_neg (by omega),if_neg (by omega)]
   ·rw [if_pos ⟨rfl,h2,by omega⟩,if_pos ⟨Nat.le_refl _,by omega,h2⟩]
  ·have ei : (lel1 c k rows).getD i [] = rows.getD i [] := by rw [lel1_getD,if_neg (by omega)]
   rw [ec]
   unfold mt
   rw [ei]
   by_cases h2 : k + 1 ≤ i ∧ i < k + 1 + n ∧ i ≠ c
   ·rw [if_pos h2,if_pos (by omega)]
   ·rw [if_neg h2,if_neg (by omega)]
theorem lel_getD {rows : List (List F8)} {c i : Nat} (hi : i < rows.length) : (lel rows c).getD i [] = if i = c then rows.getD i [] else paddAt (rows.getD i []) (rows.getD c []) (mt rows i c) 0 := by
 unfold lel
 rw [lel_run c rows.length 0 rows i (by omega)]
 by_cases h : i = c
 ·rw [if_neg (by omega),if_pos h]
 ·rw [if_pos (by omega),if_neg h]
theorem lel_wd {rows : List (List F8)} {m c : Nat} (h : Wd rows m) : Wd (lel rows c) m := fun i hi => by
 rw [lel_len] at hi
 rw [lel_getD hi]
 split
 ·exact h i hi
 ·rw [paddAt_len]; exact h i hi
theorem lel_mt {rows : List (List F8)} {m c i j : Nat} (h : Wd rows m) (hi : i < rows.length) (hc : c < rows.length) : mt (lel rows c) i j = elM (mt rows) c i j := by
 unfold elM
 show ((lel rows c).getD i []).getD j 0 = _
 rw [lel_getD hi]
 by_cases hic : i = c
 ·rw [if_pos hic,if_pos hic,hic]
  rfl
 ·rw [if_neg hic,if_neg hic,paddAt_getD _ _ _ _ _ (by rw [h c hc,h i hi]; omega)]
  show mt rows i j ^^^ _ = _
  congr 1
  by_cases hj : j < m
  ·rw [if_pos (by rw [h c hc]; omega)]
   rfl
  ·rw [if_neg (by rw [h c hc]; omega)]
   unfold mt
   rw [getD_ge (rows.getD c []) j 0 (by rw [h c hc]; omega),gmul_zero]
def gst1 (rows : List (List F8)) (c p : Nat) : List (List F8) := (lsw rows c p).set c (scl (rows.getD p []) (ginv (mt rows p c)))
def gst (rows : List (List F8)) (c p : Nat) : List (List F8) := lel (gst1 rows c p) c
theorem gst1_len (rows : List (List F8)) (c p : Nat) : (gst1 rows c p).length = rows.length := by
 unfold gst1
 rw [List.length_set,lsw_len]
theorem gst_len (rows : List (List F8)) (c p : Nat) : (gst rows c p).length = rows.length := by
 unfold gst
 rw [lel_len,gst1_len]
theorem lsw_wd {rows : List (List F8)} {m a b : Nat} (h : Wd rows m) (ha : a < rows.length) (hb : b < rows.length) : Wd (lsw rows a b) m := (h.set a (h b hb)).set b (h a ha)
theorem gst1_wd {rows : List (List F8)} {m c p : Nat} (h : Wd rows m) (hc : c < rows.length) (hp : p < rows.length) : Wd (gst1 rows c p) m := (lsw_wd h hc hp).set c (by rw [scl_len]; exact h p hp)
theorem gst_wd {rows : List (List F8)} {m c p : Nat} (h : Wd rows m) (hc : c < rows.length) (hp : p < rows.length) : Wd (gst rows c p) m := lel_wd (gst1_wd h hc hp)
theorem gst1_mt {rows : List (List F8)} {c p i j : Nat} (hc : c < rows.length) (hp : p < rows.length) : mt (gst1 rows c p) i j = scM (swM (mt rows) c p) c (ginv (mt rows p c)) i j := by
 unfold gst1 scM swM
 show (((lsw rows c p).set c _).getD i []).getD j 0 = _
 rw [getD_set]
 by_cases h : c = i
 ·rw [if_pos ⟨h,by rw [lsw_len]; exact hc⟩,if_pos h.symm,if_pos rfl,scl_getD]
  rfl
 ·rw [if_neg (c := c = i ∧ c < (lsw rows c p).length) (by omega),if_neg (c := i = c) (by omega),if_neg (c := i = c) (by omega),lsw_getD _ _ _ _ hc hp,if_neg (c := i = c) (by omega)]
  by_cases h2 : i = p
  ·rw [if_pos h2,if_pos h2]
   rfl
  ·rw [if_neg h2,if_neg h2]
   rfl
theorem gst_mt {rows : List (List F8)} {m c p i j : Nat} (h : Wd rows m) (hc : c < rows.length) (hp : p < rows.length) (hi : i < rows.length) : mt (gst rows c p) i j = stM (mt rows) c p i j := by
 unfold gst stM
 rw [lel_mt (gst1_wd h hc hp) (by rw [gst1_len]; exact hi) (by rw [gst1_len]; exact hc)]
 unfold elM
 simp only [gst1_mt hc hp]
def piv (rows : List (List F8)) (c : Nat) : Nat → Nat → Option Nat
 | _,0 => none
 | i,n + 1 => if mt rows i c ≠ 0 then some i else piv rows c (i + 1) n
theorem piv_some {rows : List (List F8)} {c : Nat} : ∀ {n i p : Nat},piv rows c i n = some p → i ≤ p ∧ p < i + n ∧ mt rows p c ≠ 0
 | 0,_,_,h => by cases h
 | n + 1,i,p,h => by
  rw [piv] at h
  split at h
  ·rename_i h1
   cases h
   exact ⟨Nat.le_refl _,by omega,h1⟩
  ·have := piv_some h
   exact ⟨by omega,by omega,this.2.2⟩
theorem piv_none {rows : List (List F8)} {c : Nat} : ∀ {n i : Nat},piv rows c i n = none → ∀ j,i ≤ j → j < i + n → mt rows j c = 0
 | 0,_,_,_,_,_ => by omega
 | n + 1,i,h,j,h1,h2 => by
  rw [piv] at h
  split at h
  ·cases h
  ·rename_i h3
   by_cases e : i = j
   ·subst e
    exact Classical.not_not.1 h3
   ·exact piv_none h j (by omega) (by omega)
def gcols : Nat → Nat → List (List F8) → Option (List (List F8))
 | 0,_,rows => some rows
 | n + 1,c,rows => match piv rows c c (rows.length - c) with
  | none => none
  | some p => gcols n (c + 1) (gst rows c p)
def gzero (rows : List (List F8)) (w : Nat) : Nat → Nat → Bool
 | _,0 => true
 | i,n + 1 => if mt rows i w = 0 then gzero rows w (i + 1) n else false
theorem gzero_iff {rows : List (List F8)} {w : Nat} : ∀ {n i : Nat},gzero rows w i n = true ↔ ∀ j,i ≤ j → j < i + n → mt rows j w = 0
 | 0,i => ⟨fun _ j h1 h2 => by omega,fun _ => rfl⟩
 | n + 1,i => by
  rw [gzero]
  split
  ·rename_i h
   rw [gzero_iff]
   constructor
   ·intro h1 j h2 h3
    by_cases e : i = j
    ·rw [← e,h]
    ·exact h1 j (by omega) (by omega)
   ·intro h1 j h2 h3
    exact h1 j (by omega) (by omega)
  ·rename_i h
   constructor
   ·intro h1
    cases h1
   ·intro h1
    exact absurd (h1 i (Nat.le_refl _) (by omega)) h
def gfin (rows : List (List F8)) (w : Nat) : Option (List F8) := if gzero rows w w (rows.length - w) then some ((List.range w).map fun k => mt rows k w) else none
def gauss (rows : List (List F8)) (w : Nat) : Option (List F8) := (gcols w 0 rows).bind fun rows => gfin rows w
theorem RS_congr {M M' : Nat → Nat → F8} {R w : Nat} {y : Nat → F8} (h : ∀ i j,i < R → M i j = M' i j) : RS M R w y ↔ RS M' R w y := by
 unfold RS
 constructor
 ·intro hs i hi
  rw [← h i w hi,← hs i hi]
  exact gsum_congr fun k _ => by rw [h i k hi]
 ·intro hs i hi
  rw [h i w hi,← hs i hi]
  exact gsum_congr fun k _ => by rw [h i k hi]
theorem Ech_congr {M M' : Nat → Nat → F8} {R c : Nat} (h : ∀ i j,i < R → M i j = M' i j) (he : Ech M R c) : Ech M' R c := ⟨he.1,fun j hj i hi => by rw [← h i j hi]; exact he.2 j hj i hi⟩
theorem gcols_spec {m w : Nat} : ∀ (n c : Nat) (rows : List (List F8)),c + n = w → w ≤ rows.length → Wd rows m → Ech (mt rows) rows.length c →
  match gcols n c rows with
  | some r => r.length = rows.length ∧ Ech (mt r) rows.length w ∧ (∀ y,RS (mt r) rows.length w y ↔ RS (mt rows) rows.length w y)
  | none => ∀ y,RS (mt rows) rows.length w y → ∃ y',RS (mt rows) rows.length w y' ∧ ∃ k,k < w ∧ y' k ≠ y k
 | 0,c,rows,hc,_,_,he => by
  obtain rfl : c = w := by omega
  exact ⟨rfl,he,fun y => Iff.rfl⟩
 | n + 1,c,rows,hc,hw,hd,he => by
  rw [gcols]
  cases hp : piv rows c c (rows.length - c) with
  | none =>
   intro y hy
   exact Ech_fail (R := rows.length) (w := w) he (by omega) (fun i h1 h2 => piv_none hp i h1 (by omega)) hy
  | some p =>
   obtain ⟨h1,h2,h3⟩ := piv_some hp
   have hpl : p < rows.length := by omega
   have hcl : c < rows.length := by omega
   have hm : ∀ i j,i < rows.length → stM (mt rows) c p i j = mt (gst rows c p) i j := fun i j hi => (gst_mt hd hcl hpl hi).symm
   have ih := gcols_spec (m := m) (w := w) n (c + 1) (gst rows c p) (by omega) (by rw [gst_len]; exact hw) (gst_wd hd hcl hpl) (by rw [gst_len]; exact Ech_congr hm (Ech_st he h1 hpl h3))
   rw [gst_len] at ih
   have hrs : ∀ y,RS (mt (gst rows c p)) rows.length w y ↔ RS (mt rows) rows.length w y := fun y => (RS_congr hm).symm.trans (RS_st hcl hpl h3)
   show match gcols n (c + 1) (gst rows c p) with | some r => _ | none => _
   cases hg : gcols n (c + 1) (gst rows c p) with
   | none =>
    rw [hg] at ih
    intro y hy
    obtain ⟨y',h4,h5⟩ := ih y ((hrs y).2 hy)
    exact ⟨y',(hrs y').1 h4,h5⟩
   | some r =>
    rw [hg] at ih
    exact ⟨ih.1,ih.2.1,fun y => (ih.2.2 y).trans (hrs y)⟩
theorem gauss_spec {m w : Nat} {rows : List (List F8)} (hw : w ≤ rows.length) (hd : Wd rows m) :
  match gauss rows w with
  | some out => out.length = w ∧ ∀ y,RS (mt rows) rows.length w y ↔ ∀ k,k < w → y k = out.getD k 0
  | none => ∀ y,RS (mt rows) rows.length w y → ∃ y',RS (mt rows) rows.length w y' ∧ ∃ k,k < w ∧ y' k ≠ y k := by
 have h := gcols_spec (w := w) w 0 rows (by omega) hw hd ⟨by omega,fun j hj => by omega⟩
 unfold gauss
 cases hg : gcols w 0 rows with
 | none =>
  rw [hg] at h
  exact h
 | some r =>
  rw [hg] at h
  obtain ⟨h1,h2,h3⟩ := h
  show match gfin r w with | some out => _ | none => _
  unfold gfin
  by_cases hz : gzero r w w (r.length - w) = true
  ·rw [if_pos hz]
   rw [gzero_iff,h1] at hz
   refine ⟨by simp,fun y => ?_⟩
   rw [← h3 y,Ech_end h2]
   have e : ∀ k,k < w → ((List.range w).map fun k => mt r k w).getD k 0 = mt r k w := fun k hk => by
    rw [List.getD_eq_getElem?_getD,List.getElem?_map,List.getElem?_range hk]
    rfl
   constructor
   ·rintro ⟨h4,_⟩ k hk
    rw [h4 k hk,e k hk]
   ·intro h4
    exact ⟨fun k hk => by rw [h4 k hk,e k hk],fun i hi1 hi2 => hz i hi1 (by omega)⟩
  ·rw [if_neg hz]
   intro y hy
   rw [← h3 y,Ech_end h2] at hy
   rw [gzero_iff,h1] at hz
   exact absurd (fun j h4 h5 => hy.2 j h4 (by omega)) hz
end Go.Proofs.YtkeiedikiiccpaaGreatDoor.Am
