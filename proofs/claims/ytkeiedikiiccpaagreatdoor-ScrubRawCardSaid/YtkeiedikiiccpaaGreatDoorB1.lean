/- Bytes as the field of 256 elements; slices.Backward as an iterator. -/
import Derived.Test.YtkeiedikiiccpaaGreatDoorA1
set_option linter.all false
namespace Go.Proofs.YtkeiedikiiccpaaGreatDoor.Am
open Go
theorem lp_rule {V α : Type} {F : V → (V → Option α) → Option α} {r : Option α} (I : Nat → V → Prop)
  (h : ∀ m x n,I m x → (∀ m' y,m' < m → I m' y → n y = r) → F x n = r) : ∀ {j m x},I m x → m < j → lpF F j x = r
 | 0,_,_,_,hj => absurd hj (Nat.not_lt_zero _)
 | j + 1,m,x,hi,hj => h m x (lpF F j) hi fun m' y hm hy => lp_rule I h hy (by omega)
theorem w64_id {x : Int} (h1 : -9223372036854775808 ≤ x) (h2 : x < 9223372036854775808) : w64 x = x := by
 simp only [w64,IntKind.wrap,IntKind.bits,IntKind.signed]
 simp
 split <;> omega
theorem wu64_id {x : Int} (h1 : 0 ≤ x) (h2 : x < 18446744073709551616) : wu64 x = x := by
 simp only [wu64,IntKind.wrap,IntKind.bits,IntKind.signed]
 simp
 omega
theorem w8_id {x : Int} (h1 : 0 ≤ x) (h2 : x < 256) : w8 x = x := by
 simp only [w8,IntKind.wrap,IntKind.bits,IntKind.signed]
 simp
 omega
theorem ofG_lt (a : F8) : ofG a < 256 := by
 have := a.isLt
 unfold ofG
 omega
theorem ofG_nn (a : F8) : 0 ≤ ofG a := by
 unfold ofG
 omega
theorem toG_ofG (a : F8) : toG (ofG a) = a := by
 unfold toG ofG
 simp
theorem ofG_toG {x : Int} (h1 : 0 ≤ x) (h2 : x < 256) : ofG (toG x) = x := by
 unfold toG ofG
 simp [BitVec.toNat_ofInt]
 omega
theorem ofG_inj {a b : F8} (h : ofG a = ofG b) : a = b := by
 rw [← toG_ofG a,h,toG_ofG]
theorem ofG_xor (a b : F8) : bitI .xor .u8 (ofG a) (ofG b) = ofG (a ^^^ b) := by
 have h : ∀ a : F8,BitVec.ofInt 8 (ofG a) = a := toG_ofG
 show w8 ((BitVec.ofInt 8 (ofG a) ^^^ BitVec.ofInt 8 (ofG b)).toNat : Int) = _
 rw [h,h]
 exact w8_id (ofG_nn (a ^^^ b)) (ofG_lt (a ^^^ b))
theorem ofG_eq_zero {a : F8} : ofG a = 0 ↔ a = 0 := ⟨fun h => ofG_inj h,fun h => by rw [h]; rfl⟩
def bs (l : List F8) : List Int := l.map ofG
theorem bs_len (l : List F8) : (bs l).length = l.length := List.length_map _
theorem bs_getD (l : List F8) (i : Nat) : (bs l).getD i 0 = ofG (l.getD i 0) := by
 unfold bs
 rw [List.getD_eq_getElem?_getD,List.getD_eq_getElem?_getD,List.getElem?_map]
 cases l[i]? <;> rfl
theorem bs_set (l : List F8) (i : Nat) (a : F8) : (bs l).set i (ofG a) = bs (l.set i a) := by
 unfold bs
 rw [List.map_set]
theorem bs_append (l m : List F8) : bs l ++ bs m = bs (l ++ m) := by
 unfold bs
 rw [List.map_append]
theorem bs_take (l : List F8) (n : Nat) : (bs l).take n = bs (l.take n) := by
 unfold bs
 rw [List.map_take]
theorem bs_drop (l : List F8) (n : Nat) : (bs l).drop n = bs (l.drop n) := by
 unfold bs
 rw [List.map_drop]
theorem bs_rep (n : Nat) : List.replicate n (0 : Int) = bs (List.replicate n 0) := by
 unfold bs
 rw [List.map_replicate]
 rfl
theorem exists_bs : ∀ {l : List Int},(∀ x ∈ l,0 ≤ x ∧ x < 256) → ∃ m : List F8,l = bs m
 | [],_ => ⟨[],rfl⟩
 | x :: l,h => by
  obtain ⟨m,hm⟩ := exists_bs (l := l) fun y hy => h y (by simp [hy])
  have := h x (by simp)
  exact ⟨toG x :: m,by rw [hm]; simp [bs,ofG_toG this.1 this.2]⟩
theorem xx (a : F8) : a ^^^ a = 0 := BitVec.xor_self
theorem x0 (a : F8) : a ^^^ 0 = a := BitVec.xor_zero
theorem zx (a : F8) : 0 ^^^ a = a := BitVec.zero_xor
theorem F8_ind {P : F8 → Prop} (h0 : P 0) (hb : ∀ i : Fin 8,P (1#8 <<< i.val)) (hx : ∀ a b,P a → P b → P (a ^^^ b)) (a : F8) : P a := by
 have h : ∀ a : F8,a = (bif a.getLsbD 0 then 1#8 <<< 0 else 0) ^^^ (bif a.getLsbD 1 then 1#8 <<< 1 else 0) ^^^ (bif a.getLsbD 2 then 1#8 <<< 2 else 0) ^^^ (bif a.getLsbD 3 then 1#8 <<< 3 else 0)
   ^^^ (bif a.getLsbD 4 then 1#8 <<< 4 else 0) ^^^ (bif a.getLsbD 5 then 1#8 <<< 5 else 0) ^^^ (bif a.getLsbD 6 then 1#8 <<< 6 else 0) ^^^ (bif a.getLsbD 7 then 1#8 <<< 7 else 0) := by decide +kernel
 have hc : ∀ (c : Bool) (i : Fin 8),P (bif c then 1#8 <<< i.val else 0) := fun c i => by cases c; exact h0; exact hb i
 rw [h a]
 exact hx _ _ (hx _ _ (hx _ _ (hx _ _ (hx _ _ (hx _ _ (hx _ _ (hc _ 0) (hc _ 1)) (hc _ 2)) (hc _ 3)) (hc _ 4)) (hc _ 5)) (hc _ 6)) (hc _ 7)
theorem xor_mid (a b c d : F8) : (a ^^^ b) ^^^ (c ^^^ d) = (a ^^^ c) ^^^ (b ^^^ d) := by
 rw [BitVec.xor_assoc,BitVec.xor_assoc,← BitVec.xor_assoc b c d,BitVec.xor_comm b c,BitVec.xor_assoc c b d]
theorem gdbl_xor (a b : F8) : gdbl (a ^^^ b) = gdbl a ^^^ gdbl b := by
 unfold gdbl
 rw [BitVec.getLsbD_xor,BitVec.shiftLeft_xor_distrib]
 cases a.getLsbD 7 <;> cases b.getLsbD 7
 ·rfl
 ·exact (BitVec.xor_assoc _ _ _)
 ·show a <<< 1 ^^^ b <<< 1 ^^^ 29#8 = a <<< 1 ^^^ 29#8 ^^^ b <<< 1
  rw [BitVec.xor_assoc,BitVec.xor_assoc,BitVec.xor_comm (b <<< 1)]
 ·show a <<< 1 ^^^ b <<< 1 = (a <<< 1 ^^^ 29#8) ^^^ (b <<< 1 ^^^ 29#8)
  rw [xor_mid,BitVec.xor_self,BitVec.xor_zero]
theorem gmulA_xorB : ∀ (n : Nat) (p q a b c : F8),gmulA n (p ^^^ q) a (b ^^^ c) = gmulA n p a b ^^^ gmulA n q a c
 | 0,_,_,_,_,_ => rfl
 | n + 1,p,q,a,b,c => by
  simp only [gmulA]
  rw [BitVec.ushiftRight_xor_distrib,← gmulA_xorB n,BitVec.getLsbD_xor]
  congr 1
  cases b.getLsbD 0 <;> cases c.getLsbD 0
  ·rfl
  ·exact BitVec.xor_assoc _ _ _
  ·show p ^^^ q ^^^ a = p ^^^ a ^^^ q
   rw [BitVec.xor_assoc,BitVec.xor_assoc,BitVec.xor_comm q]
  ·show p ^^^ q = (p ^^^ a) ^^^ (q ^^^ a)
   rw [xor_mid,BitVec.xor_self,BitVec.xor_zero]
theorem gmulA_xorA : ∀ (n : Nat) (p q a b c : F8),gmulA n (p ^^^ q) (a ^^^ b) c = gmulA n p a c ^^^ gmulA n q b c
 | 0,_,_,_,_,_ => rfl
 | n + 1,p,q,a,b,c => by
  simp only [gmulA]
  rw [gdbl_xor,← gmulA_xorA n]
  congr 1
  cases c.getLsbD 0
  ·rfl
  ·exact xor_mid _ _ _ _
theorem gmul_add (a b c : F8) : gmul a (b ^^^ c) = gmul a b ^^^ gmul a c := by
 unfold gmul
 rw [← gmulA_xorB]
 rfl
theorem add_gmul (a b c : F8) : gmul (a ^^^ b) c = gmul a c ^^^ gmul b c := by
 unfold gmul
 rw [← gmulA_xorA]
 rfl
theorem gmul_zero (a : F8) : gmul a 0 = 0 := by
 have := gmul_add a 0 0
 rw [xx] at this
 rw [this,xx]
theorem zero_gmul (a : F8) : gmul 0 a = 0 := by
 have := add_gmul 0 0 a
 rw [xx] at this
 rw [this,xx]
theorem gmul_comm (a b : F8) : gmul a b = gmul b a := by
 refine F8_ind (P := fun a => gmul a b = gmul b a) (by rw [zero_gmul,gmul_zero]) (fun i => ?_) (fun x y hx hy => by rw [add_gmul,gmul_add,hx,hy]) a
 refine F8_ind (P := fun b => gmul (1#8 <<< i.val) b = gmul b (1#8 <<< i.val)) (by rw [zero_gmul,gmul_zero]) (fun j => ?_) (fun x y hx hy => by rw [add_gmul,gmul_add,hx,hy]) b
 revert i j
 decide +kernel
theorem gmul_assoc (a b c : F8) : gmul (gmul a b) c = gmul a (gmul b c) := by
 refine F8_ind (P := fun a => gmul (gmul a b) c = gmul a (gmul b c)) (by simp only [zero_gmul]) (fun i => ?_) (fun x y hx hy => by simp only [add_gmul,hx,hy]) a
 refine F8_ind (P := fun b => gmul (gmul (1#8 <<< i.val) b) c = gmul (1#8 <<< i.val) (gmul b c)) (by simp only [zero_gmul,gmul_zero]) (fun j => ?_) (fun x y hx hy => by simp only [add_gmul,gmul_add,hx,hy]) b
 refine F8_ind (P := fun c => gmul (gmul (1#8 <<< i.val) (1#8 <<< j.val)) c = gmul (1#8 <<< i.val) (gmul (1#8 <<< j.val) c)) (by simp only [gmul_zero]) (fun l => ?_) (fun x y hx hy => by simp only [gmul_add,hx,hy]) c
 revert i j l
 decide +kernel
theorem one_gmul (a : F8) : gmul 1 a = a := by
 revert a
 decide +kernel
theorem gmul_one (a : F8) : gmul a 1 = a := by rw [gmul_comm,one_gmul]
def gpow (a : F8) : Nat → F8
 | 0 => 1
 | n + 1 => gmul (gpow a n) a
theorem gpow_add (a : F8) (m : Nat) : ∀ n,gpow a (m + n) = gmul (gpow a m) (gpow a n)
 | 0 => (gmul_one _).symm
 | n + 1 => by
  show gmul (gpow a (m + n)) a = gmul (gpow a m) (gmul (gpow a n) a)
  rw [gpow_add a m n,gmul_assoc]
theorem gpow_one (a : F8) : gpow a 1 = a := one_gmul a
theorem gpow_mul (a : F8) (m : Nat) : ∀ n,gpow a (m * n) = gpow (gpow a m) n
 | 0 => rfl
 | n + 1 => by
  rw [Nat.mul_succ,gpow_add,gpow_mul a m n]
  rfl
theorem gpow_sq (a : F8) (n : Nat) : gpow (gmul a a) n = gpow a (2 * n) := by
 rw [gpow_mul]
 congr 1
 show gmul a a = gmul (gmul 1 a) a
 rw [one_gmul]
theorem one_gpow : ∀ n,gpow 1 n = 1
 | 0 => rfl
 | n + 1 => by
  show gmul (gpow 1 n) 1 = 1
  rw [one_gpow n]
  rfl
def ginv (a : F8) : F8 := gpow a 254
theorem gpow_255 {a : F8} (h : a ≠ 0) : gpow a 255 = 1 := by
 have e : ∀ a : F8,gpow a 255 = gmul (gpow (gmul a a) 127) a := fun a => by rw [gpow_sq]; rfl
 have e1 : ∀ a : F8,gpow a 127 = gmul (gpow (gmul a a) 63) a := fun a => by rw [gpow_sq]; rfl
 have e2 : ∀ a : F8,gpow a 63 = gmul (gpow (gmul a a) 31) a := fun a => by rw [gpow_sq]; rfl
 have e3 : ∀ a : F8,gpow a 31 = gmul (gpow (gmul a a) 15) a := fun a => by rw [gpow_sq]; rfl
 rw [e,e1,e2,e3]
 revert a
 decide +kernel
theorem ginv_gmul {a : F8} (h : a ≠ 0) : gmul (ginv a) a = 1 := gpow_255 h
theorem gmul_ginv {a : F8} (h : a ≠ 0) : gmul a (ginv a) = 1 := by rw [gmul_comm,ginv_gmul h]
theorem gmul_eq_zero {a b : F8} (h : gmul a b = 0) : a = 0 ∨ b = 0 := by
 by_cases ha : a = 0
 ·exact .inl ha
 ·right
  rw [← one_gmul b,← ginv_gmul ha,gmul_assoc,h,gmul_zero]
theorem ginv_ne {a : F8} (h : a ≠ 0) : ginv a ≠ 0 := fun e => by
 have := ginv_gmul h
 rw [e,zero_gmul] at this
 revert this
 decide
theorem gmul_ne {a b : F8} (ha : a ≠ 0) (hb : b ≠ 0) : gmul a b ≠ 0 := fun h => (gmul_eq_zero h).elim ha hb
theorem gpow_ne {a : F8} (h : a ≠ 0) : ∀ n,gpow a n ≠ 0
 | 0 => show (1 : F8) ≠ 0 by decide
 | n + 1 => gmul_ne (gpow_ne h n) h
theorem gpow_mod {a : F8} (h : a ≠ 0) (n : Nat) : gpow a (n % 255) = gpow a n := by
 have h1 := Nat.div_add_mod n 255
 have h2 : gpow a n = gpow a (255 * (n / 255) + n % 255) := by rw [h1]
 rw [h2,gpow_add,gpow_mul,gpow_255 h,one_gpow,one_gmul]
theorem two_ne : (2 : F8) ≠ 0 := by decide
theorem pow2_inj {i j : Nat} (hi : i < 64) (hj : j < 64) (h : gpow 2 i = gpow 2 j) : i = j := by
 have : ∀ i j : Fin 64,gpow 2 i.val = gpow 2 j.val → i = j := by decide +kernel
 exact congrArg Fin.val (this ⟨i,hi⟩ ⟨j,hj⟩ h)
theorem xor_eq_zero {a b : F8} : a ^^^ b = 0 ↔ a = b := by
 constructor
 ·intro h
  have : (a ^^^ b) ^^^ b = 0 ^^^ b := by rw [h]
  rwa [BitVec.xor_assoc,xx,x0,zx] at this
 ·rintro rfl
  exact BitVec.xor_self
end Go.Proofs.YtkeiedikiiccpaaGreatDoor.Am
