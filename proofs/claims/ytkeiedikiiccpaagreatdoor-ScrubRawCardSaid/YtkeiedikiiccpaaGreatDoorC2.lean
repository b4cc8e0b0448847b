/- The machine on typed data is sound: what it computes is what the model does. -/
import Derived.Test.YtkeiedikiiccpaaGreatDoorC1
import Derived.Laws.StructEq
set_option linter.all false
namespace Go.Proofs.YtkeiedikiiccpaaGreatDoor.Am
open Go
def BV (x : Option Value) (d i : Nat) : Prop := (x = none ∧ i = d) ∨ ∃ k,x = some (.int k i)
section
variable {R : Type} {P : Program} {E : Env} {gv : Nat → AV} {hp : Nat → Ob} {Z : Nat → Prop} {w : World} {σ : Nat → Sh}
theorem run_bound {i y : Nat} {k : IntKind} {code : BoundsCode} (h : i ≤ y) : (Instr.sliceBound (.int k i) y code).run P w = .ok i w := by
 simp [Instr.sliceBound,asIntOf,h]
theorem run_slice_am {t et : Nat} (hE : EnvOk P E) (ht : (E.ti t).ok = true) (hu : (E.ti t).u = .sl et) (he : (E.ti et).ok = true) {a : Option Addr} {n c L H M : Nat} {lo hi mx : Option Value}
  (hl : BV lo 0 L) (hh : BV hi n H) (hm : BV mx c M) (hmh : mx ≠ none → hi ≠ none) (h1 : L ≤ H) (h2 : H ≤ M) (h3 : M ≤ c) :
  (Instr.sliceAt t (.slice a n c) lo hi mx).run P w = .ok (.slice (if M = L then a else a.map (·.add (L * (E.ti et).size))) (H - L) (M - L)) w := by
 have hs := und_sl (hE.tab t ht) hu
 have hz := run_size (w := w) (hE.tab et he)
 have hb : (Instr.sliceBounds true n c lo hi mx).run P w = .ok (L,H,M) w := by
  have hHc : H ≤ c := by omega
  rcases hl with ⟨rfl,rfl⟩ | ⟨kl,rfl⟩ <;> rcases hh with ⟨rfl,rfl⟩ | ⟨kh,rfl⟩ <;> rcases hm with ⟨rfl,rfl⟩ | ⟨km,rfl⟩ <;>
   simp_all [Instr.sliceBounds,run_bound]
 simp [Instr.sliceAt,Instr.slice,run_underlying hs,hb,hz]
theorem Hdr.cut {sz off n L H M c : Nat} {p : Pl} {a : Option Addr} (h : Hdr sz p off n (.slice a n c)) (h1 : L ≤ H) (h2 : H ≤ M) (h3 : M ≤ c) :
  Hdr sz p (off + L) (H - L) (.slice (if M = L then a else a.map (·.add (L * sz))) (H - L) (M - L)) := by
 obtain ⟨a',c',e,hn,hc⟩ := h
 cases e
 refine ⟨_,_,rfl,by omega,?_⟩
 by_cases hml : M = L
 ·exact .inl (by omega)
 ·rw [if_neg hml]
  rcases hc with hc | ⟨b,s,m,rfl,rfl,h4⟩
  ·omega
  ·refine .inr ⟨b,s,m,rfl,?_,by omega⟩
   simp only [Option.map_some,add_spot]
   congr 2
   rw [Nat.add_mul]
   omega
theorem RowAt.cut {b o L H : Nat} {e : Ty} {xs : List e.den} (h : RowAt Z w b o e xs) : RowAt Z w b (o + L * e.sz) e ((xs.take H).drop L) := fun i x hx => by
 rw [List.getElem?_drop,List.getElem?_take] at hx
 split at hx
 ·obtain ⟨l,h1,h2⟩ := h _ x hx
  refine ⟨l,h1,fun j v hj => ?_⟩
  have := h2 j v hj
  rw [← this]
  congr 2
  rw [Nat.add_mul]
  omega
 ·cases hx
theorem PV.cut {e : Ty} {xs : List e.den} {a : Option Addr} {c L H M : Nat} (h : PV Z w (.sl e) xs [.slice a xs.length c]) (h1 : L ≤ H) (h0 : H ≤ xs.length) (h2 : H ≤ M) (h3 : M ≤ c) :
  PV Z w (.sl e) ((xs.take H).drop L) [.slice (if M = L then a else a.map (·.add (L * e.sz))) (H - L) (M - L)] := by
 obtain ⟨a',c',e1,hn,hc⟩ := h
 simp only [List.cons.injEq,Value.slice.injEq,true_and,and_true] at e1
 obtain ⟨rfl,rfl⟩ := e1
 have hlen : ((xs.take H).drop L).length = H - L := by
  rw [List.length_drop,List.length_take]
  omega
 refine ⟨_,_,by rw [hlen],by rw [hlen]; omega,?_⟩
 by_cases hml : H = L
 ·exact .inl (by rw [hlen]; omega)
 ·have : M ≠ L := by omega
  rw [if_neg this]
  rcases hc with hc | ⟨b,o,rfl,hz,hrow⟩
  ·exact .inl (by rw [hlen]; omega)
  ·exact .inr ⟨b,o + L * e.sz,by simp [add_spot],hz,RowAt.cut hrow⟩
def BA (x : Option AV) (d i : Nat) : Prop := (x = none ∧ i = d) ∨ ∃ v,x = some v ∧ asI v = some (i : Int)
theorem cut?_spec {l h : Int} {n : Nat} {x : Option R} {r : R} (hh : cut? l h n x = some r) : 0 ≤ l ∧ l ≤ h ∧ h ≤ (n : Int) ∧ x = some r := by
 unfold cut? at hh
 split at hh
 ·rename_i hi
  exact ⟨hi.1,hi.2.1,hi.2.2,hh⟩
 ·cases hh
theorem bnd_spec {x : Option AV} {d : Nat} {l : Int} (h : bnd x d = some l) (h0 : 0 ≤ l) : BA x d l.toNat := by
 cases x with
 | none => simp only [bnd,Option.some.injEq] at h; exact .inl ⟨rfl,by omega⟩
 | some v => exact .inr ⟨v,rfl,by rw [Int.toNat_of_nonneg h0]; exact h⟩
structure Win (off len off' len' : Option Nat) (n L H : Nat) : Prop where
 o : ofs off' = ofs off + L
 l : ∀ n0,slenN n0 off len = n → slenN n0 off' len' = H - L
theorem win_end (off len : Option Nat) (lo : Option AV) (l : Int) (n : Nat) (h0 : lo = none → l = 0) (h1 : 0 ≤ l) : Win off len (offBy off lo l) (lenBy len lo l) n l.toNat n := by
 cases lo with
 | none =>
  have := h0 rfl
  subst this
  exact ⟨rfl,fun n0 h => by simpa [offBy,lenBy] using h⟩
 | some v =>
  refine ⟨by simp only [offBy,ofs,plus_eq]; omega,fun n0 h => ?_⟩
  cases len with
  | none =>
   cases off <;> simp_all [offBy,lenBy,slenN,plus] <;> omega
  | some m => simp_all [lenBy,slenN]
theorem win_at (off len : Option Nat) (lo : Option AV) (l h : Int) (n : Nat) (h0 : lo = none → l = 0) (h1 : 0 ≤ l) : Win off len (offBy off lo l) (some (widBy lo l h)) n l.toNat h.toNat := by
 cases lo with
 | none =>
  have := h0 rfl
  subst this
  exact ⟨rfl,fun n0 _ => by simp [widBy,slenN]⟩
 | some v => exact ⟨by simp only [offBy,ofs,plus_eq]; omega,fun n0 _ => by simp [widBy,slenN]⟩
theorem lo_none {lo : Option AV} {l : Int} (h : bnd lo 0 = some l) : lo = none → l = 0 := by
 rintro rfl
 simp only [bnd,Option.some.injEq] at h
 omega
theorem dropBy_drop {α : Type} (xs : List α) {lo : Option AV} {l : Int} (h : lo = none → l = 0) : dropBy xs lo l = xs.drop l.toNat := by
 cases lo with
 | none => rw [h rfl]; rfl
 | some v => rfl
theorem sliceH_spec {g : Nat} {off len : Option Nat} {n : Nat} {lo hi : Option AV} {K : Eff → Option R} {r : R} (h : sliceH g off len n lo hi K = some r) :
  ∃ L H off' len',BA lo 0 L ∧ BA hi n H ∧ L ≤ H ∧ H ≤ n ∧ K { v := .sl g off' len',rd := [g] } = some r ∧ Win off len off' len' n L H := by
 unfold sliceH at h
 split at h
 case h_2 => cases h
 rename_i l hl
 split at h
 ·obtain ⟨h0,h1,h2,h⟩ := cut?_spec h
  exact ⟨_,n,_,_,bnd_spec hl h0,.inl ⟨rfl,rfl⟩,by omega,Nat.le_refl _,h,win_end off len lo l n (lo_none hl) h0⟩
 ·rename_i hv
  split at h
  case h_2 => cases h
  rename_i k hk
  obtain ⟨h0,h1,h2,h⟩ := cut?_spec h
  exact ⟨_,k.toNat,_,_,bnd_spec hl h0,.inr ⟨hv,rfl,by rw [Int.toNat_of_nonneg (by omega)]; exact hk⟩,by omega,by omega,h,win_at off len lo l k n (lo_none hl) h0⟩
theorem sliceR_spec {g id v : Nat} {off len : Option Nat} {n : Nat} {lo hi : Option AV} {K : Eff → Option R} {r : R} (h : sliceR g id v off len n lo hi K = some r) :
  ∃ L H off' len',BA lo 0 L ∧ BA hi n H ∧ L ≤ H ∧ H ≤ n ∧ K { v := .row g id off' len' v,rd := [g] } = some r ∧ Win off len off' len' n L H := by
 unfold sliceR at h
 split at h
 case h_2 => cases h
 rename_i l hl
 split at h
 ·obtain ⟨h0,h1,h2,h⟩ := cut?_spec h
  exact ⟨_,n,_,_,bnd_spec hl h0,.inl ⟨rfl,rfl⟩,by omega,Nat.le_refl _,h,win_end off len lo l n (lo_none hl) h0⟩
 ·rename_i hv
  split at h
  case h_2 => cases h
  rename_i k hk
  obtain ⟨h0,h1,h2,h⟩ := cut?_spec h
  exact ⟨_,k.toNat,_,_,bnd_spec hl h0,.inr ⟨hv,rfl,by rw [Int.toNat_of_nonneg (by omega)]; exact hk⟩,by omega,by omega,h,win_at off len lo l k n (lo_none hl) h0⟩
theorem HV.cut {sz n0 : Nat} {p : Pl} {off len off' len' : Option Nat} {L H : Nat} {v : Value} (h : Hdr sz p (ofs off) (slenN n0 off len) v) (hle : ofs off + slenN n0 off len ≤ n0)
  (hw : Win off len off' len' (slenN n0 off len) L H) (h1 : L ≤ H) (h2 : H ≤ slenN n0 off len) :
  ∃ a c,v = .slice a (slenN n0 off len) c ∧ slenN n0 off len ≤ c ∧ ∀ M,H ≤ M → M ≤ c →
   Hdr sz p (ofs off') (slenN n0 off' len') (.slice (if M = L then a else a.map (·.add (L * sz))) (H - L) (M - L)) ∧ ofs off' + slenN n0 off' len' ≤ n0 := by
 have h0 := h
 obtain ⟨a,c,rfl,hn,_⟩ := h0
 refine ⟨a,c,rfl,hn,fun M h3 h4 => ?_⟩
 rw [hw.o,hw.l _ rfl]
 exact ⟨h.cut h1 h3 h4,by omega⟩
theorem sliceE_snd {T : TI} {x : AV} {lo hi : Option AV} {K : Eff → Option R} {r : R} (h : sliceE T hp x lo hi K = some r) : ∃ e L H n,K e = some r ∧ e.wr = [] ∧ e.nw = [] ∧
  BA lo 0 L ∧ BA hi n H ∧ L ≤ H ∧ H ≤ n ∧ T.ok = true ∧ (∀ h ∈ hs x,h ∈ e.rd) ∧ ∀ {hp' : Nat → Ob} {Z : Nat → Prop} {w : World} {σ : Nat → Sh} {a : Value},MR gv Z w σ hp' → (∀ h ∈ e.rd,hp' h = hp h) → VR Z w σ x [a] →
   ∃ b c,a = .slice b n c ∧ n ≤ c ∧ ∀ M,H ≤ M → M ≤ c → VR Z w σ e.v [.slice (if M = L then b else b.map (·.add (L * T.size))) (H - L) (M - L)] := by
 unfold sliceE at h
 split at h
 ·rename_i e xs
  obtain ⟨hf,h⟩ := bif_spec h
  obtain ⟨he,hsz,hpos⟩ := fits_spec hf
  split at h
  case h_2 => cases h
  rename_i l hl
  split at h
  ·obtain ⟨h0,h1,h2,h⟩ := cut?_spec h
   refine ⟨_,l.toNat,List.length xs,List.length xs,h,rfl,rfl,bnd_spec hl h0,.inl ⟨rfl,rfl⟩,by omega,Nat.le_refl _,he,(fun _ m => by cases m),fun m _ hx => ?_⟩
   obtain ⟨b,c,rfl,hc,_⟩ := hx.slp
   refine ⟨b,c,rfl,hc,fun M h3 h4 => ⟨rfl,?_⟩⟩
   rw [hsz]
   have := PV.cut hx.2 (L := l.toNat) (H := List.length xs) (M := M) (by omega) (Nat.le_refl _) h3 h4
   have e2 : dropBy xs lo l = (List.take (List.length xs) xs).drop l.toNat :=
    (dropBy_drop (α := e.den) xs (lo_none hl)).trans (congrArg (List.drop l.toNat) (List.take_length (l := (xs : List e.den))).symm)
   show PV _ _ (.sl e) (dropBy xs lo l) _
   rw [e2]
   exact this
  ·rename_i hv _
   split at h
   case h_2 => cases h
   rename_i k hk
   obtain ⟨h0,h1,h2,h⟩ := cut?_spec h
   refine ⟨_,l.toNat,k.toNat,List.length xs,h,rfl,rfl,bnd_spec hl h0,.inr ⟨hv,rfl,by rw [Int.toNat_of_nonneg (by omega)]; exact hk⟩,by omega,by omega,he,(fun _ m => by cases m),fun m _ hx => ?_⟩
   obtain ⟨b,c,rfl,hc,_⟩ := hx.slp
   refine ⟨b,c,rfl,hc,fun M h3 h4 => ⟨rfl,?_⟩⟩
   rw [hsz]
   have := PV.cut hx.2 (L := l.toNat) (H := k.toNat) (M := M) (by omega) (by omega) h3 h4
   have e2 : dropBy (List.take k.toNat xs) lo l = (List.take k.toNat xs).drop l.toNat := dropBy_drop (α := e.den) _ (lo_none hl)
   show PV _ _ (.sl e) (dropBy (List.take k.toNat xs) lo l) _
   rw [e2]
   exact this
 ·split at h
  case h_2 => cases h
  rename_i l k hl hk
  have he := (bif_spec h).1
  replace h := (bif_spec h).2
  split at h
  case isFalse => cases h
  rename_i h0
  obtain ⟨rfl,rfl⟩ := h0
  refine ⟨_,0,0,0,h,rfl,rfl,bnd_spec hl (Int.le_refl _),bnd_spec hk (Int.le_refl _),Nat.le_refl _,Nat.le_refl _,he,(fun _ m => by cases m),fun m _ hx => ?_⟩
  cases hx
  refine ⟨none,0,rfl,Nat.le_refl _,fun M h3 h4 => ?_⟩
  have : M = 0 := by omega
  subst this
  rfl
 ·rename_i g off len
  split at h
  ·rename_i e xs hg
   obtain ⟨hf,h⟩ := bif_spec h
   obtain ⟨he,hsz,hpos⟩ := fits_spec hf
   obtain ⟨L,H,off',len',hl,hh,h1,h2,h,hw⟩ := sliceH_spec h
   refine ⟨_,L,H,_,h,rfl,rfl,hl,hh,h1,h2,he,fun _ m => by simpa [hs] using m,fun m hr hx => ?_⟩
   obtain ⟨p,hs,_⟩ := m.L (h := g) (by rw [hr g (by simp)]; exact hg)
   obtain ⟨v,e1,hv⟩ := hx
   cases e1
   rw [hs] at hv
   obtain ⟨hv,hle⟩ := hv
   rw [← slenN_eq] at hw h2 ⊢
   obtain ⟨a,c,rfl,hc,hM⟩ := HV.cut hv hle hw h1 h2
   refine ⟨a,c,rfl,hc,fun M h3 h4 => ⟨_,rfl,?_⟩⟩
   rw [hs,hsz]
   exact hM M h3 h4
  ·rename_i e xs hg
   obtain ⟨hf,h⟩ := bif_spec h
   obtain ⟨he,hsz,hpos⟩ := fits_spec hf
   obtain ⟨L,H,off',len',hl,hh,h1,h2,h,hw⟩ := sliceH_spec h
   refine ⟨_,L,H,_,h,rfl,rfl,hl,hh,h1,h2,he,fun _ m => by simpa [hs] using m,fun m hr hx => ?_⟩
   obtain ⟨p,hs,_⟩ := m.F (h := g) (by rw [hr g (by simp)]; exact hg)
   obtain ⟨v,e1,hv⟩ := hx
   cases e1
   rw [hs] at hv
   obtain ⟨hv,hle⟩ := hv
   rw [← slenN_eq] at hw h2 ⊢
   obtain ⟨a,c,rfl,hc,hM⟩ := HV.cut hv hle hw h1 h2
   refine ⟨a,c,rfl,hc,fun M h3 h4 => ⟨_,rfl,?_⟩⟩
   rw [hs,hsz]
   exact hM M h3 h4
  ·rename_i e ids st u pd hg
   obtain ⟨hf,h⟩ := bif_spec h
   obtain ⟨he,hsz⟩ := one_spec hf
   obtain ⟨L,H,off',len',hl,hh,h1,h2,h,hw⟩ := sliceH_spec h
   refine ⟨_,L,H,_,h,rfl,rfl,hl,hh,h1,h2,he,fun _ m => by simpa [hs] using m,fun m hr hx => ?_⟩
   obtain ⟨p,q,hs,_⟩ := m.N (h := g) (by rw [hr g (by simp)]; exact hg)
   obtain ⟨v,e1,hv⟩ := hx
   cases e1
   rw [hs] at hv
   obtain ⟨hv,hle⟩ := hv
   obtain ⟨a,c,rfl,hc,hM⟩ := HV.cut hv hle hw h1 h2
   refine ⟨a,c,rfl,hc,fun M h3 h4 => ⟨_,rfl,?_⟩⟩
   rw [hs,hsz]
   exact hM M h3 h4
  ·cases h
 ·rename_i g id off len u
  split at h
  ·rename_i e ids st u' pd hg
   obtain ⟨hf,h⟩ := bif_spec h
   simp only [Bool.and_eq_true] at hf
   obtain ⟨hf,hu'⟩ := hf
   have hu' := Nat.eq_of_beq_eq_true hu'
   obtain ⟨he,hsz,hpos⟩ := fits_spec hf
   obtain ⟨L,H,off',len',hl,hh,h1,h2,h,hw⟩ := sliceR_spec h
   refine ⟨_,L,H,_,h,rfl,rfl,hl,hh,h1,h2,he,fun _ m => by simpa [hs] using m,fun m hr hx => ?_⟩
   obtain ⟨p,q,hs,hq,hn⟩ := m.N (h := g) (by rw [hr g (by simp)]; exact hg)
   obtain ⟨v,e1,hv⟩ := hx
   cases e1
   rw [hs] at hv
   obtain ⟨hle0,hv⟩ := hv
   obtain ⟨hv,hle⟩ := hv (by rw [hq,hu'])
   rw [← slenN_eq,← hn.lenOf] at hw h2 ⊢
   obtain ⟨a,c,rfl,hc,hM⟩ := HV.cut hv hle hw h1 h2
   refine ⟨a,c,rfl,hc,fun M h3 h4 => ⟨_,rfl,?_⟩⟩
   rw [hs,hsz,← hn.sz]
   exact ⟨⟨hle0.1,rfl⟩,fun _ => hM M h3 h4⟩
  ·cases h
 ·cases h
def OV (Z : Nat → Prop) (w : World) (σ : Nat → Sh) (x : Option AV) (y : Option Value) : Prop := (x = none ∧ y = none) ∨ ∃ a b,x = some a ∧ y = some b ∧ VR Z w σ a [b]
theorem OV.eq_none {y : Option Value} (h : OV Z w σ none y) : y = none := by
 rcases h with ⟨_,e⟩ | ⟨_,_,e,_⟩
 ·exact e
 ·cases e
theorem OV.eq_some {a : AV} {y : Option Value} (h : OV Z w σ (some a) y) : ∃ b,y = some b ∧ VR Z w σ a [b] := by
 rcases h with ⟨e,_⟩ | ⟨_,b,e,e2,h⟩
 ·cases e
 ·cases e
  exact ⟨b,e2,h⟩
theorem BA.val {x : Option AV} {d i : Nat} (h : BA x d i) {y : Option Value} (hy : OV Z w σ x y) : BV y d i := by
 rcases h with ⟨rfl,rfl⟩ | ⟨v,rfl,hv⟩
 ·rcases hy with ⟨_,rfl⟩ | ⟨a,b,e,_,_⟩
  ·exact .inl ⟨rfl,rfl⟩
  ·cases e
 ·rcases hy with ⟨e,_⟩ | ⟨a,b,e,rfl,hb⟩
  ·cases e
  ·cases e
   obtain ⟨k,rfl⟩ := asI_VR hv hb
   exact .inr ⟨k,rfl⟩
theorem lenS_rd {x : AV} {K : Eff → Option R} {r : R} (h : lenS hp x K = some r) : ∃ e,K e = some r ∧ (∀ h ∈ e.rd,h ∈ hs x) ∧ ∃ n : Nat,e.v = av .i64 n ∧
  ∀ {hp' : Nat → Ob} {Z : Nat → Prop} {w : World} {σ : Nat → Sh} {a : Value},MR gv Z w σ hp' → (∀ h ∈ e.rd,hp' h = hp h) → VR Z w σ x [a] → ∃ b c,a = .slice b n c := by
 have hrd : ∃ rd,(∀ h ∈ rd,h ∈ hs x) ∧ ∀ e,lenS hp x some = some e → e.rd = rd := by
  refine ⟨hs x,fun _ h => h,fun e he => ?_⟩
  unfold lenS at he
  repeat' split at he
  all_goals first | (cases he; rfl) | cases he
 have h2 : ∃ e,lenS hp x some = some e ∧ K e = some r := by
  unfold lenS at h ⊢
  repeat' split at h
  all_goals first | exact ⟨_,rfl,h⟩ | (simp_all; done) | cases h
 obtain ⟨rd,h3,h4⟩ := hrd
 obtain ⟨e,h5,h6⟩ := h2
 obtain ⟨e',h7,_,_,n,h8,h9⟩ := lenS_snd (gv := gv) h5
 cases h7
 exact ⟨e,h6,fun h hh => h3 h (by rw [← h4 e h5]; exact hh),n,h8,h9⟩
theorem sliceOp_snd (hE : EnvOk P E) {t et : Nat} (ht : (E.ti t).ok = true) (hu : (E.ti t).u = .sl et) {x : AV} {lo hi mx : Option AV} {K : Eff → Option R} {r : R}
  (h : sliceE (E.ti et) hp x lo hi (mxE hp x hi mx K) = some r) : ∃ e,K e = some r ∧ e.wr = [] ∧ e.nw = [] ∧ ∀ {hp' : Nat → Ob} {Z : Nat → Prop} {w : World} {σ : Nat → Sh} {a : Value} {lo' hi' mx' : Option Value},
   MR gv Z w σ hp' → (∀ h ∈ e.rd,hp' h = hp h) → VR Z w σ x [a] → OV Z w σ lo lo' →
   OV Z w σ hi hi' → OV Z w σ mx mx' →
   ∃ u,(Instr.sliceAt t a lo' hi' mx').run P w = .ok u w ∧ VR Z w σ e.v [u] := by
 obtain ⟨e,L,H,n,hK,h1,h2,hl,hh,h3,h4,h5,h6,h7⟩ := sliceE_snd (gv := gv) h
 unfold mxE at hK
 split at hK
 ·refine ⟨e,hK,h1,h2,fun m hr hx el eh em => ?_⟩
  obtain ⟨b,c,rfl,hc,hM⟩ := h7 m hr hx
  cases em.eq_none
  exact ⟨_,run_slice_am hE ht hu h5 (hl.val el) (hh.val eh) (.inl ⟨rfl,rfl⟩) (fun e => absurd rfl e) h3 (Nat.le_trans h4 hc) (Nat.le_refl _),hM _ (Nat.le_trans h4 hc) (Nat.le_refl _)⟩
 ·rename_i mv
  split at hK
  case h_2 => cases hK
  rename_i hv
  split at hK
  case h_2 => cases hK
  rename_i k hk
  split at hK
  case h_2 => cases hK
  rename_i m hm
  obtain ⟨el,hK,hrd,nn,hn,hlen⟩ := lenS_rd (gv := gv) hK
  rw [hn] at hK
  simp only [av,asI] at hK
  split at hK
  case isFalse => cases hK
  rename_i hkm
  refine ⟨e,hK,h1,h2,fun mr hr hx el eh em => ?_⟩
  obtain ⟨b,c,rfl,hc,hM⟩ := h7 mr hr hx
  obtain ⟨b2,c2,e2⟩ := hlen mr (fun g hg => hr g (h6 g (hrd g hg))) hx
  simp only [Value.slice.injEq] at e2
  obtain ⟨_,rfl,_⟩ := e2
  have hH : (H : Int) = k := by
   rcases hh with ⟨e,_⟩ | ⟨v,e,h⟩
   ·cases e
   ·cases e
    rw [hk] at h
    exact (Option.some.inj h).symm
  obtain ⟨mb,rfl,hmb⟩ := em.eq_some
  obtain ⟨km,rfl⟩ := asI_VR hm hmb
  obtain ⟨hb,rfl,hhb⟩ := eh.eq_some
  have hm0 : m = (m.toNat : Int) := by omega
  refine ⟨_,run_slice_am hE ht hu h5 (hl.val el) (hh.val (.inr ⟨_,_,rfl,rfl,hhb⟩)) (M := m.toNat) (.inr ⟨km,by rw [← hm0]⟩) (fun _ e => by cases e) h3 (by omega) (by omega),hM _ (by omega) (by omega)⟩
end
theorem abChk_info {T : TI} (h : abChk T = true) : (T.agg = true ∨ T.size = 1) ∧ ∀ e m,T.ab = some (e,m) → T.size = m * e.sz ∧ T.agg = true := by
 unfold abChk at h
 simp only [Bool.and_eq_true,Bool.or_eq_true] at h
 refine ⟨h.1.imp id Nat.eq_of_beq_eq_true,fun e m he => ?_⟩
 have h2 := h.2
 rw [he] at h2
 simp only [Bool.and_eq_true] at h2
 refine ⟨Nat.eq_of_beq_eq_true h2.1,?_⟩
 have h3 := h2.2
 unfold TI.agg
 split at h3
 ·rename_i hu
  rw [hu]
 ·cases h3
section
variable {R : Type} {P : Program} {E : Env} {gv : Nat → AV} {hp : Nat → Ob} {Z : Nat → Prop} {w : World} {σ : Nat → Sh}
theorem ti_ab (hE : EnvOk P E) {t : Nat} (ht : (E.ti t).ok = true) : ((E.ti t).agg = true ∨ (E.ti t).size = 1) ∧ ∀ e m,(E.ti t).ab = some (e,m) → (E.ti t).size = m * e.sz ∧ (E.ti t).agg = true := by
 obtain ⟨i,z,d,h1,h2,h3,h4,h5,h6,h7,h8,h9,_⟩ := tiChk_info (hE.tab t ht)
 exact abChk_info h9
theorem take_eq_extract (c : Array Value) (off n : Nat) (l : List Value) (hl : n ≤ l.length) (hc : ∀ j v,l[j]? = some v → c[off + j]? = some v) : (c.extract off (off + n)).toList = l.take n := by
 apply List.ext_getElem?
 intro j
 rw [List.getElem?_take]
 by_cases hj : j < n
 ·have h1 : l[j]? = some l[j] := by simp [show j < l.length by omega]
  have h2 := hc j _ h1
  rw [if_pos hj,h1,Array.getElem?_toList,Array.getElem?_extract,if_pos]
  ·exact h2
  ·have := (Array.getElem?_eq_some_iff.1 h2).1
   omega
 ·rw [if_neg hj,Array.getElem?_toList,Array.getElem?_extract,if_neg]
  omega
theorem run_part (hE : EnvOk P E) {t : Nat} (ht : (E.ti t).ok = true) {c : Array Value} {off : Nat} {l : List Value} {cs : AV} (hv : VR Z w σ cs l) (il : isL cs = true)
  (hl : (E.ti t).size ≤ l.length) (hc : ∀ j v,l[j]? = some v → c[off + j]? = some v) : ∃ u,(part t c off).run P w = .ok u w ∧ VR Z w σ (val (E.ti t) cs) [u] := by
 have ha := run_agg (w := w) (hE.tab t ht)
 have hz := run_size (w := w) (hE.tab t ht)
 unfold val
 by_cases hg : (E.ti t).agg = true
 ·refine ⟨.agg (c.extract off (off + (E.ti t).size)),by simp [part,ha,hz,hg],?_⟩
  rw [if_pos hg]
  refine ⟨_,rfl,?_,isL_take _ _⟩
  rw [take_eq_extract c off _ l hl hc]
  exact hv.take il
 ·have h1 := (ti_ab hE ht).1.resolve_left hg
  obtain ⟨v,h2,h3⟩ := hv.nth (i := 0) (by rw [hv.len il]; omega)
  refine ⟨v,?_,by rw [if_neg hg]; exact h3⟩
  have h4 := hc 0 v h2
  rw [Nat.add_zero] at h4
  simp [part,ha,hg,h4]
theorem run_loadVar (hE : EnvOk P E) {t : Nat} (ht : (E.ti t).ok = true) {b q : Nat} {l : List Value} {cs : AV} (hv : VR Z w σ cs l) (il : isL cs = true)
  (hl : (E.ti t).size ≤ l.length) (hc : ∀ j v,l[j]? = some v → w.cell? ⟨b,q + j,none⟩ = some v) :
  ∃ u,(Instr.loadAt t (.pointer (some ⟨b,q,none⟩))).run P w = .ok u w ∧ VR Z w σ (val (E.ti t) cs) [u] := by
 have ha := run_agg (w := w) (hE.tab t ht)
 have hz := run_size (w := w) (hE.tab t ht)
 unfold val
 by_cases hg : (E.ti t).agg = true
 ·have h1 := run_loadCells_list (P := P) w ⟨b,q,none⟩ (l.take (E.ti t).size) (fun j v hj => by
   rw [add_spot]
   rw [List.getElem?_take] at hj
   split at hj
   ·exact hc j v hj
   ·cases hj)
  rw [List.length_take,Nat.min_eq_left hl] at h1
  refine ⟨.agg (l.take (E.ti t).size).toArray,by simp [Instr.loadAt,Instr.sureAddr,loadVar,ha,hz,hg,h1],?_⟩
  rw [if_pos hg]
  exact ⟨_,rfl,by simpa using hv.take il,isL_take _ _⟩
 ·have h1 := (ti_ab hE ht).1.resolve_left hg
  obtain ⟨v,h2,h3⟩ := hv.nth (i := 0) (by rw [hv.len il]; omega)
  refine ⟨v,?_,by rw [if_neg hg]; exact h3⟩
  have h4 := hc 0 v h2
  rw [Nat.add_zero] at h4
  simp [Instr.loadAt,Instr.sureAddr,loadVar,ha,hg,run_load,h4]
theorem rdE_of {e : Ty} {xs : List e.den} {i : Nat} (h : i < xs.length) : xs[i]? = some (rdE e xs i) := by simp [rdE,h]
theorem cellsOf_VR {b s : Nat} {e : Ty} {xs : List e.den} (hr : RowAt Z w b s e xs) (i : Nat) : ∀ (m j : Nat),i + j + m ≤ xs.length →
  ∃ l,l.length = m * e.sz ∧ VR Z w σ (cellsOf e xs i j m) l ∧ isL (cellsOf e xs i j m) = true ∧ ∀ q v,l[q]? = some v → w.cell? ⟨b,s + (i + j) * e.sz + q,none⟩ = some v
 | 0,_,_ => ⟨[],by simp,rfl,rfl,fun q v h => by simp at h⟩
 | m + 1,j,h => by
  obtain ⟨l2,h1,h2,h3,h4⟩ := cellsOf_VR hr i m (j + 1) (by omega)
  obtain ⟨l1,h5,h6⟩ := hr (i + j) _ (rdE_of (by omega))
  refine ⟨l1 ++ l2,by rw [List.length_append,PV.length e h5,h1,Nat.add_mul]; omega,VR.app (PV.toC e h5) (isL_toC _ _) h2 h3,isL_app (isL_toC _ _) h3,fun q v hq => ?_⟩
  rw [List.getElem?_append] at hq
  split at hq
  ·exact h6 q v hq
  ·rename_i hlt
   have := h4 _ v hq
   rw [PV.length e h5] at this hlt
   rw [← this]
   congr 2
   have : i + (j + 1) = (i + j) + 1 := by omega
   rw [this,Nat.add_mul (i + j) 1]
   omega
theorem loadQ_snd (hE : EnvOk P E) {t : Nat} (ht : (E.ti t).ok = true) {e : Ty} {xs : List e.den} {i o : Nat} {x : Option R} {r : R} (h : loadQ (E.ti t) e xs i o x = some r) : x = some r ∧
  ∀ {Z : Nat → Prop} {w : World} {σ : Nat → Sh} {b s : Nat},RowAt Z w b s e xs → i < xs.length →
   ∃ u,(Instr.loadAt t (.pointer (some ⟨b,s + i * e.sz + o,none⟩))).run P w = .ok u w ∧ VR Z w σ (loadL (E.ti t) e xs i o) [u] := by
 unfold loadQ at h
 split at h
 ·rename_i e' m hab
  split at h
  case isFalse => cases h
  rename_i hc
  obtain ⟨rfl,rfl⟩ := hc
  split at h
  case isFalse => cases h
  rename_i hm
  refine ⟨h,fun {Z w σ b s} hr hi => ?_⟩
  obtain ⟨h1,h2⟩ := (ti_ab hE ht).2 _ _ hab
  obtain ⟨l,h3,h4,h5,h6⟩ := cellsOf_VR (σ := σ) hr i m 0 (by omega)
  obtain ⟨u,h7,h8⟩ := run_loadVar (q := s + i * e'.sz + 0) hE ht h4 h5 (by omega) (fun j v hj => by simpa using h6 j v hj)
  refine ⟨u,h7,?_⟩
  unfold loadL
  rw [hab]
  unfold val at h8
  rw [if_pos h2] at h8
  have : (cellsOf e' xs i 0 m).take (E.ti t).size = cellsOf e' xs i 0 m := by
   have h9 := h4.len h5
   rw [h3,← h1] at h9
   rw [← h9]
   exact take_len h5 h4
  rw [this] at h8
  exact h8
 ·rename_i hab
  split at h
  case isFalse => cases h
  rename_i hm
  refine ⟨h,fun {Z w σ b s} hr hi => ?_⟩
  obtain ⟨l,h1,h2⟩ := hr i _ (rdE_of hi)
  have hl := PV.length e h1
  obtain ⟨h3,h4⟩ := (PV.toC (σ := σ) e h1).drop (n := o) (isL_toC _ _)
  obtain ⟨u,h7,h8⟩ := run_loadVar (b := b) (q := s + i * e.sz + o) hE ht h3 h4 (by rw [List.length_drop]; omega) (fun j v hj => by
   rw [List.getElem?_drop] at hj
   have := h2 _ v hj
   rw [← this]
   congr 2
   omega)
  refine ⟨u,h7,?_⟩
  unfold loadL
  rw [hab]
  exact h8
where
 take_len {Z : Nat → Prop} {w : World} {σ : Nat → Sh} : ∀ {cs : AV} {l : List Value},isL cs = true → VR Z w σ cs l → cs.take cs.len = cs
  | .e0,_,_,_ => rfl
  | .cn a b,_,_,h => by
   obtain ⟨v,r,rfl,h1,h2,il⟩ := h
   simp only [AV.len,AV.take]
   rw [take_len il h2]
theorem loadE_snd (hE : EnvOk P E) {t : Nat} {x : AV} {K : Eff → Option R} {r : R} (h : loadE E hp t x K = some r) : ∃ e,K e = some r ∧ e.wr = [] ∧ e.nw = [] ∧
  ∀ {hp' : Nat → Ob} {Z : Nat → Prop} {w : World} {σ : Nat → Sh} {a : Value},MR gv Z w σ hp' → (∀ h ∈ e.rd,hp' h = hp h) → VR Z w σ x [a] →
   ∃ u,(Instr.loadAt t a).run P w = .ok u w ∧ VR Z w σ e.v [u] := by
 unfold loadE at h
 cases ht : (E.ti t).ok
 ·rw [ht] at h
  cases h
 rw [ht] at h
 simp only [Bool.not_true,cond_false] at h
 split at h
 ·rename_i g i o
  split at h
  ·rename_i cs hg
   split at h
   case isFalse => cases h
   rename_i hc
   obtain ⟨rfl,hc⟩ := hc
   refine ⟨_,h,rfl,rfl,fun m hr hx => ?_⟩
   obtain ⟨b,c,el,hs,hb,_,hv,il⟩ := m.B (h := g) (by rw [hr g (by simp)]; exact hg)
   obtain ⟨v,e1,hv'⟩ := hx
   cases e1
   rw [hs] at hv'
   obtain ⟨_,rfl⟩ := hv'
   obtain ⟨h1,h2⟩ := hv.drop (n := o) il
   have hl := hv.len il
   exact run_loadVar hE ht h1 h2 (by rw [List.length_drop]; omega) (fun j v hj => by
    rw [List.getElem?_drop] at hj
    simpa [World.cell?,hb] using hj)
  ·rename_i e xs hg
   obtain ⟨h,hld⟩ := loadQ_snd hE ht h
   refine ⟨_,h,rfl,rfl,fun m hr hx => ?_⟩
   obtain ⟨p,hs,ho⟩ := m.L (h := g) (by rw [hr g (by simp)]; exact hg)
   obtain ⟨v,e1,hv⟩ := hx
   cases e1
   rw [hs] at hv
   obtain ⟨b,s,m',rfl,rfl,hj⟩ := hv
   exact hld ho.2.2.2 hj
  ·rename_i e xs hg
   obtain ⟨h,hld⟩ := loadQ_snd hE ht h
   refine ⟨_,h,rfl,rfl,fun m hr hx => ?_⟩
   obtain ⟨p,hs,ho⟩ := m.F (h := g) (by rw [hr g (by simp)]; exact hg)
   obtain ⟨v,e1,hv⟩ := hx
   cases e1
   rw [hs] at hv
   obtain ⟨b,s,m',rfl,rfl,hj⟩ := hv
   rcases ho with ho | ⟨b',s',m'',e1,hz,ho⟩
   ·subst ho
    simp at hj
   ·cases e1
    exact hld ho hj
  ·rename_i e ids st u pd hg
   split at h
   case isFalse => cases h
   rename_i hc
   obtain ⟨rfl,hsz,hag⟩ := hc
   refine ⟨_,h,rfl,rfl,fun {hp' Z w σ a} m hr hx => ?_⟩
   obtain ⟨p,q,hs,hq,hn⟩ := m.N (h := g) (by rw [hr g (by simp)]; exact hg)
   obtain ⟨v,e1,hv⟩ := hx
   cases e1
   rw [hs] at hv
   obtain ⟨b,s,m',rfl,rfl,hj⟩ := hv
   obtain ⟨b',s',m'',x,e1,hcell,hh⟩ := hn.head i hj
   cases e1
   refine ⟨x,?_,x,rfl,?_⟩
   ·have ha := run_agg (w := w) (hE.tab t ht)
    simp only [Nat.mul_one,Nat.add_zero]
    simp [Instr.loadAt,Instr.sureAddr,loadVar,ha,hag,run_load,hcell]
   ·rw [hs]
    have hh0 := hh
    obtain ⟨a0,c0,rfl,_⟩ := hh0
    refine ⟨⟨by omega,rfl⟩,fun _ => ?_⟩
    rw [hn.sz]
    exact ⟨hh,by simp [ofs,slenN]⟩
  ·cases h
 ·rename_i cs o
  split at h
  case isFalse => cases h
  rename_i hc
  refine ⟨_,h,rfl,rfl,fun m hr hx => ?_⟩
  obtain ⟨b,s,c,e1,hz,hcell,hv,il⟩ := hx
  cases e1
  obtain ⟨h1,h2⟩ := hv.drop (n := o) il
  have hl := hv.len il
  exact run_loadVar hE ht h1 h2 (by rw [List.length_drop]; omega) (fun j v hj => by
   rw [List.getElem?_drop] at hj
   have := hcell _ v hj
   rw [← this]
   congr 2
   omega)
 ·rename_i e xs i o
  obtain ⟨h,hld⟩ := loadQ_snd hE ht h
  refine ⟨_,h,rfl,rfl,fun m hr hx => ?_⟩
  obtain ⟨b,s,e1,hz,hi,hrow⟩ := hx
  cases e1
  exact hld hrow hi
 ·rename_i g id j o u
  split at h
  ·rename_i e ids st u' pd hg
   split at h
   case isFalse => cases h
   rename_i hu
   obtain ⟨h,hld⟩ := loadQ_snd hE ht h
   refine ⟨_,h,rfl,rfl,fun m hr hx => ?_⟩
   obtain ⟨p,q,hs,hq,hn⟩ := m.N (h := g) (by rw [hr g (by simp)]; exact hg)
   obtain ⟨v,e1,hv⟩ := hx
   cases e1
   rw [hs] at hv
   obtain ⟨_,hv⟩ := hv
   obtain ⟨b,s,m',e1,rfl,hj⟩ := hv (by rw [hq,hu])
   rw [hn.lenOf] at hj
   have hid : id < st.length := by
    rcases Nat.lt_or_ge id st.length with hi | hi
    ·exact hi
    ·simp [rowOf,List.getElem?_eq_none hi] at hj
   have ho := hn.own id (rowOf st id) (by simp [rowOf,hid])
   rw [e1] at ho
   rw [hn.sz]
   exact hld ho.2.2.2 hj
  ·cases h
 ·cases h
end
section
variable {P : Program} {Z : Nat → Prop} {w : World} {σ : Nat → Sh}
theorem oneA_VR {v : AV} {u : Value} (h : VR Z w σ v [u]) (h1 : oneA v = true) : u.oneCell' = true := by
 cases v <;> simp only [oneA,Bool.false_eq_true] at h1
 case nil => cases h; rfl
 case p t x => exact PV.one t h.2 u (by simp)
 case k v =>
  cases h
  cases u <;> first | rfl | cases h1
 case sl => obtain ⟨v,e,hv⟩ := h; cases e; exact hv.one
 case ptr => obtain ⟨v,e,hv⟩ := h; cases e; exact hv.one
 case row => obtain ⟨v,e,hv⟩ := h; cases e; exact hv.one
 case prw => obtain ⟨v,e,hv⟩ := h; cases e; exact hv.one
 case pap => obtain ⟨v,e,hv⟩ := h; cases e; exact hv.one
 case clo => obtain ⟨c,e,_⟩ := h; cases e; rfl
 case rp => obtain ⟨b,s,c,e,_⟩ := h; cases e; rfl
 case rl => obtain ⟨b,s,e,_⟩ := h; cases e; rfl
theorem cells_one {u : Value} (h : u.oneCell' = true) : u.cells = #[u] := by
 cases u <;> first | rfl | cases h
theorem cells_VR {v : AV} {u : Value} (h : VR Z w σ v [u]) (h1 : cellsOk v = true) : VR Z w σ v.cells u.cells.toList ∧ isL v.cells = true := by
 by_cases ha : ∃ cs,v = .agg cs
 ·obtain ⟨cs,rfl⟩ := ha
  obtain ⟨c,e,h2,h3⟩ := h
  cases e
  exact ⟨h2,h3⟩
 ·have h2 : oneA v = true := by
   cases v <;> first | exact h1 | exact absurd ⟨_,rfl⟩ ha
  have h3 : v.cells = .cn v .e0 := by
   cases v <;> first | rfl | exact absurd ⟨_,rfl⟩ ha
  rw [h3,cells_one (oneA_VR h h2)]
  exact ⟨⟨u,[],rfl,h,rfl,rfl⟩,rfl⟩
theorem oneAll_VR : ∀ {cs : AV} {l : List Value},VR Z w σ cs l → oneAll cs = true → ∀ v ∈ l,v.oneCell' = true
 | .e0,_,h,_ => by cases h; simp
 | .cn a b,_,h,h1 => by
  obtain ⟨v,r,rfl,h2,h3,_⟩ := h
  simp only [oneAll,Bool.and_eq_true] at h1
  intro x hx
  rcases List.mem_cons.1 hx with rfl | hx
  ·exact oneA_VR h2 h1.1
  ·exact oneAll_VR h3 h1.2 x hx
theorem put_VR : ∀ {z vs : AV} {l m : List Value} {off : Nat},VR Z w σ z l → isL z = true → VR Z w σ vs m → isL vs = true → off + vs.len ≤ z.len →
  VR Z w σ (z.put off vs) (l.take off ++ m ++ l.drop (off + m.length)) ∧ isL (z.put off vs) = true ∧ (z.put off vs).len = z.len
 | .e0,.e0,_,_,off,h1,_,h3,_,_ => by cases h1; cases h3; cases off <;> exact ⟨by simp [AV.put,VR],rfl,rfl⟩
 | .e0,.cn v vs,_,_,off,_,_,_,_,h => by simp [AV.len] at h
 | .cn a b,.e0,l,m,0,h1,il,h3,_,_ => by cases h3; exact ⟨by simpa [AV.put] using h1,rfl,rfl⟩
 | .cn a b,.cn v vs,l,m,0,h1,_,h3,_,h => by
  obtain ⟨x,r,rfl,h4,h5,il⟩ := h1
  obtain ⟨y,q,rfl,h6,h7,il2⟩ := h3
  obtain ⟨h8,h9,h10⟩ := put_VR (off := 0) h5 il h7 il2 (by simp [AV.len] at h ⊢; omega)
  refine ⟨⟨y,_,rfl,h6,?_,h9⟩,rfl,by simp [AV.put,AV.len,h10]⟩
  simpa using h8
 | .cn a b,.e0,l,m,off + 1,h1,_,h3,il3,h => by
  obtain ⟨x,r,rfl,h4,h5,il⟩ := h1
  cases h3
  obtain ⟨h8,h9,h10⟩ := put_VR (off := off) (vs := .e0) (m := []) h5 il rfl rfl (by simp [AV.len] at h ⊢; omega)
  refine ⟨⟨x,_,rfl,h4,?_,h9⟩,rfl,by simp [AV.put,AV.len,h10]⟩
  simpa [Nat.add_right_comm] using h8
 | .cn a b,.cn v vs,l,m,off + 1,h1,_,h3,il3,h => by
  obtain ⟨x,r,rfl,h4,h5,il⟩ := h1
  obtain ⟨h8,h9,h10⟩ := put_VR (off := off) h5 il h3 il3 (by simp [AV.len] at h ⊢; omega)
  refine ⟨⟨x,_,rfl,h4,?_,h9⟩,rfl,by simp [AV.put,AV.len,h10]⟩
  simpa [Nat.add_right_comm] using h8
theorem fold_put : ∀ (vs : List Value) (off j : Nat) (c : Array Value),off + j + vs.length ≤ c.size →
  (vs.zipIdx j).foldl (fun cs q => cs.setIfInBounds (off + q.2) q.1) c = (c.toList.take (off + j) ++ vs ++ c.toList.drop (off + j + vs.length)).toArray
 | [],off,j,c,_ => by simp
 | v :: r,off,j,c,h => by
  have ih := fold_put r off (j + 1) (c.setIfInBounds (off + j) v) (by simp at h ⊢; omega)
  rw [List.zipIdx_cons,List.foldl_cons]
  simp only at ih ⊢
  rw [ih]
  congr 1
  have e := list_seg_step c.toList (off + j) v r (by simp at h ⊢; omega)
  simpa [Array.toList_setIfInBounds,Nat.add_assoc] using e
theorem fold_put_arr (vs c : Array Value) (off : Nat) (h : off + vs.size ≤ c.size) :
  vs.zipIdx.foldl (fun cs q => cs.setIfInBounds (off + q.2) q.1) c = (c.toList.take off ++ vs.toList ++ c.toList.drop (off + vs.size)).toArray := by
 have := fold_put vs.toList off 0 c (by simpa using h)
 rw [← Array.foldl_toList,Array.toList_zipIdx]
 simpa using this
def prs (Z : Nat → Prop) (w : World) (σ : Nat → Sh) : List (Nat × AV) → List (Nat × Value) → Prop
 | [],[] => True
 | a :: r,b :: s => a.1 = b.1 ∧ VR Z w σ a.2 [b.2] ∧ prs Z w σ r s
 | _,_ => False
theorem fillE_snd {pl : Nat → Option (Nat × Nat)} {pl' : Nat → Option (Nat × Nat)} (hpl : ∀ i q,pl i = some q → pl' i = some q) : ∀ {ps : List (Nat × AV)} {ps' : List (Nat × Value)} {z cs : AV} {c : Array Value},
  fillE z pl ps = some cs → VR Z w σ z c.toList → isL z = true → prs Z w σ ps ps' →
  ∃ d,Instr.fill pl' c ps' = some d ∧ VR Z w σ cs d.toList ∧ isL cs = true ∧ cs.len = z.len
 | [],[],z,cs,c,h,hz,il,_ => by
  simp only [fillE,Option.some.injEq] at h
  subst h
  exact ⟨c,rfl,hz,il,rfl⟩
 | (i,v) :: r,(j,u) :: r',z,cs,c,h,hz,il,hf => by
   obtain ⟨e,hu,hf⟩ := hf
   have e : i = j := e
   have hu : VR Z w σ v [u] := hu
   subst e
   simp only [fillE] at h
   split at h
   case h_2 => cases h
   rename_i off size hp
   split at h
   case isFalse => cases h
   rename_i hc
   obtain ⟨h1,h2,h3⟩ := hc
   have h1 : v.cells.len = size := h1
   have h3 : cellsOk v = true := h3
   have h : fillE (z.put off v.cells) pl r = some cs := h
   obtain ⟨h4,h5⟩ : VR Z w σ v.cells u.cells.toList ∧ isL v.cells = true := cells_VR (v := v) (u := u) hu h3
   have h6 := h4.len h5
   have h7 := hz.len il
   rw [Array.length_toList] at h6 h7
   obtain ⟨h8,h9,h10⟩ := put_VR (off := off) hz il h4 h5 (by omega)
   obtain ⟨d,h11,h12,h13,h14⟩ := fillE_snd hpl (c := u.cells.zipIdx.foldl (fun cs q => cs.setIfInBounds (off + q.2) q.1) c) h
    (by rw [fold_put_arr _ _ _ (by omega)]; simpa using h8) h9 hf
   refine ⟨d,?_,h12,h13,h14.trans h10⟩
   simp only [Instr.fill,hpl _ _ hp]
   rw [if_neg (by simp; omega)]
   exact h11
end
def kv : List Value → List Bool → Prop
 | [],[] => True
 | .int _ _ :: r,true :: l => kv r l
 | .bool _ :: r,false :: l => kv r l
 | _,_ => False
def eqs : List Value → List Value → Option Bool
 | [],[] => some true
 | .int j x :: b,.int k y :: d => if j = k then (eqs b d).map (eqI x y) else none
 | .bool x :: b,.bool y :: d => (eqs b d).map (eqB x y)
 | _,_ => none
theorem kv_len : ∀ {xs : List Value} {l : List Bool},kv xs l → xs.length = l.length
 | [],[],_ => rfl
 | .int _ _ :: r,true :: l,h => by simp [kv_len (xs := r) h]
 | .bool _ :: r,false :: l,h => by simp [kv_len (xs := r) h]
theorem kv_int {xs : List Value} (h : kv xs [true]) : ∃ j x,xs = [.int j x] := by
 match xs,h with
 | .int j x :: [],_ => exact ⟨j,x,rfl⟩
 | .int j x :: .int k y :: r,h => exact h.elim
theorem kv_bool {xs : List Value} (h : kv xs [false]) : ∃ x,xs = [.bool x] := by
 match xs,h with
 | .bool x :: [],_ => exact ⟨x,rfl⟩
 | .bool x :: .bool y :: r,h => exact h.elim
theorem kv_app : ∀ {l m : List Bool} {xs : List Value},kv xs (l ++ m) → kv (xs.take l.length) l ∧ kv (xs.drop l.length) m
 | [],m,xs,h => ⟨by simp [kv],by simpa using h⟩
 | true :: l,m,.int _ _ :: r,h => by
  have := kv_app (l := l) (xs := r) h
  exact ⟨this.1,this.2⟩
 | false :: l,m,.bool _ :: r,h => by
  have := kv_app (l := l) (xs := r) h
  exact ⟨this.1,this.2⟩
theorem eqs_app : ∀ {l m : List Bool} {xs ys : List Value} {r : Bool},kv xs (l ++ m) → kv ys (l ++ m) → eqs xs ys = some r →
  ∃ a b,eqs (xs.take l.length) (ys.take l.length) = some a ∧ eqs (xs.drop l.length) (ys.drop l.length) = some b ∧ r = (a && b)
 | [],m,xs,ys,r,_,_,h => ⟨true,r,by simp [eqs],by simpa using h,by simp⟩
 | true :: l,m,.int j x :: xs,.int k y :: ys,r,h1,h2,h => by
  simp only [eqs] at h
  split at h
  case isFalse => cases h
  rename_i hk
  obtain ⟨r',h3,rfl⟩ := Option.map_eq_some_iff.1 h
  obtain ⟨a,b,h4,h5,rfl⟩ := eqs_app (l := l) (m := m) (xs := xs) (ys := ys) h1 h2 h3
  refine ⟨eqI x y a,b,?_,h5,by simp [eqI,Bool.and_assoc]⟩
  simp only [List.length_cons,List.take_succ_cons,eqs,if_pos hk,h4,Option.map_some]
 | false :: l,m,.bool x :: xs,.bool y :: ys,r,h1,h2,h => by
  simp only [eqs] at h
  obtain ⟨r',h3,rfl⟩ := Option.map_eq_some_iff.1 h
  obtain ⟨a,b,h4,h5,rfl⟩ := eqs_app (l := l) (m := m) (xs := xs) (ys := ys) h1 h2 h3
  refine ⟨eqB x y a,b,?_,h5,by simp [eqB,Bool.and_assoc]⟩
  simp only [List.length_cons,List.take_succ_cons,eqs,h4,Option.map_some]
section
variable {P : Program}
def mkV (P : Program) (t : TypeId) (xs : List Value) : Value := match P.underlying t with
 | some (.struct _) => .agg xs.toArray
 | _ => xs.headD undef
theorem cqF_info {d : Nat} {t : TypeId} {l : List Bool} (h : cqF P d t = some l) : ∃ i,P.info? t = some i ∧ i.size = l.length ∧
  ((∃ fs,P.underlying t = some (.struct fs)) ∨ (i.size = 1 ∧ ∃ k,P.underlying t = some (.int k)) ∨ (i.size = 1 ∧ P.underlying t = some .bool)) := by
 cases d with
 | zero => cases h
 | succ d =>
  simp only [cqF] at h
  split at h
  ·rename_i k i hu hi
   split at h
   ·rename_i h1
    cases h
    exact ⟨i,hi,h1,.inr (.inl ⟨h1,k,hu⟩)⟩
   ·cases h
  ·rename_i i hu hi
   split at h
   ·rename_i h1
    cases h
    exact ⟨i,hi,h1,.inr (.inr ⟨h1,hu⟩)⟩
   ·cases h
  ·rename_i fs i hu hi
   split at h
   case isFalse => cases h
   split at h
   case h_2 => cases h
   split at h
   case isFalse => cases h
   rename_i h1
   cases h
   exact ⟨i,hi,h1.symm,.inl ⟨fs,hu⟩⟩
  ·cases h
theorem run_part_mkV {d : Nat} {t : TypeId} {l : List Bool} (h : cqF P d t = some l) (xs : List Value) (o : Nat) (hl : o + l.length ≤ xs.length) (w : World) :
  (part t xs.toArray o).run P w = .ok (mkV P t ((xs.drop o).take l.length)) w := by
 obtain ⟨i,h1,h2,h3⟩ := cqF_info h
 rcases h3 with ⟨fs,h3⟩ | ⟨h4,k,h3⟩ | ⟨h4,h3⟩
 ·simp [part,isAgg,run_underlying h3,sizeOf,typeInfo,h1,h2,mkV,h3]
 ·have h5 : xs[o]? = some xs[o] := by simp [show o < xs.length by omega]
  have h6 : (xs.drop o).take 1 = [xs[o]] := by
   rw [List.drop_eq_getElem_cons (by omega)]
   rfl
  have h7 : l.length = 1 := by omega
  simp [part,isAgg,run_underlying h3,mkV,h3,h5,h7,h6]
 ·have h5 : xs[o]? = some xs[o] := by simp [show o < xs.length by omega]
  have h6 : (xs.drop o).take 1 = [xs[o]] := by
   rw [List.drop_eq_getElem_cons (by omega)]
   rfl
  have h7 : l.length = 1 := by omega
  simp [part,isAgg,run_underlying h3,mkV,h3,h5,h7,h6]
theorem eqFields_cq {d D : Nat} {xs ys : List Value} {w : World}
  (ih : ∀ (t : TypeId) (l : List Bool) (xs ys : List Value) (r : Bool),cqF P d t = some l → kv xs l → kv ys l → eqs xs ys = some r → (Op.equalIn D t (mkV P t xs) (mkV P t ys)).run P w = .ok r w) :
  ∀ (fs : List Field) (o : Nat) (l : List Bool) (r : Bool),cqL (cqF P d) fs o = some l → kv (xs.drop o) l → kv (ys.drop o) l → o ≤ xs.length → o ≤ ys.length → eqs (xs.drop o) (ys.drop o) = some r →
   (Op.eqFields D xs.toArray ys.toArray fs).run P w = .ok r w
 | [],o,l,r,h,h1,h2,h3,h4,h5 => by
  simp only [cqL,Option.some.injEq] at h
  subst h
  have e1 := kv_len h1
  have e2 := kv_len h2
  rw [List.eq_nil_of_length_eq_zero e1,List.eq_nil_of_length_eq_zero e2] at h5
  simp only [eqs,Option.some.injEq] at h5
  subst h5
  rfl
 | f :: fs,o,l,r,h,h1,h2,h3,h4,h5 => by
  simp only [cqL] at h
  split at h
  case isFalse => cases h
  rename_i hf
  obtain ⟨rfl,hn⟩ := hf
  split at h
  case h_2 => cases h
  rename_i m hm
  obtain ⟨l',hl',rfl⟩ := Option.map_eq_some_iff.1 h
  have k1 := kv_len h1
  have k2 := kv_len h2
  rw [List.length_drop,List.length_append] at k1 k2
  obtain ⟨p1,q1⟩ := kv_app h1
  obtain ⟨p2,q2⟩ := kv_app h2
  obtain ⟨a,b,e1,e2,rfl⟩ := eqs_app h1 h2 h5
  rw [List.drop_drop] at q1 q2 e2
  rw [List.drop_drop] at e2
  have ha := ih f.type m _ _ a hm p1 p2 e1
  have hb := eqFields_cq ih fs (f.offset + m.length) l' b hl' q1 q2 (by omega) (by omega) e2
  have r1 := run_part_mkV hm xs f.offset (by omega) w
  have r2 := run_part_mkV hm ys f.offset (by omega) w
  simp only [Op.eqFields,hn,ne_eq,not_false_eq_true,if_true,Sem.run_bind,r1,r2,Result.andThen_ok,ha]
  cases a
  ·simp
  ·simp [hb]
theorem equalIn_cq : ∀ (d D : Nat),d ≤ D → ∀ (t : TypeId) (l : List Bool) (xs ys : List Value) (r : Bool) (w : World),cqF P d t = some l → kv xs l → kv ys l → eqs xs ys = some r →
  (Op.equalIn D t (mkV P t xs) (mkV P t ys)).run P w = .ok r w
 | 0,_,_,_,_,_,_,_,_,h,_,_,_ => by cases h
 | d + 1,0,hd,_,_,_,_,_,_,_,_,_,_ => by omega
 | d + 1,D + 1,hd,t,l,xs,ys,r,w,h,h1,h2,h3 => by
  simp only [cqF] at h
  split at h
  ·rename_i k i hu hi
   split at h
   case isFalse => cases h
   cases h
   obtain ⟨j,x,rfl⟩ := kv_int h1
   obtain ⟨k',y,rfl⟩ := kv_int h2
   ·simp only [eqs] at h3
    split at h3
    case isFalse => cases h3
    rename_i hk
    simp only [Option.map_some,Option.some.injEq,eqI,Bool.and_true] at h3
    subst hk h3
    simp [mkV,hu,Op.equalIn,run_underlying hu]
  ·rename_i i hu hi
   split at h
   case isFalse => cases h
   cases h
   obtain ⟨x,rfl⟩ := kv_bool h1
   obtain ⟨y,rfl⟩ := kv_bool h2
   ·simp only [eqs,Option.map_some,Option.some.injEq,eqB,Bool.and_true] at h3
    subst h3
    simp [mkV,hu,Op.equalIn,run_underlying hu]
  ·rename_i fs i hu hi
   split at h
   case isFalse => cases h
   rename_i hst
   split at h
   case h_2 => cases h
   rename_i l' hl'
   split at h
   case isFalse => cases h
   cases h
   have hf : P.fieldsOf t = fs := by simp [Program.fieldsOf,hu]
   have e1 : mkV P t xs = .agg xs.toArray := by simp [mkV,hu]
   have e2 : mkV P t ys = .agg ys.toArray := by simp [mkV,hu]
   rw [e1,e2,run_equalIn_struct w D t _ _ (by rw [hf]; exact hu) hst,hf]
   exact eqFields_cq (fun t l xs ys r a b c e => equalIn_cq d D (by omega) t l xs ys r w a b c e) fs.toList 0 l r hl' (by simpa using h1) (by simpa using h2) (by omega) (by omega) (by simpa using h3)
  ·cases h
end
section
variable {P : Program} {E : Env} {Z : Nat → Prop} {w : World} {σ : Nat → Sh}
theorem kdE_eq : ∀ {a b : List Bool},kdE a b = true → a = b
 | [],[],_ => rfl
 | true :: a,true :: b,h => by rw [kdE_eq (a := a) (b := b) h]
 | false :: a,false :: b,h => by rw [kdE_eq (a := a) (b := b) h]
theorem eqC_VR : ∀ {cs ds : AV} {xs ys : List Value} {r : Bool},eqC cs ds = some r → VR Z w σ cs xs → VR Z w σ ds ys → eqs xs ys = some r ∧ kv xs (kd cs) ∧ kv ys (kd cs) ∧ isL cs = true
 | .e0,.e0,_,_,r,h,h1,h2 => by
  simp only [eqC,Option.some.injEq] at h
  subst h
  cases h1; cases h2
  exact ⟨rfl,trivial,trivial,rfl⟩
 | .cn (.p (.int j) x) b,.cn (.p (.int k) y) d,_,_,r,h,h1,h2 => by
  simp only [eqC] at h
  split at h
  case isFalse => cases h
  rename_i hk
  obtain ⟨r',h3,rfl⟩ := Option.map_eq_some_iff.1 h
  obtain ⟨u,r1,rfl,h4,h5,_⟩ := h1
  obtain ⟨v,r2,rfl,h6,h7,_⟩ := h2
  rw [h4.intp,h6.intp]
  obtain ⟨h8,h9,h10,_⟩ := eqC_VR h3 h5 h7
  exact ⟨by simp only [eqs,if_pos hk,h8,Option.map_some],h9,h10,rfl⟩
 | .cn (.p .bool x) b,.cn (.p .bool y) d,_,_,r,h,h1,h2 => by
  simp only [eqC] at h
  obtain ⟨r',h3,rfl⟩ := Option.map_eq_some_iff.1 h
  obtain ⟨u,r1,rfl,h4,h5,_⟩ := h1
  obtain ⟨v,r2,rfl,h6,h7,_⟩ := h2
  rw [h4.boolp,h6.boolp]
  obtain ⟨h8,h9,h10,_⟩ := eqC_VR h3 h5 h7
  exact ⟨by simp only [eqs,h8,Option.map_some],h9,h10,rfl⟩
theorem eqAgg_snd (hE : EnvOk P E) {t : Nat} (hc : (E.ti t).cq = true) (hok : (E.ti t).ok = true) {cs ds : AV} (hk : kdE (kd cs) (kd (E.ti t).z) = true) {r : Bool} (h : eqC cs ds = some r) {a b : Value}
  (ha : VR Z w σ (.agg cs) [a]) (hb : VR Z w σ (.agg ds) [b]) (hagg : (E.ti t).agg = true) (x y : Operand) :
  (do eqGuard .eql t x y a b; binOp .eql t a b).run P w = .ok (.bool r) w ∧ (do eqGuard .neq t x y a b; binOp .neq t a b).run P w = .ok (.bool (!r)) w := by
 obtain ⟨i,z,d,i1,i2,i3,i4,i5,i6,i7,i8,i9,i10,i11⟩ := tiChk_info (hE.tab t hok)
 obtain ⟨c1,c2⟩ := i11 hc
 obtain ⟨c,e,h1,_⟩ := ha
 cases e
 obtain ⟨c',e,h2,_⟩ := hb
 cases e
 obtain ⟨h3,h4,h5,_⟩ := eqC_VR h h1 h2
 rw [kdE_eq hk] at h4 h5
 have h6 := equalIn_cq 8 10000 (by omega) t _ _ _ r w c1 h4 h5 h3
 obtain ⟨i',j1,j2,j3⟩ := cqF_info c1
 have hm : ∀ c : Array Value,mkV P t c.toList = .agg c := by
  intro c
  rcases j3 with ⟨fs,j3⟩ | ⟨_,k,j3⟩ | ⟨_,j3⟩
  ·simp [mkV,j3]
  ·rw [i7] at j3
   cases j3
   unfold TI.agg at hagg
   cases hu : (E.ti t).u <;> rw [hu] at i8 hagg <;> simp [uChk] at i8 hagg
  ·rw [i7] at j3
   cases j3
   unfold TI.agg at hagg
   cases hu : (E.ti t).u <;> rw [hu] at i8 hagg <;> simp [uChk] at i8 hagg
 rw [hm,hm] at h6
 exact ⟨by simp only [Sem.run_bind,run_eqGuard_agg w _ t x y c c' c2,Result.andThen_ok,run_eql_struct,h6],by simp only [Sem.run_bind,run_eqGuard_agg w _ t x y c c' c2,Result.andThen_ok,run_neq_struct,h6]⟩
end
end Go.Proofs.YtkeiedikiiccpaaGreatDoor.Am
