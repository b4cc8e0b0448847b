/- The machine on typed data is sound: what it computes is what the model does. -/
import Derived.Test.YtkeiedikiiccpaaGreatDoorC8
set_option linter.all false
namespace Go.Proofs.YtkeiedikiiccpaaGreatDoor.Am
open Go
structure Inv (gv : Nat → AV) (nr : Nat) (Z0 : Nat → Prop) (w0 : World) (σ0 : Nat → Sh) (hp0 : Nat → Ob) (N : Nat) (s : St) (a : Act) (w : World) (Z : Nat → Prop) (σ : Nat → Sh) : Prop where
 sr : SR gv Z w σ s.tm s.hp a
 ext : Ext Z0 w0 σ0 hp0 Z w σ s.hp
 rt : ∀ h,h < nr → SleW (σ h) (σ0 h)
 rl : ∀ h,h < nr → σ0 h ≠ .un
 un : ∀ h,s.n ≤ h → σ h = .un
 sz : a.tmps.size = N
 df : a.defers = []
section
variable {gv : Nat → AV} {nr N : Nat} {Z0 Z Z' : Nat → Prop} {w0 w w' : World} {σ0 σ σ' : Nat → Sh} {hp0 hp hp' : Nat → Ob} {s s' : St} {a : Act}
theorem Inv.step (I : Inv gv nr Z0 w0 σ0 hp0 N s a w Z σ) {n' : Nat} (m : MR gv Z' w σ' hp') (x : Ext Z w σ s.hp Z' w σ' hp') (sl : ∀ h,Sle (σ' h) (σ h)) (hu : ∀ h,n' ≤ h → σ' h = .un) : Inv gv nr Z0 w0 σ0 hp0 N { tm := s.tm,hp := hp',n := n' } a w Z' σ' :=
 ⟨⟨m,fun t => (I.sr.tms t).mono ⟨x.z,fun _ _ => rfl⟩ fun h _ => sl h⟩,I.ext.trans x,fun h hh => ((sl h).w ((I.rt h hh).un (I.rl h hh))).trans (I.rt h hh),I.rl,hu,I.sz,I.df⟩
def At (s : St) (a : Act) (w : World) (σ : Nat → Sh) (t : Nat) (c : Option Nat) (u : Value) : Prop := match c with
 | none => u = a.tmps.getD t undef
 | some c => match s.tm t with
  | .agg _ => ∃ cs,a.tmps.getD t undef = .agg cs ∧ cs[c]? = some u
  | .ptr h _ _ => match s.hp h with
   | .B _ => ∃ b k cc el,σ h = .B b k ∧ w.heap[b]? = some (.cells cc el (0,0)) ∧ cc[c]? = some u
   | _ => False
  | _ => False
theorem getP_at (h : SR gv Z w σ s.tm s.hp a) {t : Nat} {c : Option Nat} {v : AV} (hs : setP s t c v = some s') : ∃ u,At s a w σ t c u ∧ VR Z w σ (getP s t c) [u] := by
 cases c with
 | none => exact ⟨_,rfl,h.tms t⟩
 | some c =>
  simp only [setP] at hs
  simp only [At,getP]
  split at hs
  ·rename_i cs ht
   split at hs
   case isFalse => cases hs
   rename_i hc
   have hv := h.tms t
   rw [ht] at hv
   obtain ⟨c',e,hv,il⟩ := hv
   simp only [List.cons.injEq,and_true] at e
   obtain ⟨u,h1,h2⟩ := hv.nth hc
   rw [ht]
   exact ⟨u,⟨c',e,by simpa using h1⟩,h2⟩
  ·rename_i g i k ht
   split at hs
   case h_2 => cases hs
   rename_i cs hg
   split at hs
   case isFalse => cases hs
   rename_i hc
   obtain ⟨b,c0,el,h1,h2,h3,h4,h5⟩ := h.mem.B hg
   obtain ⟨u,h6,h7⟩ := h4.nth hc.2
   rw [ht]
   simp only [hg]
   exact ⟨u,⟨b,_,c0,el,h1,h2,by simpa using h6⟩,h7⟩
  ·cases hs
theorem splice_same {l : List Value} {c : Nat} {u : Value} (h : l[c]? = some u) : l.take c ++ [u] ++ l.drop (c + 1) = l := by
 obtain ⟨h1,h2⟩ := List.getElem?_eq_some_iff.1 h
 rw [List.append_assoc,List.singleton_append,← h2,List.getElem_cons_drop,List.take_append_drop]
theorem setP_snd (h : SR gv Z w σ s.tm s.hp a) {t : Nat} {c : Option Nat} {v : AV} {u : Value} (hat : At s a w σ t c u) (hv : VR Z w σ v [u]) (hs : setP s t c v = some s') :
  SR gv Z w σ s'.tm s'.hp a ∧ s'.n = s.n ∧ Ext Z w σ s.hp Z w σ s'.hp := by
 cases c with
 | none =>
  simp only [setP,Option.some.injEq] at hs
  subst hs
  refine ⟨⟨h.mem,fun t' => ?_⟩,rfl,Ext.refl _ _ _ _⟩
  have hat : u = a.tmps.getD t undef := hat
  by_cases e : t' = t
  ·subst e
   show VR Z w σ (upd s.tm t' v t') _
   rw [upd_same,← hat]
   exact hv
  ·show VR Z w σ (upd s.tm t v t') _
   rw [upd_ne _ _ e]
   exact h.tms t'
 | some c =>
  simp only [setP] at hs
  simp only [At] at hat
  split at hs
  ·rename_i cs ht
   split at hs
   case isFalse => cases hs
   rename_i hc
   simp only [Option.some.injEq] at hs
   subst hs
   rw [ht] at hat
   obtain ⟨c',e1,e2⟩ := hat
   have hv' := h.tms t
   rw [ht,e1] at hv'
   obtain ⟨c'',e,hv',il⟩ := hv'
   cases e
   obtain ⟨p1,p2,p3⟩ := put_VR (off := c) (vs := .cn v .e0) (m := [u]) hv' il ⟨u,[],rfl,hv,rfl,rfl⟩ rfl (by simp [AV.len]; omega)
   rw [List.length_singleton,splice_same (by simpa using e2)] at p1
   refine ⟨⟨h.mem,fun t' => ?_⟩,rfl,Ext.refl _ _ _ _⟩
   by_cases e : t' = t
   ·subst e
    show VR Z w σ (upd s.tm t' _ t') _
    rw [upd_same,e1]
    exact ⟨c',rfl,p1,p2⟩
   ·show VR Z w σ (upd s.tm t _ t') _
    rw [upd_ne _ _ e]
    exact h.tms t'
  ·rename_i g i k ht
   split at hs
   case h_2 => cases hs
   rename_i cs hg
   split at hs
   case isFalse => cases hs
   rename_i hc
   simp only [Option.some.injEq] at hs
   subst hs
   rw [ht] at hat
   simp only [hg] at hat
   obtain ⟨b,k',cc,el,e1,e2,e3⟩ := hat
   obtain ⟨b',c0,el',h1,h2,h3,h4,h5⟩ := h.mem.B hg
   rw [e1] at h1
   cases h1
   rw [e2] at h2
   cases h2
   obtain ⟨p1,p2,p3⟩ := put_VR (off := c) (vs := .cn v .e0) (m := [u]) h4 h5 ⟨u,[],rfl,hv,rfl,rfl⟩ rfl (by simp [AV.len]; omega)
   rw [List.length_singleton,splice_same (by simpa using e3)] at p1
   have hst := MR.step (w' := w) (Z' := Z) (σ' := σ) (hp' := upd s.hp g (.B (cs.put c (.cn v .e0)))) h.mem (· = g) (fun g h => g = h) (fun _ _ => False) rfl rfl rfl (Nat.le_refl _) (fun _ _ _ => rfl) (fun _ h => h) (fun _ h => .inl h) h.mem.zlt (fun _ => .same _)
    (fun j hj => ⟨upd_ne _ _ hj,rfl,fun b hb => ⟨rfl,(h.mem.olt ⟨j,hb⟩).2⟩⟩)
    (fun j hj => by
     subst hj
     rw [upd_same]
     exact ⟨fun _ => ⟨b,cc,el,by rw [e1,p3],e2,h3,p1,p2⟩,fun e => (by rw [e1] at e; cases e),fun b' hb' => .inl ⟨j,rfl,by rw [hg,e1]; rw [e1] at hb'; exact hb'⟩⟩)
    (fun _ _ => rfl) (fun _ _ _ e1 e2 => e1.symm.trans e2) (fun _ _ h => h.elim) (fun _ _ _ h => h.elim)
   exact ⟨⟨hst.1,h.tms⟩,rfl,hst.2⟩
  ·cases hs
theorem At.kept {t : Nat} {c : Option Nat} {u : Value} (h : At s a w σ t c u) (ht : s'.tm = s.tm) (hb : ∀ g cs,s.hp g = .B cs → s'.hp g = .B cs ∧ σ' g = σ g) : At s' a w σ' t c u := by
 cases c with
 | none => exact h
 | some c =>
  simp only [At] at h ⊢
  rw [ht]
  split
  ·rename_i cs hc
   rw [hc] at h
   exact h
  ·rename_i g i k hc
   rw [hc] at h
   simp only at h
   split at h
   ·rename_i cs hg
    obtain ⟨e1,e2⟩ := hb g cs hg
    simp only [e1]
    obtain ⟨b,k',cc,el,h1,h2,h3⟩ := h
    exact ⟨b,k',cc,el,e2.trans h1,h2,h3⟩
   ·exact h.elim
  ·rename_i h1 h2
   split at h
   ·rename_i cs hc
    exact absurd hc (h1 cs)
   ·rename_i g i k hc
    exact absurd hc (h2 g i k)
   ·exact h
theorem B_same (m : MR gv Z w σ hp) (m' : MR gv Z' w' σ' hp') (sl : ∀ h,Sle (σ' h) (σ h)) {g : Nat} {cs : AV} (h : hp g = .B cs) (h' : hp' g = .B cs) : σ' g = σ g := by
 obtain ⟨b,c,el,e1,_⟩ := m.B h
 obtain ⟨b',c',el',e2,_⟩ := m'.B h'
 have := sl g
 rw [e1,e2] at this ⊢
 cases this
 rfl
theorem MR.bare (m : MR gv Z w σ hp) {n : Nat} (hn : σ n = .un) {sh : Sh} {ob : Ob} (hs : sh ≠ .un) (hor : OR Z w (upd σ n sh) ob sh) (hbl : ∀ b,¬ blks ob sh b) :
  MR gv Z w (upd σ n sh) (upd hp n ob) ∧ Ext Z w σ hp Z w (upd σ n sh) (upd hp n ob) ∧ (∀ h,Sle (upd σ n sh h) (σ h)) := by
 have hsle : ∀ h,Sle (upd σ n sh h) (σ h) := fun h => by
  by_cases hh : h = n
  ·subst hh
   rw [hn]
   exact .new _
  ·rw [upd_ne _ _ hh]
   exact .same _
 have hst := MR.step (σ' := upd σ n sh) (hp' := upd hp n ob) (Z' := Z) (w' := w) m (· = n) (fun g h => g = h) (fun _ _ => False) rfl rfl rfl (Nat.le_refl _) (fun _ _ _ => rfl) (fun _ h => h) (fun b hb => .inl hb) m.zlt hsle
  (fun h hh => ⟨upd_ne _ _ hh,upd_ne _ _ hh,fun b hb => ⟨rfl,(m.olt ⟨h,hb⟩).2⟩⟩)
  (fun h hh => by
   subst hh
   rw [upd_same,upd_same]
   exact ⟨fun _ => hor,fun e => absurd e hs,fun b hb => absurd hb (hbl b)⟩)
  (fun _ _ => rfl) (fun g h h' e1 e2 => e1.symm.trans e2) (fun _ _ h => h.elim) (fun _ _ _ h => h.elim)
 exact ⟨hst.1,hst.2,hsle⟩
theorem mkL_nil (e : Ty) : ∃ sh,sh ≠ .un ∧ (∀ b,¬ blks (mkL e []) sh b) ∧ (∀ Z w σ,OR Z w σ (mkL e []) sh) ∧ ∀ h,HV sh (.sl h none none) (.slice none 0 0) := by
 have flat : ∃ sh,sh ≠ .un ∧ (∀ b,¬ blks (.L e []) sh b) ∧ (∀ Z w σ,OR Z w σ (.L e []) sh) ∧ ∀ h,HV sh (.sl h none none) (.slice none 0 0) :=
  ⟨.S e.sz 0 none none,by simp,fun _ h => h,fun _ _ _ => ⟨none,rfl,rfl⟩,fun _ => ⟨⟨none,0,rfl,Nat.le_refl _,.inl rfl⟩,by simp [ofs,slenN]⟩⟩
 have rows : ∀ e' : Ty,∃ sh,sh ≠ .un ∧ (∀ b,¬ blks (.N e' none [] 0 none) sh b) ∧ (∀ Z w σ,OR Z w σ (.N e' none [] 0 none) sh) ∧ ∀ h,HV sh (.sl h none none) (.slice none 0 0) := fun e' =>
  ⟨.S 1 0 none (some { v := 0,sz := e'.sz,row := fun _ => (none,0),pd := none }),by simp,(fun b h => by
   rcases h with h | ⟨i,hi,_⟩ | ⟨h,_⟩
   ·exact h
   ·simp at hi
   ·cases h),fun Z w σ => ⟨none,_,rfl,rfl,{ sz := rfl,out := fun _ _ => rfl,len := fun i xs hx => (by simp at hx),own := fun i xs hx => (by simp at hx),head := fun i hi => (by simp [numOf] at hi),blk := fun _ _ _ h => (by cases h),off := fun _ _ h => h.elim,sep := fun _ i _ hi => (by simp at hi),pd0 := fun _ => rfl,pd1 := fun _ _ h => (by cases h) }⟩,
   fun _ => ⟨⟨none,0,rfl,Nat.le_refl _,.inl rfl⟩,by simp [ofs,slenN]⟩⟩
 cases e with
 | sl e' => cases e' with
  | int k => exact rows _
  | bool => exact rows _
  | _ => exact flat
 | _ => exact flat
theorem frz_obj {hp : Nat → Ob} : ∀ {v v' : AV} {fs : List Nat},frz hp v = some (v',fs) → ∀ g ∈ fs,∀ cs,hp g ≠ .B cs
 | .sl h off len,v',fs,e,g,hg,cs => by
  simp only [frz] at e
  split at e
  ·rename_i hh; cases e; simp only [List.mem_singleton] at hg; rw [hg,hh]; simp
  ·rename_i hh; cases e; simp only [List.mem_singleton] at hg; rw [hg,hh]; simp
  ·rename_i hh; cases e; simp only [List.mem_singleton] at hg; rw [hg,hh]; simp
  ·cases e
 | .p t x,v',fs,e,g,hg,cs => by cases e; cases hg
 | .nil,v',fs,e,g,hg,cs => by cases e; cases hg
 | .e0,v',fs,e,g,hg,cs => by cases e; cases hg
 | .cn a b,v',fs,e,g,hg,cs => by
  simp only [frz] at e
  split at e
  case h_2 => cases e
  rename_i a' l1 ha
  split at e
  case h_2 => cases e
  rename_i b' l2 hb
  cases e
  rcases List.mem_append.1 hg with hg | hg
  ·exact frz_obj ha g hg cs
  ·exact frz_obj hb g hg cs
 | .agg c,v',fs,e,g,hg,cs => by
  simp only [frz] at e
  split at e
  case h_2 => cases e
  rename_i c' l1 hc
  cases e
  exact frz_obj hc g hg cs
 | .any,_,_,e,_,_,_ => by cases e
 | .k _,_,_,e,_,_,_ => by cases e
 | .ptr _ _ _,_,_,e,_,_,_ => by cases e
 | .row _ _ _ _ _,_,_,e,_,_,_ => by cases e
 | .prw _ _ _ _ _,_,_,e,_,_,_ => by cases e
 | .pap _ _,_,_,e,_,_,_ => by cases e
 | .tup _,_,_,e,_,_,_ => by cases e
 | .clo _ _,_,_,e,_,_,_ => by cases e
 | .rp _ _,_,_,e,_,_,_ => by cases e
 | .rl _ _ _ _,_,_,e,_,_,_ => by cases e
theorem MR.rename (m : MR gv Z w σ hp) (hgv : ∀ g,hs (gv g) = []) {ord : List Nat} (hnd : ord.Nodup) (hlive : ∀ h ∈ ord,σ h ≠ .un) :
  ∃ σc : Nat → Sh,(∀ i h,ord[i]? = some h → σc i = shCo (hp h) (σ h)) ∧ (∀ i,ord.length ≤ i → σc i = .un) ∧ (∀ i,i < ord.length → σc i ≠ .un) ∧ MR gv Z w σc (obsF (ord.map fun h => renO (fun h => idxOf h ord 0) (vers hp) (hp h))) ∧
   (∀ b,owned σc (obsF (ord.map fun h => renO (fun h => idxOf h ord 0) (vers hp) (hp h))) b → owned σ hp b) ∧ ∀ {v : AV} {l : List Value},VR Z w σ v l → VR Z w σc (ren (fun h => idxOf h ord 0) (vers hp) v) l := by
 have hidx : ∀ h j,idxOf h ord 0 = some j → ord[j]? = some h := fun h j e => by
  obtain ⟨k,e1,e2⟩ := idxOf_some e
  have : j = k := by omega
  rw [this]
  exact e2
 obtain ⟨σc,hσcd⟩ : ∃ σc : Nat → Sh,(fun i => match ord[i]? with | some h => shCo (hp h) (σ h) | none => Sh.un) = σc := ⟨_,rfl⟩
 have hσc : ∀ i h,ord[i]? = some h → σc i = shCo (hp h) (σ h) := fun i h e => by rw [← hσcd]; simp only [e]
 have hσcn : ∀ i,ord[i]? = none → σc i = .un := fun i e => by rw [← hσcd]; simp only [e]
 have hrenc : ∀ g j,idxOf g ord 0 = some j → RenOk (vers hp g) (σ g) (σc j) := fun g j e => by
  rw [hσc j g (hidx g j e)]
  exact renOk_Co fun hd sz k p q hs => vers_ok (hp := hp) m rfl hd hs
 have hins : ∀ i h,ord[i]? = some h → obsF (ord.map fun h => renO (fun h => idxOf h ord 0) (vers hp) (hp h)) i = renO (fun h => idxOf h ord 0) (vers hp) (hp h) := fun i h e => by
  simp only [obsF,List.getD_eq_getElem?_getD,List.getElem?_map,e]
  rfl
 have hinn : ∀ i,ord[i]? = none → obsF (ord.map fun h => renO (fun h => idxOf h ord 0) (vers hp) (hp h)) i = .dead := fun i e => by
  simp only [obsF,List.getD_eq_getElem?_getD,List.getElem?_map,e]
  rfl
 have hobc : ∀ i h,ord[i]? = some h → OR Z w σc (renO (fun h => idxOf h ord 0) (vers hp) (hp h)) (shCo (hp h) (σ h)) ∧ ∀ b,blks (renO (fun h => idxOf h ord 0) (vers hp) (hp h)) (shCo (hp h) (σ h)) b → blks (hp h) (σ h) b := fun i h e => by
  obtain ⟨h3,_,h4,_⟩ := renO_OR (f := fun h => idxOf h ord 0) (c := vers hp) (σ' := σc) (m.ob h (hlive h (List.mem_of_getElem? e))) fun g _ j hj => hrenc g j hj
  exact ⟨h3,h4⟩
 have hbl : ∀ i b,blks (obsF (ord.map fun h => renO (fun h => idxOf h ord 0) (vers hp) (hp h)) i) (σc i) b → ∃ h,ord[i]? = some h ∧ blks (hp h) (σ h) b := fun i b hb => by
  cases e : ord[i]? with
  | none => rw [hinn i e] at hb; cases hs : σc i <;> rw [hs] at hb <;> exact hb.elim
  | some h =>
   rw [hins i h e,hσc i h e] at hb
   exact ⟨h,rfl,(hobc i h e).2 b hb⟩
 refine ⟨σc,hσc,fun i hi => hσcn i (List.getElem?_eq_none_iff.2 hi),fun i hi => ?_,⟨fun i hi => ?_,fun i hi => ?_,fun i i' b h1 h2 => ?_,m.zlt,fun g => (m.gl g).free (hgv g) (Kept.refl Z w)⟩,fun b ⟨i,hb⟩ => ?_,fun hv => ren_VR hv fun h _ j hj => hrenc h j hj⟩
 ·have e : ord[i]? = some ord[i] := by simp [hi]
  rw [hσc i _ e]
  exact shCo_ne (hlive _ (by simp))
 ·cases e : ord[i]? with
  | none => exact absurd (hσcn i e) hi
  | some h =>
   rw [hins i h e,hσc i h e]
   exact (hobc i h e).1
 ·cases e : ord[i]? with
  | none => exact hinn i e
  | some h =>
   rw [hσc i h e] at hi
   exact absurd hi (shCo_ne (hlive h (List.mem_of_getElem? e)))
 ·obtain ⟨h,e,h3⟩ := hbl i b h1
  obtain ⟨h',e',h4⟩ := hbl i' b h2
  have := m.sep h h' b h3 h4
  subst this
  exact nodup_get hnd e e'
 ·obtain ⟨h,_,h3⟩ := hbl i b hb
  exact ⟨h,h3⟩
theorem Ext.sub (x : Ext Z0 w0 σ0 hp0 Z w σ hp) (h : ∀ b,owned σ' hp' b → owned σ hp b) : Ext Z0 w0 σ0 hp0 Z w σ' hp' := ⟨x.os,x.tape,x.out,x.size,x.same,x.z,x.zn,fun b hb => x.own b (h b hb)⟩
theorem shCo_w {o : Ob} {s s0 : Sh} (h : SleW s s0) (hs : s0 ≠ .un) : SleW (shCo o s) s0 := by
 have hn := h.un hs
 have : ∀ s,SleW s s0 → SleW (shC s) s0 := fun s h => by
  cases s with
  | S sz n p r => cases r with
   | none => exact h
   | some r => cases h with
    | same => exact .rows _ _ _ _ _
    | rows => exact .rows _ _ _ _ _
  | _ => exact h
 cases o with
 | dead => exact .dead _ hs
 | _ => exact this s h
theorem lk_map {f : Nat → AV} {t : Nat} : ∀ {ts : List Nat},lk (ts.map fun t => (t,f t)) t = if t ∈ ts then f t else .any
 | [] => by simp [lk]
 | x :: ts => by
  simp only [List.map_cons,lk]
  by_cases h : x = t
  ·subst h
   simp [Nat.beq_refl]
  ·have : Nat.beq x t = false := by
    cases hb : Nat.beq x t
    ·rfl
    ·exact absurd (Nat.eq_of_beq_eq_true hb) h
   rw [this,cond_false,lk_map]
   simp [Ne.symm h]
theorem slotsV_hs {tm : Nat → AV} {h : Nat} : ∀ {ts : List Nat},h ∈ hs (slotsV tm ts) → ∃ t ∈ ts,h ∈ hs (tm t)
 | x :: ts,hh => by
  simp only [slotsV,hs,List.mem_append] at hh
  rcases hh with hh | hh
  ·exact ⟨x,by simp,hh⟩
  ·obtain ⟨t,h1,h2⟩ := slotsV_hs hh
   exact ⟨t,by simp [h1],h2⟩
end
section
variable {gv : Nat → AV} {nr N : Nat} {Z0 Z Z1 : Nat → Prop} {w0 w : World} {σ0 σ σ1 : Nat → Sh} {hp0 : Nat → Ob} {s s1 s' : St} {a : Act}
theorem setP_same (ht : s1.tm = s.tm) (hB : ∀ h cs,s1.hp h = .B cs ↔ s.hp h = .B cs) {t : Nat} {c : Option Nat} {v : AV} (h : setP s1 t c v = some s') : ∃ s2,setP s t c v = some s2 := by
 cases c with
 | none => exact ⟨_,rfl⟩
 | some c =>
  simp only [setP,ht] at h ⊢
  split at h
  ·split at h
   ·rename_i hc
    exact ⟨_,by rw [if_pos hc]⟩
   ·cases h
  ·rename_i g i k hg
   split at h
   ·rename_i cs hb
    rw [(hB g cs).1 hb]
    split at h
    ·rename_i hc
     exact ⟨_,by simp only [if_pos hc]; rfl⟩
    ·cases h
   ·cases h
  ·cases h
theorem ghost_set (I : Inv gv nr Z0 w0 σ0 hp0 N s a w Z σ) (I1 : Inv gv nr Z0 w0 σ0 hp0 N s1 a w Z1 σ1) (ht : s1.tm = s.tm) (hB : ∀ h cs,s1.hp h = .B cs ↔ s.hp h = .B cs) (sl : ∀ h,Sle (σ1 h) (σ h)) {t : Nat} {c : Option Nat} {v : AV}
  (hv : ∀ u,VR Z w σ (getP s t c) [u] → VR Z1 w σ1 v [u]) (hs : setP s1 t c v = some s') : Inv gv nr Z0 w0 σ0 hp0 N s' a w Z1 σ1 := by
 obtain ⟨s2,h2⟩ := setP_same ht hB hs
 obtain ⟨u,h3,h4⟩ := getP_at I.sr h2
 obtain ⟨h5,h6,h7⟩ := setP_snd I1.sr (h3.kept ht fun g cs hg => ⟨(hB g cs).2 hg,B_same I.sr.mem I1.sr.mem sl hg ((hB g cs).2 hg)⟩) (hv u h4) hs
 exact ⟨h5,I1.ext.trans h7,I1.rt,I1.rl,fun h hh => I1.un h (by rw [h6] at hh; exact hh),I1.sz,I1.df⟩
theorem toF_notB (hp : Nat → Ob) (h : Nat) (cs : AV) : (toF hp h).2 ≠ .B cs := by
 unfold toF
 cases hp h with
 | N e ids st v pd => cases ids <;> simp
 | _ => simp
theorem mkL_notB (e : Ty) (xs : List e.den) (cs : AV) : mkL e xs ≠ .B cs := by
 cases e with
 | sl e' => cases e' <;> simp [mkL]
 | _ => simp [mkL]
theorem Rws.norm {e : Ty} {l : List Nat} {st : List (List e.den)} {pd : Option (Nat × List e.den)} {p : Pl} {r : NI} (h : Rws Z w e (some l) st pd p r) (hn : l.Nodup) (hl : ∀ i ∈ l,i < st.length) (v : Nat) :
  Rws Z w e none (l.map (rowOf st)) none p { v := v,sz := r.sz,row := fun j => match l[j]? with | some i => r.row i | none => (none,0),pd := none } := by
 have hrow : ∀ (j i : Nat),l[j]? = some i → (match l[j]? with | some i => r.row i | none => ((none : Pl),0)) = r.row i := fun j i e => by rw [e]
 have hget : ∀ j,j < l.length → ∃ i,l[j]? = some i ∧ i < st.length := fun j hj => ⟨l[j],by simp [hj],hl _ (by simp)⟩
 refine { sz := h.sz,out := fun j hj => ?_,len := fun j xs hx => ?_,own := fun j xs hx => ?_,head := fun j hj => ?_,blk := fun b s m e => ?_,off := fun b j hb hj hx => ?_,sep := fun b j k hj hk h1 h2 => ?_,pd0 := fun _ => rfl,pd1 := fun _ _ h => (by cases h) }
 ·rw [List.length_map] at hj
  simp only [List.getElem?_eq_none hj]
 ·rw [List.getElem?_map] at hx
  obtain ⟨i,h1,rfl⟩ := Option.map_eq_some_iff.1 hx
  simp only [h1]
  have hi := hl i (List.mem_of_getElem? h1)
  exact h.len i _ (by simp [rowOf,hi])
 ·rw [List.getElem?_map] at hx
  obtain ⟨i,h1,rfl⟩ := Option.map_eq_some_iff.1 hx
  simp only [h1]
  have hi := hl i (List.mem_of_getElem? h1)
  exact h.own i _ (by simp [rowOf,hi])
 ·simp only [numOf,List.length_map] at hj
  obtain ⟨b,s,m,x,e1,e2,e3⟩ := h.head j hj
  obtain ⟨i,h1,h2⟩ := hget j hj
  refine ⟨b,s,m,x,e1,e2,?_⟩
  have : idAt (some l) j = i := by simp [idAt,h1]
  rw [this] at e3
  show Hdr e.sz (match l[j]? with | some i => r.row i | none => ((none : Pl),0)).1 0 (match l[j]? with | some i => r.row i | none => ((none : Pl),0)).2 x
  rw [hrow j i h1]
  exact e3
 ·obtain ⟨h1,h2,h3⟩ := h.blk b s m e
  exact ⟨by simpa [numOf] using h1,h2,h3⟩
 ·rw [List.length_map] at hj
  obtain ⟨i,h1,h2⟩ := hget j hj
  simp only [h1] at hx
  exact h.off b i hb h2 hx
 ·rw [List.length_map] at hj hk
  obtain ⟨i,e1,e2⟩ := hget j hj
  obtain ⟨i',e3,e4⟩ := hget k hk
  simp only [e1] at h1
  simp only [e3] at h2
  have := h.sep b i i' e2 e4 h1 h2
  subst this
  exact nodup_get hn e1 e3
theorem gE_snd (hgv : ∀ g,hs (gv g) = []) {g : G} {K : St → Option FRes} {r : FRes} {s : St} (h : gE nr g s K = some r) : ∃ s',K s' = some r ∧ ∀ {N : Nat} {Z0 : Nat → Prop} {w0 : World} {σ0 : Nat → Sh} {hp0 : Nat → Ob} {a : Act} {w : World} {Z : Nat → Prop} {σ : Nat → Sh},
  Inv gv nr Z0 w0 σ0 hp0 N s a w Z σ → ∃ Z' σ',Inv gv nr Z0 w0 σ0 hp0 N s' a w Z' σ' := by
 cases g with
 | frz t c =>
  simp only [gE] at h
  split at h
  case h_2 => cases h
  rename_i v fs hf
  split at h
  case h_2 => cases h
  rename_i s' hs
  refine ⟨s',h,fun {N Z0 w0 σ0 hp0 a w Z σ} I => ?_⟩
  obtain ⟨u0,_,hvu⟩ : ∃ u,True ∧ VR Z w σ (getP s t c) [u] := by
   have hB0 : ∀ h cs,wrs s.hp (fs.map (toF s.hp)) h = .B cs ↔ s.hp h = .B cs := fun h cs => by
    rw [wrs_F]
    split
    ·rename_i hm
     exact ⟨fun e => absurd e (toF_notB s.hp h cs),fun e => absurd e (frz_obj hf h hm cs)⟩
    ·exact Iff.rfl
   obtain ⟨s2,h2⟩ := setP_same (s1 := { s with hp := wrs s.hp (fs.map (toF s.hp)) }) (s := s) rfl hB0 hs
   obtain ⟨u,_,h4⟩ := getP_at I.sr h2
   exact ⟨u,trivial,h4⟩
  have hB : ∀ h cs,wrs s.hp (fs.map (toF s.hp)) h = .B cs ↔ s.hp h = .B cs := fun h cs => by
   rw [wrs_F]
   split
   ·rename_i hm
    exact ⟨fun e => absurd e (toF_notB s.hp h cs),fun e => absurd e (frz_obj hf h hm cs)⟩
   ·exact Iff.rfl
  have hlive := (frz_VR (σ' := σ) I.sr.mem (ZF_kept I.sr.mem fs) hf (fun _ _ => rfl) (fun h hm b hb => .inr ⟨h,hm,hb⟩) hvu).2.1
  obtain ⟨σ1,m1,x1,s1,u1,_,_⟩ := I.sr.mem.frz fs hlive
  have I1 := I.step (n' := s.n) m1 x1 s1 fun h hh => (u1 h).2 (I.un h hh)
  exact ⟨_,σ1,ghost_set I I1 rfl hB s1 (fun u hu => (frz_VR (σ' := σ1) I.sr.mem (ZF_kept I.sr.mem fs) hf (fun _ _ => rfl) (fun h hm b hb => .inr ⟨h,hm,hb⟩) hu).1) hs⟩
 | own t c e =>
  simp only [gE] at h
  split at h
  ·rename_i hg
   split at h
   case h_2 => cases h
   rename_i s' hs
   refine ⟨s',h,fun {N Z0 w0 σ0 hp0 a w Z σ} I => ?_⟩
   have hun : σ s.n = .un := I.un s.n (Nat.le_refl _)
   obtain ⟨sh,h1,h2,h3,h4⟩ := mkL_nil e
   obtain ⟨m1,x1,s1⟩ := I.sr.mem.bare hun h1 (h3 Z w _) h2
   have I1 := I.step (n' := s.n + 1) m1 x1 s1 fun h hh => by rw [upd_ne _ _ (by omega)]; exact I.un h (by omega)
   have hB : ∀ h cs,upd s.hp s.n (mkL e []) h = .B cs ↔ s.hp h = .B cs := fun h cs => by
    by_cases hh : h = s.n
    ·subst hh
     rw [upd_same,I.sr.mem.un s.n hun]
     exact ⟨fun e' => absurd e' (mkL_notB e [] cs),fun e' => by cases e'⟩
    ·rw [upd_ne _ _ hh]
   refine ⟨_,_,ghost_set I I1 rfl hB s1 (fun u hu => ?_) hs⟩
   rw [hg] at hu
   cases hu
   refine ⟨_,rfl,?_⟩
   rw [upd_same]
   exact h4 _
  ·exact ⟨s,h,fun I => ⟨_,_,I⟩⟩
 | dat t c e =>
  simp only [gE] at h
  split at h
  ·rename_i hg
   split at h
   case h_2 => cases h
   rename_i s' hs
   refine ⟨s',h,fun {N Z0 w0 σ0 hp0 a w Z σ} I => ?_⟩
   refine ⟨Z,σ,ghost_set I I rfl (fun _ _ => Iff.rfl) (fun _ => .same _) (fun u hu => ?_) hs⟩
   rw [hg] at hu
   cases hu
   exact ⟨rfl,none,0,rfl,Nat.le_refl _,.inl rfl⟩
  ·exact ⟨s,h,fun I => ⟨_,_,I⟩⟩
 | shr t c =>
  simp only [gE] at h
  split at h
  ·exact ⟨s,h,fun I => ⟨_,_,I⟩⟩
  ·rename_i g off len hne hg
   split at h
   case h_2 => cases h
   rename_i e xs hob
   split at h
   case isFalse => cases h
   rename_i hnr
   split at h
   case h_2 => cases h
   rename_i s' hs
   refine ⟨s',h,fun {N Z0 w0 σ0 hp0 a w Z σ} I => ?_⟩
   have hun : σ s.n = .un := I.un s.n (Nat.le_refl _)
   obtain ⟨p,p1,p2⟩ := I.sr.mem.L hob
   have hgn : g ≠ s.n := fun e => by rw [e,hun] at p1; cases p1
   have hB : ∀ h cs,upd (upd s.hp g .dead) s.n (.L e (win xs off len)) h = .B cs ↔ s.hp h = .B cs := fun h cs => by
    by_cases hh : h = s.n
    ·subst hh
     rw [upd_same,I.sr.mem.un s.n hun]
     exact ⟨fun e' => (by cases e'),fun e' => by cases e'⟩
    ·rw [upd_ne _ _ hh]
     by_cases hg' : h = g
     ·subst hg'
      rw [upd_same,hob]
      exact ⟨fun e' => (by cases e'),fun e' => by cases e'⟩
     ·rw [upd_ne _ _ hg']
   obtain ⟨u0,hu0⟩ : ∃ u,VR Z w σ (getP s t c) [u] := by
    obtain ⟨s2,h2⟩ := setP_same (s1 := { s with hp := upd (upd s.hp g .dead) s.n (.L e (win xs off len)),n := s.n + 1 }) (s := s) rfl hB hs
    obtain ⟨u,_,h4⟩ := getP_at I.sr h2
    exact ⟨u,h4⟩
   rw [hg] at hu0
   obtain ⟨_,e1,hv⟩ := hu0
   cases e1
   rw [p1] at hv
   obtain ⟨_,hle⟩ := hv
   have hwl := win_len xs off len hle
   obtain ⟨p',q1,q2,q3⟩ : ∃ p' : Pl,Own Z w p' e (win xs off len) ∧ (∀ b,plB p' b → plB p b) ∧ ∀ u,Hdr e.sz p (ofs off) (slenN xs.length off len) u → Hdr e.sz p' 0 (slenN xs.length off len) u := by
    match p,p2 with
    | none,p2 =>
     have hx : xs = [] := p2
     subst hx
     refine ⟨none,List.eq_nil_of_length_eq_zero (by rw [hwl]; simp at hle; exact hle.2),fun b hb => hb,fun u hu => ?_⟩
     obtain ⟨a0,c0,e1,e2,e3⟩ := hu
     exact ⟨a0,c0,e1,e2,.inl (e3.resolve_right fun ⟨_,_,_,e,_⟩ => by cases e)⟩
    | some (b,s0,m0),⟨o1,o2,o3,o4⟩ =>
     refine ⟨some (b,s0 + ofs off * e.sz,m0 - ofs off),⟨by rw [hwl]; omega,?_,o3,?_⟩,fun b hb => hb,fun u hu => ?_⟩
     ·have : s0 + ofs off * e.sz + (m0 - ofs off) * e.sz = s0 + m0 * e.sz := by
       rw [Nat.add_assoc,← Nat.add_mul,Nat.add_sub_cancel' (by omega)]
      rw [this]
      exact o2
     ·rw [win_eq xs off len hle]
      exact o4.cut
     ·obtain ⟨a0,c0,e1,e2,e3⟩ := hu
      refine ⟨a0,c0,e1,e2,?_⟩
      rcases e3 with e3 | ⟨b',s',m',e3,e4,e5⟩
      ·exact .inl e3
      ·cases e3
       exact .inr ⟨b,_,_,rfl,by rw [e4]; simp,by omega⟩
   obtain ⟨σ1,m1,x1,s1,u1,n1⟩ := I.sr.mem.move (w' := w) hun [g] (by simp [hob]) rfl rfl rfl (Nat.le_refl _) (fun _ _ _ => rfl) (s := .S e.sz (win xs off len).length p' none) (ob := .L e (win xs off len)) (by simp)
    (fun _ _ _ => ⟨p',rfl,q1⟩) (fun b hb => .inl ⟨g,by simp,by rw [hob,p1]; exact q2 b hb⟩)
   have I1 := I.step (n' := s.n + 1) m1 x1 s1 fun h hh => (u1 h).2 ⟨I.un h (by omega),by omega⟩
   refine ⟨_,σ1,ghost_set I I1 rfl hB s1 (fun u hu => ?_) hs⟩
   rw [hg] at hu
   obtain ⟨_,e1,hv⟩ := hu
   cases e1
   rw [p1] at hv
   refine ⟨u,rfl,?_⟩
   rw [n1]
   have := q3 u hv.1
   rw [← hwl] at this
   exact ⟨by simpa [ofs,slenN] using this,by simp [ofs,slenN]⟩
  ·exact ⟨s,h,fun I => ⟨_,_,I⟩⟩
 | nrm t c =>
  simp only [gE] at h
  split at h
  ·rename_i g off len hg
   split at h
   ·rename_i e l st v pd hob
    split at h
    case isFalse => cases h
    rename_i hc
    obtain ⟨hn,hl⟩ := hc
    have hl : ∀ i ∈ l,i < st.length := by simpa using hl
    refine ⟨_,h,fun {N Z0 w0 σ0 hp0 a w Z σ} I => ?_⟩
    obtain ⟨p,r0,p1,p2,p3⟩ := I.sr.mem.N hob
    have hs0 := p3.norm hn hl (v + 1)
    have hnum : numOf (some l) st = numOf none (l.map (rowOf st)) := by simp [numOf]
    have hsle : ∀ h,Sle (upd σ g (.S 1 (numOf none (l.map (rowOf st))) p (some { v := v + 1,sz := r0.sz,row := fun j => match l[j]? with | some i => r0.row i | none => (none,0),pd := none })) h) (σ h) := fun h => by
     by_cases hh : h = g
     ·subst hh
      rw [upd_same,p1,hnum]
      exact .rows _ _ _ _ _ (.inl (by simp [p2]))
     ·rw [upd_ne _ _ hh]
      exact .same _
    have hst := MR.step (w' := w) (Z' := Z) (σ' := upd σ g (.S 1 (numOf none (l.map (rowOf st))) p (some { v := v + 1,sz := r0.sz,row := fun j => match l[j]? with | some i => r0.row i | none => (none,0),pd := none }))) (hp' := upd s.hp g (.N e none (l.map (rowOf st)) (v + 1) none)) I.sr.mem (· = g) (fun g h => g = h) (fun _ _ => False) rfl rfl rfl (Nat.le_refl _) (fun _ _ _ => rfl) (fun _ h => h) (fun _ h => .inl h) I.sr.mem.zlt hsle
     (fun j hj => ⟨upd_ne _ _ hj,upd_ne _ _ hj,fun b hb => ⟨rfl,(I.sr.mem.olt ⟨j,hb⟩).2⟩⟩)
     (fun j hj => by
      subst hj
      rw [upd_same,upd_same]
      refine ⟨fun _ => ⟨p,_,rfl,rfl,hs0⟩,fun e => (by cases e),fun b hb => .inl ⟨j,rfl,?_⟩⟩
      rw [hob,p1]
      rcases hb with hb | ⟨k,hk,hb⟩ | ⟨hb,_⟩
      ·exact .inl hb
      ·rw [List.length_map] at hk
       have e : l[k]? = some l[k] := by simp [hk]
       simp only [e] at hb
       exact .inr (.inl ⟨l[k],hl _ (by simp),hb⟩)
      ·cases hb)
     (fun _ _ => rfl) (fun _ _ _ e1 e2 => e1.symm.trans e2) (fun _ _ h => h.elim) (fun _ _ _ h => h.elim)
    have hgn : ∀ k,s.n ≤ k → k ≠ g := fun k hk e => by rw [← e,I.un k hk] at p1; cases p1
    exact ⟨Z,_,I.step (n' := s.n) hst.1 hst.2 hsle fun k hk => by rw [upd_ne _ _ (hgn k hk)]; exact I.un k hk⟩
   ·exact ⟨s,h,fun I => ⟨_,_,I⟩⟩
  ·exact ⟨s,h,fun I => ⟨_,_,I⟩⟩
 | fl t c =>
  simp only [gE] at h
  split at h
  ·rename_i g off len hg
   split at h
   ·rename_i e st v pd hob
    refine ⟨_,h,fun {N Z0 w0 σ0 hp0 a w Z σ} I => ?_⟩
    obtain ⟨p,r0,p1,p2,p3⟩ := I.sr.mem.N hob
    have hbl : ∀ b,(∃ i,i < st.length ∧ plB (r0.row i).1 b) → blks (s.hp g) (σ g) b := fun b hb => by rw [hob,p1]; exact .inr (.inl hb)
    have hbh : ∀ b,plB p b → blks (s.hp g) (σ g) b := fun b hb => by rw [hob,p1]; exact .inl hb
    have hk : Kept Z w (fun b => Z b ∨ ∃ i,i < st.length ∧ plB (r0.row i).1 b) w := ⟨fun _ h => .inl h,fun _ _ => rfl⟩
    have hsle : ∀ h,Sle (upd σ g (.S 1 st.length p none) h) (σ h) := fun h => by
     by_cases hh : h = g
     ·subst hh
      rw [upd_same,p1]
      exact .flat _ _ _ _
     ·rw [upd_ne _ _ hh]
      exact .same _
    have hown : Own (fun b => Z b ∨ ∃ i,i < st.length ∧ plB (r0.row i).1 b) w p (.sl e) st := by
     match p,p3,hbh with
     | none,p3,_ =>
      have : st = [] := by
       cases st with
       | nil => rfl
       | cons _ _ => obtain ⟨_,_,_,_,e,_⟩ := p3.head 0 (by simp [numOf]); cases e
      exact this
     | some (b,s0,m0),p3,hbh =>
      obtain ⟨b1,b2,b3⟩ := p3.blk b s0 m0 rfl
      refine ⟨b1,by simpa [Ty.sz] using b2,fun hz => ?_,fun i x hx => ?_⟩
      ·rcases hz with hz | ⟨i,hi,hz⟩
       ·exact b3 hz
       ·exact p3.off b i rfl hi hz
      ·have hi : i < st.length := (List.getElem?_eq_some_iff.1 hx).1
       obtain ⟨b',s',m',u,e1,e2,e3⟩ := p3.head i hi
       cases e1
       refine ⟨[u],?_,fun j y hj => ?_⟩
       ·have h5 : idAt none i = i := rfl
        rw [h5,p3.len i x hx] at e3
        have h4 : Frz (fun b => Z b ∨ ∃ i,i < st.length ∧ plB (r0.row i).1 b) w (r0.row i).1 e x := Frz.own (p3.own i x hx) hk fun b hb => .inr ⟨i,hi,hb⟩
        have := PV_hdr (off := none) (len := none) h4 (v := u) e3 (by simp [ofs,slenN])
        simpa [win] using this
       ·cases j with
        | zero =>
         simp only [List.getElem?_cons_zero,Option.some.injEq] at hj
         subst hj
         simpa [Ty.sz] using e2
        | succ j => simp at hj
    have hst := MR.step (w' := w) (Z' := fun b => Z b ∨ ∃ i,i < st.length ∧ plB (r0.row i).1 b) (σ' := upd σ g (.S 1 st.length p none)) (hp' := upd s.hp g (.L (.sl e) st)) I.sr.mem (· = g) (fun g h => g = h) (fun _ _ => False) rfl rfl rfl (Nat.le_refl _) (fun _ _ _ => rfl) (fun _ h => .inl h)
     (fun b hb => hb.elim .inl fun h => .inr (.inl ⟨g,hbl b h⟩)) (fun b hb => hb.elim (I.sr.mem.zlt b) fun h => (I.sr.mem.olt ⟨g,hbl b h⟩).1) hsle
     (fun j hj => ⟨upd_ne _ _ hj,upd_ne _ _ hj,fun b hb => ⟨rfl,fun hz => hz.elim (I.sr.mem.olt ⟨j,hb⟩).2 fun h => hj (I.sr.mem.sep j g b hb (hbl b h))⟩⟩)
     (fun j hj => by
      subst hj
      rw [upd_same,upd_same]
      exact ⟨fun _ => ⟨p,rfl,hown⟩,fun e => (by cases e),fun b hb => .inl ⟨j,rfl,hbh b hb⟩⟩)
     (fun _ _ => rfl) (fun _ _ _ e1 e2 => e1.symm.trans e2) (fun _ _ h => h.elim) (fun _ _ _ h => h.elim)
    have hgn : ∀ k,s.n ≤ k → k ≠ g := fun k hk e => by rw [← e,I.un k hk] at p1; cases p1
    exact ⟨_,_,I.step (n' := s.n) hst.1 hst.2 hsle fun k hk => by rw [upd_ne _ _ (hgn k hk)]; exact I.un k hk⟩
   ·exact ⟨s,h,fun I => ⟨_,_,I⟩⟩
  ·exact ⟨s,h,fun I => ⟨_,_,I⟩⟩
 | kp ts =>
  simp only [gE] at h
  split at h
  case isFalse => cases h
  rename_i hc
  simp only [Bool.and_eq_true,decide_eq_true_eq] at hc
  obtain ⟨hnd,htk⟩ := hc
  generalize hord : keepOrd nr s.hp (slotsV s.tm ts) = ord at h hnd htk
  have hnd := nodupB_iff hnd
  refine ⟨_,h,fun {N Z0 w0 σ0 hp0 a w Z σ} I => ?_⟩
  have hlive : ∀ h ∈ ord,σ h ≠ .un := by
   subst hord
   refine clos_live (hp := s.hp) I.sr.mem (fun h hh => ?_) (fun _ _ => rfl)
   rcases mem_addNew.1 hh with hh | hh
   ·have := List.mem_range.1 hh
    exact (I.rt h this).un (I.rl h this)
   ·obtain ⟨t,_,h2⟩ := slotsV_hs hh
    exact (I.sr.tms t).live h h2
  obtain ⟨σc,c1,c2,c3,c4,c5,c6⟩ := I.sr.mem.rename hgv hnd hlive
  refine ⟨Z,σc,⟨⟨c4,fun t => ?_⟩,I.ext.sub c5,fun h hh => ?_,I.rl,fun h hh => c2 h (by simpa [stC] using hh),I.sz,I.df⟩⟩
  ·show VR Z w σc (lk (ts.map fun t => (t,ren (fun h => idxOf h ord 0) (vers s.hp) (s.tm t))) t) _
   rw [lk_map]
   split
   ·exact c6 (I.sr.tms t)
   ·exact ⟨_,rfl⟩
  ·have e : ord[h]? = some h := by
    have := congrArg (fun l => l[h]?) htk
    simp only [List.getElem?_take,if_pos hh,List.getElem?_range hh] at this
    exact this
   rw [c1 h h e]
   exact shCo_w (I.rt h hh) (I.rl h hh)
theorem gsE_snd (hgv : ∀ g,hs (gv g) = []) {K : St → Option FRes} {r : FRes} : ∀ {l : List G} {s : St},gsE nr l s K = some r → ∃ s',K s' = some r ∧ ∀ {N : Nat} {Z0 : Nat → Prop} {w0 : World} {σ0 : Nat → Sh} {hp0 : Nat → Ob} {a : Act} {w : World} {Z : Nat → Prop} {σ : Nat → Sh},
  Inv gv nr Z0 w0 σ0 hp0 N s a w Z σ → ∃ Z' σ',Inv gv nr Z0 w0 σ0 hp0 N s' a w Z' σ'
 | [],s,h => ⟨s,h,fun I => ⟨_,_,I⟩⟩
 | g :: l,s,h => by
  obtain ⟨s1,h1,k1⟩ := gE_snd hgv h
  obtain ⟨s2,h2,k2⟩ := gsE_snd hgv h1
  refine ⟨s2,h2,fun I => ?_⟩
  obtain ⟨Z1,σ1,I1⟩ := k1 I
  exact k2 I1
end
def QX (gv : Nat → AV) (nr : Nat) (Z0 : Nat → Prop) (w0 : World) (σ0 : Nat → Sh) (hp0 : Nat → Ob) (N : Nat) (x : X) (s : St) : Exit → Act → World → Prop
 | .normal,a,w => x = .nm ∧ ∃ Z σ,Inv gv nr Z0 w0 σ0 hp0 N s a w Z σ
 | .exit id,a,w => x = .ex id ∧ ∃ Z σ,Inv gv nr Z0 w0 σ0 hp0 N s a w Z σ
 | .ret,a,w => x = .rt ∧ ∃ Z σ,Inv gv nr Z0 w0 σ0 hp0 N s a w Z σ
 | _,_,_ => False
def dstC (M : Nat) : Code → Bool
 | .region _ ops _ => ops.toList.all fun o => match o.dst with
  | some d => Nat.blt d M
  | none => true
 | .seq a b => dstC M a && dstC M b
 | .cond _ a b => dstC M a && dstC M b
 | .block _ a => dstC M a
 | .loop a => dstC M a
 | _ => true
theorem wp_loop_fuel {P : Program} {Q : Exit → Act → World → Prop} {c : Code} (I : Nat → Act → World → Prop) (round : ∀ n a w,I n a w → c.wp P (Exit.then (fun a' w' => ∃ m,m < n ∧ I m a' w') Q) a w) {n : Nat} {a : Act} {w : World} (h0 : I n a w) : (Code.loop c).wp P Q a w := by
 intro b k cs
 have key : ∀ n a w,I n a w → ∃ e a' w',Q e a' w' ∧ Arrives P (lone (b.at a (.code c :: .inLoop c :: k)) cs w) b k cs e a' w' := by
  intro n
  induction n using Nat.strongRecOn with
  | _ n ih =>
   intro a w hI
   obtain ⟨e,a₁,w₁,hq,harr⟩ := round n a w hI b (.inLoop c :: k) cs
   cases e with
   | normal =>
    obtain ⟨m,hlt,hI₁⟩ := hq
    obtain ⟨e₂,a₂,w₂,hq₂,harr₂⟩ := ih m hlt a₁ w₁ hI₁
    exact ⟨e₂,a₂,w₂,hq₂,.of_steps (Steps.trans harr (.one step_inLoop)) harr₂⟩
   | exit id => exact ⟨_,a₁,w₁,hq,.pass (x := .inLoop c) rfl (fun _ _ => .inl (by simp)) harr⟩
   | goto l => exact ⟨_,a₁,w₁,hq,.pass (x := .inLoop c) rfl (fun _ _ => .inl (by simp)) harr⟩
   | ret => exact ⟨_,a₁,w₁,hq,.pass (x := .inLoop c) rfl (fun _ _ => .inl (by simp)) harr⟩
   | panic ch => exact ⟨_,a₁,w₁,hq,.pass (x := .inLoop c) rfl (fun _ _ => .inl (by simp)) harr⟩
   | outgrown => exact ⟨_,a₁,w₁,hq,.pass (x := .inLoop c) rfl (fun _ _ => .inl (by simp)) harr⟩
 obtain ⟨e,a',w',hq,harr⟩ := key _ a w h0
 exact ⟨e,a',w',hq,.of_steps (.one step_loop) harr⟩
section
variable {P : Program} {E : Env} {gv : Nat → AV} {nr N j : Nat} {Z0 : Nat → Prop} {w0 : World} {σ0 : Nat → Sh} {hp0 : Nat → Ob}
theorem SR.drew {Z : Nat → Prop} {w : World} {σ : Nat → Sh} {tm : Nat → AV} {hp : Nat → Ob} {a : Act} (h : SR gv Z w σ tm hp a) : SR gv Z { w with drawn := w.drawn + 1 } σ tm hp a ∧ Ext Z w σ hp Z { w with drawn := w.drawn + 1 } σ hp := by
 have hst := MR.step (w' := { w with drawn := w.drawn + 1 }) (Z' := Z) (σ' := σ) (hp' := hp) h.mem (fun _ => False) (fun g h => g = h) (fun _ _ => False) rfl rfl rfl (Nat.le_refl _) (fun _ _ _ => rfl) (fun _ h => h) (fun _ h => .inl h) h.mem.zlt (fun _ => .same _)
  (fun j _ => ⟨rfl,rfl,fun b hb => ⟨rfl,(h.mem.olt ⟨j,hb⟩).2⟩⟩) (fun _ hj => hj.elim) (fun _ _ => rfl) (fun _ _ _ e1 e2 => e1.symm.trans e2) (fun _ _ h => h.elim) (fun _ _ _ h => h.elim)
 exact ⟨⟨hst.1,fun t => VR.mono (Z := Z) (Z' := Z) (w := w) (w' := { w with drawn := w.drawn + 1 }) (σ := σ) (σ' := σ) ⟨fun _ h => h,fun _ _ => rfl⟩ (h.tms t) fun _ _ => .same _⟩,hst.2⟩
def Ends (P : Program) (gv : Nat → AV) (nr N : Nat) (c : Code) (s : St) (x : X) (s' : St) : Prop := ∀ {Z0 : Nat → Prop} {w0 : World} {σ0 : Nat → Sh} {hp0 : Nat → Ob} {a : Act} {w : World} {Z : Nat → Prop} {σ : Nat → Sh},
 Inv gv nr Z0 w0 σ0 hp0 N s a w Z σ → c.wp P (QX gv nr Z0 w0 σ0 hp0 N x s') a w
inductive Rounds (P : Program) (gv : Nat → AV) (nr N : Nat) (c : Code) (g : List G) : Nat → St → X → St → Prop
 | last {n : Nat} {s s' : St} {x : X} (hx : x ≠ .nm) (h : Ends P gv nr N c s x s') : Rounds P gv nr N c g (n + 1) s x s'
 | more {n : Nat} {s s1 s2 s' : St} {x : X} (h : Ends P gv nr N c s .nm s1) (hg : ∀ {Z0 : Nat → Prop} {w0 : World} {σ0 : Nat → Sh} {hp0 : Nat → Ob} {a : Act} {w : World} {Z : Nat → Prop} {σ : Nat → Sh},Inv gv nr Z0 w0 σ0 hp0 N s1 a w Z σ → ∃ Z' σ',Inv gv nr Z0 w0 σ0 hp0 N s2 a w Z' σ')
   (k : Rounds P gv nr N c g n s2 x s') : Rounds P gv nr N c g (n + 1) s x s'
theorem rounds_wp {c : Code} {g : List G} {n : Nat} {s s' : St} {x : X} (h : Rounds P gv nr N c g n s x s') {a : Act} {w : World} {Z : Nat → Prop} {σ : Nat → Sh} (I : Inv gv nr Z0 w0 σ0 hp0 N s a w Z σ) : (Code.loop c).wp P (QX gv nr Z0 w0 σ0 hp0 N x s') a w := by
 refine wp_loop_fuel (fun n a w => ∃ s Z σ,Rounds P gv nr N c g n s x s' ∧ Inv gv nr Z0 w0 σ0 hp0 N s a w Z σ) (fun n a w hn => ?_) ⟨s,Z,σ,h,I⟩
 obtain ⟨s1,Z1,σ1,h1,I1⟩ := hn
 cases h1 with
 | last hx h2 =>
  refine wp_mono (h2 I1) fun e a' w' hq => ?_
  cases e with
  | normal => exact absurd hq.1 hx
  | exit id => exact hq
  | ret => exact hq
  | goto l => exact hq.elim
  | panic _ => exact hq.elim
  | outgrown => exact hq.elim
 | more h2 hg k =>
  refine wp_mono (h2 I1) fun e a' w' hq => ?_
  cases e with
  | normal =>
   obtain ⟨_,Z2,σ2,I2⟩ := hq
   obtain ⟨Z3,σ3,I3⟩ := hg I2
   exact ⟨_,Nat.lt_succ_self _,_,Z3,σ3,k,I3⟩
  | exit id => exact absurd hq.1 (by simp)
  | ret => exact absurd hq.1 (by simp)
  | goto l => exact hq.elim
  | panic _ => exact hq.elim
  | outgrown => exact hq.elim
theorem evC_snd (hm : P.follows .mixedOrders = true) (hE : EnvOk P E) (hg : E.gl = gv) (hO : ∀ f s sp,E.orc f s = some sp → Impl P gv f sp) (hgv : ∀ g,hs (gv g) = []) {r : FRes} :
  ∀ (c : Code) {h : H} {s : St} {K : KX},evC E nr j c h s K = some r → dstC N c = true → ∃ x s',K x s' = some r ∧ Ends P gv nr N c s x s'
 | .skip,h,s,K,he,_ => ⟨.nm,s,he,fun I => wp_skip ⟨rfl,_,_,I⟩⟩
 | .region id ops draw,h,s,K,he,hd => by
  simp only [evC] at he
  obtain ⟨T,t1,t2,t3⟩ := evOps_chain hE hg hO hgv _ _ _ _ _ he
  have hTl : T.length = ops.size := by
   have := congrArg List.length t1
   simpa using this
  have hTi : ∀ (k : Nat) (s : Stp),T[k]? = some s → s.i = k ∧ ops[k]? = some s.o := fun k s hk => by
   have h1 : (T.map fun t => (t.i,t.o))[k]? = some (s.i,s.o) := by rw [List.getElem?_map,hk]; rfl
   rw [t1,List.getElem?_map,List.getElem?_zipIdx] at h1
   simp only [Nat.zero_add,Option.map_map] at h1
   obtain ⟨o,h2,h3⟩ := Option.map_eq_some_iff.1 h1
   simp only [Function.comp,Prod.mk.injEq] at h3
   rw [Array.getElem?_toList] at h2
   exact ⟨h3.1.symm,by rw [h2,h3.2]⟩
  have hTo : ∀ s ∈ T,ops[s.i]? = some s.o := fun s hs => by
   obtain ⟨k,hk⟩ := List.mem_iff_getElem?.1 hs
   obtain ⟨h1,h2⟩ := hTi k s hk
   rw [h1]
   exact h2
  have hTd : ∀ s ∈ T,∀ d,s.o.dst = some d → d < N := fun s hs d hdd => by
   simp only [dstC,List.all_eq_true] at hd
   have := hd s.o (by have := hTo s hs; exact Array.mem_toList_iff.2 (Array.mem_of_getElem? this))
   rw [hdd] at this
   simpa [Nat.blt_eq] using this
  have hrg : K .nm (stX (foldD (fun _ => true) T (s.tm,s.hp)) (s.n + totN T)) = some r ∧ (draw = true → orderOk ops.toList (T.map (·.rc)).reverse = true) := by
   simp only [rgK,List.append_nil] at t3
   obtain ⟨h1,h2⟩ := bif_spec t3
   refine ⟨h2,fun e => ?_⟩
   rw [e] at h1
   simpa using h1
  refine ⟨.nm,_,hrg.1,fun {Z0 w0 σ0 hp0 a w Z σ} I => ?_⟩
  have hfin : ∀ {w2 : World},Ext Z w σ s.hp Z w2 σ s.hp → ∀ (a' : Act) (w' : World) (Z' : Nat → Prop) (σ' : Nat → Sh),SR gv Z' w' σ' (foldD (fun _ => true) T (s.tm,s.hp)).1 (foldD (fun _ => true) T (s.tm,s.hp)).2 a' → Ext Z w2 σ s.hp Z' w' σ' (foldD (fun _ => true) T (s.tm,s.hp)).2 →
    (∀ h,Sle (σ' h) (σ h)) → (∀ h,s.n + totN T ≤ h → σ' h = .un) → a'.tmps.size = a.tmps.size → a'.defers = a.defers → QX gv nr Z0 w0 σ0 hp0 N .nm (stX (foldD (fun _ => true) T (s.tm,s.hp)) (s.n + totN T)) .normal a' w' := fun hx a' w' Z' σ' k1 k2 k3 k4 k5 k6 =>
   ⟨rfl,Z',σ',k1,I.ext.trans (hx.trans k2),fun h hh => ((k3 h).w ((I.rt h hh).un (I.rl h hh))).trans (I.rt h hh),I.rl,k4,k5.trans I.sz,k6.trans I.df⟩
  cases draw with
  | false =>
   refine wp_region ?_
   have hri : T.map (·.i) = List.range ops.size := by
    apply List.ext_getElem?
    intro k
    rw [List.getElem?_map]
    by_cases hk : k < ops.size
    ·have e : T[k]? = some (T[k]'(by omega)) := by simp [show k < T.length by omega]
     rw [e,List.getElem?_range hk]
     simp [(hTi k _ e).1]
    ·rw [List.getElem?_eq_none (by omega),List.getElem?_eq_none (by simp; omega)]
     rfl
   rw [← hri]
   exact wpOps_snd t2 hTo I.sr I.un (fun s hs d hdd => by rw [I.sz]; exact hTd s hs d hdd) (hfin (Ext.refl _ _ _ _))
  | true =>
   refine wp_region_any hm ?_
   obtain ⟨d1,d2⟩ := I.sr.drew
   refine wpAny_snd t2 t1 (hrg.2 rfl) (fun s hs d hdd => by rw [I.sz]; exact hTd s hs d hdd) (hfin d2) ops.size _ a _ Z σ (by simp) (cnt_le _ _) (fun i o _ hl => ?_) ⟨?_,?_,fun _ => .same _,rfl,rfl⟩ (fun h hh _ => I.un h hh)
   ·rw [rep_false] at hl
    cases hl
   ·have e : foldD (fun j => (Array.replicate ops.size false).getD j false) T (s.tm,s.hp) = (s.tm,s.hp) := by
     rw [foldD_congr (D2 := fun _ => false) (fun s' hs' => rep_false _ _),foldD_false]
    rw [e]
    exact d1
   ·have e : foldD (fun j => (Array.replicate ops.size false).getD j false) T (s.tm,s.hp) = (s.tm,s.hp) := by
     rw [foldD_congr (D2 := fun _ => false) (fun s' hs' => rep_false _ _),foldD_false]
    rw [e]
    exact Ext.refl _ _ _ _
 | .seq x y,h,s,K,he,hd => by
  simp only [dstC,Bool.and_eq_true] at hd
  simp only [evC] at he
  obtain ⟨e1,s1,h1,k1⟩ := evC_snd hm hE hg hO hgv x he hd.1
  cases e1 with
  | nm =>
   obtain ⟨s2,h2,k2⟩ := gsE_snd hgv h1
   obtain ⟨e3,s3,h3,k3⟩ := evC_snd hm hE hg hO hgv y h2 hd.2
   refine ⟨e3,s3,h3,fun I => wp_seq (wp_mono (k1 I) fun e a' w' hq => ?_)⟩
   cases e with
   | normal =>
    obtain ⟨_,Z1,σ1,I1⟩ := hq
    obtain ⟨Z2,σ2,I2⟩ := k2 I1
    exact k3 I2
   | exit id => exact absurd hq.1 (by simp)
   | ret => exact absurd hq.1 (by simp)
   | goto l => exact hq.elim
   | panic _ => exact hq.elim
   | outgrown => exact hq.elim
  | ex id =>
   refine ⟨.ex id,s1,h1,fun I => wp_seq (wp_mono (k1 I) fun e a' w' hq => ?_)⟩
   cases e with
   | normal => exact absurd hq.1 (by simp)
   | exit id => exact hq
   | ret => exact hq
   | goto l => exact hq.elim
   | panic _ => exact hq.elim
   | outgrown => exact hq.elim
  | rt =>
   refine ⟨.rt,s1,h1,fun I => wp_seq (wp_mono (k1 I) fun e a' w' hq => ?_)⟩
   cases e with
   | normal => exact absurd hq.1 (by simp)
   | exit id => exact hq
   | ret => exact hq
   | goto l => exact hq.elim
   | panic _ => exact hq.elim
   | outgrown => exact hq.elim
 | .cond c x y,h,s,K,he,hd => by
  simp only [dstC,Bool.and_eq_true] at hd
  simp only [evC] at he
  split at he
  case h_2 => cases he
  rename_i b hb
  obtain ⟨q,hq⟩ : ∃ q : Bool,q = b := ⟨b,rfl⟩
  subst hq
  have hcv : ∀ {Z0 : Nat → Prop} {w0 : World} {σ0 : Nat → Sh} {hp0 : Nat → Ob} {a : Act} {w : World} {Z : Nat → Prop} {σ : Nat → Sh},Inv gv nr Z0 w0 σ0 hp0 N s a w Z σ → a.eval c = .bool q := fun I => by
   have hv := evA_VR hg I.sr c (tm := s.tm) fun _ _ => rfl
   rw [hb] at hv
   exact hv.boolp
  cases q with
  | true =>
   obtain ⟨e1,s1,h1,k1⟩ := evC_snd hm hE hg hO hgv x he hd.1
   exact ⟨e1,s1,h1,fun I => wp_cond_true (hcv I) (k1 I)⟩
  | false =>
   obtain ⟨e1,s1,h1,k1⟩ := evC_snd hm hE hg hO hgv y he hd.2
   exact ⟨e1,s1,h1,fun I => wp_cond_false (hcv I) (k1 I)⟩
 | .block id x,h,s,K,he,hd => by
  simp only [dstC] at hd
  simp only [evC] at he
  obtain ⟨e1,s1,h1,k1⟩ := evC_snd hm hE hg hO hgv x he hd
  cases e1 with
  | nm =>
   obtain ⟨s2,h2,k2⟩ := gsE_snd hgv h1
   refine ⟨.nm,s2,h2,fun I => wp_block (wp_mono (k1 I) fun e a' w' hq => ?_)⟩
   cases e with
   | normal =>
    obtain ⟨_,Z1,σ1,I1⟩ := hq
    exact ⟨rfl,k2 I1⟩
   | exit i => exact absurd hq.1 (by simp)
   | ret => exact absurd hq.1 (by simp)
   | goto l => exact hq.elim
   | panic _ => exact hq.elim
   | outgrown => exact hq.elim
  | ex i =>
   have h1 : (if i = id then K .nm s1 else K (.ex i) s1) = some r := h1
   by_cases hi : i = id
   ·rw [if_pos hi] at h1
    refine ⟨.nm,s1,h1,fun {Z0 w0 σ0 hp0 a w Z σ} I => wp_block (wp_mono (k1 I) fun e a' w' hq => ?_)⟩
    cases e with
    | normal => exact absurd hq.1 (by simp)
    | exit i' =>
     have hii : i = i' := by
      have := hq.1
      simpa using this
     show (if i' = id then QX gv nr Z0 w0 σ0 hp0 N .nm s1 .normal a' w' else QX gv nr Z0 w0 σ0 hp0 N .nm s1 (.exit i') a' w')
     rw [if_pos (hii ▸ hi)]
     exact ⟨rfl,hq.2⟩
    | ret => exact absurd hq.1 (by simp)
    | goto l => exact hq.elim
    | panic _ => exact hq.elim
    | outgrown => exact hq.elim
   ·rw [if_neg hi] at h1
    refine ⟨.ex i,s1,h1,fun {Z0 w0 σ0 hp0 a w Z σ} I => wp_block (wp_mono (k1 I) fun e a' w' hq => ?_)⟩
    cases e with
    | normal => exact absurd hq.1 (by simp)
    | exit i' =>
     have hii : i = i' := by
      have := hq.1
      simpa using this
     show (if i' = id then QX gv nr Z0 w0 σ0 hp0 N (.ex i) s1 .normal a' w' else QX gv nr Z0 w0 σ0 hp0 N (.ex i) s1 (.exit i') a' w')
     rw [if_neg (hii ▸ hi)]
     exact hq
    | ret => exact absurd hq.1 (by simp)
    | goto l => exact hq.elim
    | panic _ => exact hq.elim
    | outgrown => exact hq.elim
  | rt =>
   refine ⟨.rt,s1,h1,fun I => wp_block (wp_mono (k1 I) fun e a' w' hq => ?_)⟩
   cases e with
   | normal => exact absurd hq.1 (by simp)
   | exit i => exact absurd hq.1 (by simp)
   | ret => exact hq
   | goto l => exact hq.elim
   | panic _ => exact hq.elim
   | outgrown => exact hq.elim
 | .loop x,h,s,K,he,hd => by
  simp only [dstC] at hd
  simp only [evC] at he
  obtain ⟨s1,h1,k1⟩ := gsE_snd hgv he
  have key : ∀ (n : Nat) (s : St),lpE (fun s K => evC E nr j x h.l s (poK nr h.post K)) n s K = some r → ∃ y s',K y s' = some r ∧ Rounds P gv nr N x h.post n s y s' := by
   intro n
   induction n with
   | zero => intro s h2; cases h2
   | succ n ih =>
    intro s h2
    simp only [lpE] at h2
    obtain ⟨e2,s2,h3,k2⟩ := evC_snd hm hE hg hO hgv x h2 hd
    cases e2 with
    | nm =>
     obtain ⟨s3,h4,k3⟩ := gsE_snd hgv h3
     obtain ⟨y,s',h5,k4⟩ := ih s3 h4
     exact ⟨y,s',h5,.more k2 k3 k4⟩
    | ex id => exact ⟨.ex id,s2,h3,.last (by simp) k2⟩
    | rt => exact ⟨.rt,s2,h3,.last (by simp) k2⟩
  obtain ⟨y,s',h2,k2⟩ := key j s1 h1
  refine ⟨y,s',h2,fun I => ?_⟩
  obtain ⟨Z1,σ1,I1⟩ := k1 I
  exact rounds_wp k2 I1
 | .exit id,h,s,K,he,hd => by
  simp only [evC] at he
  obtain ⟨s1,h1,k1⟩ := gsE_snd hgv he
  exact ⟨.ex id,s1,h1,fun I => wp_exit ⟨rfl,k1 I⟩⟩
 | .ret,h,s,K,he,hd => by
  simp only [evC] at he
  obtain ⟨s1,h1,k1⟩ := gsE_snd hgv he
  exact ⟨.rt,s1,h1,fun I => wp_ret ⟨rfl,k1 I⟩⟩
 | .label _,_,_,_,he,_ => by cases he
 | .goto _,_,_,_,he,_ => by cases he
 | .rangeFunc _ _ _ _,_,_,_,he,_ => by cases he
where
 rep_false (n i : Nat) : (Array.replicate n false).getD i false = false := by
  rw [Array.getD_eq_getD_getElem?]
  cases hq : (Array.replicate n false)[i]? with
  | none => rfl
  | some b =>
   have := (Array.getElem?_eq_some_iff.1 hq).2
   simp at this
   rw [← this]
   rfl
end
section
variable {P : Program} {E : Env} {gv : Nat → AV} {nr N j : Nat} {Z0 : Nat → Prop} {w0 : World} {σ0 : Nat → Sh} {hp0 : Nat → Ob}
def resOf (a : Act) : ResultVar → Sem Value
 | .tmp t => pure (a.tmps.getD t undef)
 | .cell p t => do loadVar t (← asAddr (a.tmps.getD p undef))
theorem results_eq (fn : Func) (a : Act) : results fn a.tmps = (do let vs ← fn.results.mapM (resOf a); pure (if h : vs.size = 1 then vs[0] else .tuple vs)) := by
 unfold results
 congr 1
theorem resE_snd (hE : EnvOk P E) {s : St} : ∀ {l : List ResultVar} {K : AV → Option FRes} {r : FRes},resE E s l K = some r →
  ∃ vs,K vs = some r ∧ isL vs = true ∧ ∀ {a : Act} {w : World} {Z : Nat → Prop} {σ : Nat → Sh},SR gv Z w σ s.tm s.hp a → ∃ us,(l.mapM (resOf a)).run P w = .ok us w ∧ VR Z w σ vs us
 | [],K,r,h => ⟨.e0,h,rfl,fun _ => ⟨[],by simp,rfl⟩⟩
 | .tmp t :: l,K,r,h => by
  simp only [resE] at h
  obtain ⟨vs,h1,h4,hx⟩ := resE_snd hE h
  refine ⟨_,h1,rfl,fun {a w Z σ} h0 => ?_⟩
  obtain ⟨us,h2,h3⟩ := hx h0
  refine ⟨_ :: us,?_,⟨_,us,rfl,h0.tms t,h3,h4⟩⟩
  have h9 : (resOf a (.tmp t)).run P w = .ok (a.tmps.getD t undef) w := rfl
  rw [List.mapM_cons,Sem.run_bind,h9]
  simp only [Result.andThen_ok]
  rw [Sem.run_bind,h2]
  rfl
 | .cell p t :: l,K,r,h => by
  simp only [resE] at h
  obtain ⟨e,h1,_,_,h2⟩ := loadE_snd (gv := gv) hE h
  obtain ⟨vs,h5,h8,hx⟩ := resE_snd hE h1
  refine ⟨_,h5,rfl,fun {a w Z σ} h0 => ?_⟩
  obtain ⟨u,h3,h4⟩ := h2 h0.mem (fun _ _ => rfl) (h0.tms p)
  obtain ⟨us,h6,h7⟩ := hx h0
  refine ⟨u :: us,?_,⟨u,us,rfl,h4,h7,h8⟩⟩
  have h9 : (resOf a (.cell p t)).run P w = .ok u w := by
   unfold resOf
   cases hv : a.tmps.getD p undef with
   | pointer ad =>
    cases ad with
    | none => rw [hv] at h3; simp [Instr.loadAt,Instr.sureAddr,stuck] at h3
    | some ad =>
     rw [hv] at h3
     simp only [Instr.loadAt,Instr.sureAddr,Sem.run_bind,Sem.run_pure,Result.andThen_ok] at h3
     simp only [hv,asAddr,Sem.run_bind,Sem.run_pure,Result.andThen_ok,h3]
   | _ => rw [hv] at h3; simp [Instr.loadAt,Instr.sureAddr,stuck] at h3
  rw [List.mapM_cons,Sem.run_bind,h9]
  simp only [Result.andThen_ok]
  rw [Sem.run_bind,h6]
  rfl
theorem retV_snd {Z : Nat → Prop} {w : World} {σ : Nat → Sh} {vs : AV} {us : Array Value} (h : VR Z w σ vs us.toList) (il : isL vs = true) : VR Z w σ (retV vs) [if h : us.size = 1 then us[0] else .tuple us] := by
 cases vs <;> try cases il
 ·have h0 : us = #[] := by
   apply Array.ext'
   exact h
  subst h0
  exact ⟨#[],rfl,rfl,rfl⟩
 ·rename_i a b
  have h' := h
  obtain ⟨v,r,e,h1,h2,il2⟩ := h'
  cases b <;> try cases il2
  ·have h3 : r = [] := h2
   subst h3
   have h4 : us = #[v] := by
    apply Array.ext'
    rw [e]
   subst h4
   exact h1
  ·obtain ⟨v2,r2,e2,_,_,_⟩ := h2
   have hs : us.size ≠ 1 := by
    rw [← Array.length_toList,e,e2]
    simp
   rw [dif_neg hs]
   exact ⟨us,rfl,h,rfl⟩
theorem dstC_mono {M N : Nat} (h : M ≤ N) : ∀ {c : Code},dstC M c = true → dstC N c = true
 | .region _ ops _,hc => by
  simp only [dstC,List.all_eq_true] at hc ⊢
  intro o ho
  have := hc o ho
  split at this
  ·rename_i d hd
   rw [Nat.blt_eq] at this
   simp only [Nat.blt_eq]
   omega
  ·rfl
 | .seq a b,hc => by
  simp only [dstC,Bool.and_eq_true] at hc ⊢
  exact ⟨dstC_mono h hc.1,dstC_mono h hc.2⟩
 | .cond _ a b,hc => by
  simp only [dstC,Bool.and_eq_true] at hc ⊢
  exact ⟨dstC_mono h hc.1,dstC_mono h hc.2⟩
 | .block _ a,hc => dstC_mono h (c := a) hc
 | .loop a,hc => dstC_mono h (c := a) hc
 | .skip,_ => rfl
 | .exit _,_ => rfl
 | .ret,_ => rfl
 | .label _,_ => rfl
 | .goto _,_ => rfl
 | .rangeFunc _ _ _ _,_ => rfl
 | .scope _,_ => rfl
 | .refuse _,_ => rfl
theorem nth_out : ∀ {cs : AV} {t : Nat},prL cs → cs.len ≤ t → cs.nth t = .any
 | .e0,_,_,_ => rfl
 | .cn a b,0,_,h => by simp [AV.len] at h
 | .cn a b,t + 1,hp,h => by
  simp only [AV.len] at h
  exact nth_out (cs := b) hp (by omega)
theorem evF_snd (hm : P.follows .mixedOrders = true) (hE : EnvOk P E) (hg : E.gl = gv) (hO : ∀ f s sp,E.orc f s = some sp → Impl P gv f sp) (hgv : ∀ g,hs (gv g) = []) {f : FuncId} {fn : Func} {c : Code} (hf : P.funcs[f]? = some fn) (hb : fn.body = some c) (hd : dstC fn.ntmps c = true)
  {h : H} {po : List G} {args : AV} {ins : List Ob} {K : FRes → Option FRes} {r : FRes} (he : evF E j fn h po args ins K = some r) : ∃ fr,K fr = some r ∧ (addNew [] (hs args)).length ≤ fr.objs.length ∧
   ∀ (Z : Nat → Prop) (w : World) (σ : Nat → Sh) (vs : Array Value),VR Z w σ args vs.toList → isL args = true → MR gv Z w σ (obsF ins) → (∀ i,σ i = .un ↔ ins.length ≤ i) → Calls P f vs w (RetOk gv Z w σ ins (addNew [] (hs args)).length fr) := by
 unfold evF at he
 rw [hb] at he
 simp only at he
 obtain ⟨hle,he⟩ := bif_spec he
 have hle := Nat.le_of_ble_eq_true hle
 generalize hnr : (addNew [] (hs args)).length = nr at he hle ⊢
 have fin : ∀ {s : St},(resE E s fn.results.toList fun vs => finE nr s.hp vs K) = some r → ∃ fr,K fr = some r ∧ nr ≤ fr.objs.length ∧ ∀ {N : Nat} {Z0 : Nat → Prop} {w0 : World} {σ0 : Nat → Sh} {a : Act} {w : World} {Z : Nat → Prop} {σ : Nat → Sh},
   Inv gv nr Z0 w0 σ0 (obsF ins) N s a w Z σ → a.defers = [] ∧ ∃ v,(results fn a.tmps).run P w = .ok v w ∧ RetOk gv Z0 w0 σ0 ins nr fr (.returned v) w := by
  intro s hr
  obtain ⟨vs,h1,il,hx⟩ := resE_snd (gv := gv) hE hr
  unfold finE at h1
  simp only at h1
  split at h1
  case isFalse => cases h1
  rename_i hc
  simp only [Bool.and_eq_true,decide_eq_true_eq] at hc
  obtain ⟨hnd,htk⟩ := hc
  generalize hord : keepOrd nr s.hp vs = ord at h1 hnd htk
  have hnd := nodupB_iff hnd
  have hlen : nr ≤ ord.length := by
   have := congrArg List.length htk
   rw [List.length_take,List.length_range] at this
   omega
  refine ⟨_,h1,by rw [List.length_map]; exact hlen,fun {N Z0 w0 σ0 a w Z σ} I => ⟨I.df,?_⟩⟩
  obtain ⟨us,h2,h3⟩ := hx I.sr
  have hlive : ∀ h ∈ ord,σ h ≠ .un := by
   subst hord
   refine clos_live (hp := s.hp) I.sr.mem (fun h hh => ?_) (fun _ _ => rfl)
   rcases mem_addNew.1 hh with hh | hh
   ·have := List.mem_range.1 hh
    exact (I.rt h this).un (I.rl h this)
   ·exact h3.live h hh
  obtain ⟨σc,c1,c2,c3,c4,c5,c6⟩ := I.sr.mem.rename hgv hnd hlive
  refine ⟨_,?_,Z,σc,retV_snd (us := us.toArray) (by simpa using c6 h3) (isL_ren _ _ il),c4,I.ext.sub c5,fun h hh => ?_,fun i => ⟨fun e => ?_,fun e => c2 i (by simpa using e)⟩⟩
  ·rw [results_eq,Sem.run_bind,Array.mapM_eq_mapM_toList]
   have hmm : (List.toArray <$> fn.results.toList.mapM (resOf a)).run P w = .ok us.toArray w := by
    simp only [Sem.run_map,h2]
    rfl
   rw [hmm]
   rfl
  ·have e : ord[h]? = some h := by
    have := congrArg (fun l => l[h]?) htk
    simp only [List.getElem?_take,if_pos hh,List.getElem?_range hh] at this
    exact this
   rw [c1 h h e]
   exact shCo_w (I.rt h hh) (I.rl h hh)
  ·rcases Nat.lt_or_ge i ord.length with hi | hi
   ·exact absurd e (c3 i hi)
   ·simpa using hi
 have hN : fn.ntmps ≤ args.len + (fn.ntmps - args.len) := by omega
 obtain ⟨x,s',h1,h2⟩ := evC_snd (N := args.len + (fn.ntmps - args.len)) hm hE hg hO hgv c he (dstC_mono hN hd)
 have start : ∀ (Z : Nat → Prop) (w : World) (σ : Nat → Sh) (vs : Array Value),VR Z w σ args vs.toList → isL args = true → MR gv Z w σ (obsF ins) → (∀ i,σ i = .un ↔ ins.length ≤ i) →
   Inv gv nr Z w σ (obsF ins) (args.len + (fn.ntmps - args.len)) { tm := args.nth,hp := fun i => ins.getD i .dead,n := ins.length } { tmps := vs ++ Array.replicate (fn.ntmps - vs.size) undef,defers := [] } w Z σ := by
  intro Z w σ vs hv il m hu
  have hl := hv.len il
  rw [Array.length_toList] at hl
  refine ⟨⟨m,fun t => ?_⟩,Ext.refl _ _ _ _,fun _ _ => .same _,fun h hh e => by have := (hu h).1 e; omega,fun h hh => (hu h).2 hh,by simp [hl],rfl⟩
  rcases Nat.lt_or_ge t args.len with ht | ht
  ·obtain ⟨v,e1,e2⟩ := hv.nth ht
   have e3 : (vs ++ Array.replicate (fn.ntmps - vs.size) undef).getD t undef = v := by
    rw [Array.getD_eq_getD_getElem?,Array.getElem?_append_left (by omega)]
    rw [Array.getElem?_toList] at e1
    rw [e1]
    rfl
   show VR Z w σ (args.nth t) [(vs ++ Array.replicate (fn.ntmps - vs.size) undef).getD t undef]
   rw [e3]
   exact e2
  ·show VR Z w σ (args.nth t) _
   rw [nth_out (hv.prL il) ht]
   exact ⟨_,rfl⟩
 cases x with
 | ex id => cases h1
 | nm =>
  obtain ⟨s2,h3,h4⟩ := gsE_snd hgv h1
  obtain ⟨fr,k1,k2,k3⟩ := fin h3
  refine ⟨fr,k1,k2,fun Z w σ vs hv il m hu => calls_of_wp hf hb (wp_mono (h2 (start Z w σ vs hv il m hu)) fun e a w' hq => ?_)⟩
  cases e with
  | normal =>
   obtain ⟨_,Z1,σ1,I1⟩ := hq
   obtain ⟨Z2,σ2,I2⟩ := h4 I1
   exact k3 I2
  | ret => exact absurd hq.1 (by simp)
  | exit _ => exact absurd hq.1 (by simp)
  | goto l => exact hq.elim
  | panic _ => exact hq.elim
  | outgrown => exact hq.elim
 | rt =>
  obtain ⟨fr,k1,k2,k3⟩ := fin h1
  refine ⟨fr,k1,k2,fun Z w σ vs hv il m hu => calls_of_wp hf hb (wp_mono (h2 (start Z w σ vs hv il m hu)) fun e a w' hq => ?_)⟩
  cases e with
  | normal => exact absurd hq.1 (by simp)
  | ret =>
   obtain ⟨_,Z1,σ1,I1⟩ := hq
   exact k3 I1
  | exit _ => exact absurd hq.1 (by simp)
  | goto l => exact hq.elim
  | panic _ => exact hq.elim
  | outgrown => exact hq.elim
end
end Go.Proofs.YtkeiedikiiccpaaGreatDoor.Am
