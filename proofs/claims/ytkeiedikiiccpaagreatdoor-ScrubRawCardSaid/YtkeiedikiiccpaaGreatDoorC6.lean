/- The machine on typed data is sound: what it computes is what the model does. -/
import Derived.Test.YtkeiedikiiccpaaGreatDoorC5
set_option linter.all false
namespace Go.Proofs.YtkeiedikiiccpaaGreatDoor.Am
open Go
section
variable {P : Program} {E : Env} {gv : Nat → AV} {Z Z' : Nat → Prop} {w w' : World} {σ σ' : Nat → Sh} {hp hp' : Nat → Ob}
theorem MR.write (m : MR gv Z w σ hp) {h b : Nat} (hbl : blks (hp h) (σ h) b) (ds : List Nat) (hds : ∀ g ∈ ds,hp g ≠ .dead ∧ g ≠ h) (hw : ∀ b',b' ≠ b → w'.heap[b']? = w.heap[b']?) (hsz : w'.heap.size = w.heap.size) (hos : w'.os = w.os) (htape : w'.tape = w.tape) (hout : w'.output = w.output)
  {s' : Sh} {ob' : Ob} (hs' : s' ≠ .un) (hsl : Sle s' (σ h)) (hor : ∀ σ',(∀ g,Sle (σ' g) (σ g)) → OR Z w' σ' ob' s') (hsub : ∀ b,blks ob' s' b → blks (hp h) (σ h) b ∨ ∃ g ∈ ds,blks (hp g) (σ g) b) :
  ∃ σ',MR gv Z w' σ' (upd (wrs hp (ds.map fun g => (g,.dead))) h ob') ∧ Ext Z w σ hp Z w' σ' (upd (wrs hp (ds.map fun g => (g,.dead))) h ob') ∧ (∀ g,Sle (σ' g) (σ g)) ∧ (∀ g,σ' g = .un ↔ σ g = .un) ∧ Kept Z w Z w' := by
 have hu : σ h ≠ .un := fun e => by
  rw [m.un h e] at hbl
  cases hs : σ h <;> rw [hs] at hbl <;> exact hbl.elim
 have hnd : h ∉ ds := fun hm => (hds h hm).2 rfl
 have hsle : ∀ g,Sle (upd (fun g => if g ∈ ds then Sh.no else σ g) h s' g) (σ g) := fun g => by
  by_cases hh : g = h
  ·subst hh
   rw [upd_same]
   exact hsl
  ·rw [upd_ne _ _ hh]
   by_cases hd : g ∈ ds
   ·simp only [if_pos hd]
    exact .dead _ fun e => (hds g hd).1 (m.un g e)
   ·simp only [if_neg hd]
    exact .same _
 have hst := MR.step (σ' := upd (fun g => if g ∈ ds then Sh.no else σ g) h s') (hp' := upd (wrs hp (ds.map fun g => (g,.dead))) h ob') (Z' := Z) (w' := w') m (fun g => g = h ∨ g ∈ ds) (fun g k => (g ∈ ds ∧ k = h) ∨ (g ∉ ds ∧ k = g)) (fun _ _ => False) hos htape hout (by omega)
  (fun b' _ ho => hw b' fun e => ho ⟨h,by rw [e]; exact hbl⟩) (fun _ h => h) (fun b hb => .inl hb) (fun b hb => by have := m.zlt b hb; omega) hsle
  (fun g hg => by
   have h1 : g ≠ h := fun e => hg (.inl e)
   have h2 : g ∉ ds := fun e => hg (.inr e)
   refine ⟨by rw [upd_ne _ _ h1,wrs_dead,if_neg h2],by rw [upd_ne _ _ h1]; simp only [if_neg h2],fun b' hb' => ⟨hw b' fun e => h1 (m.sep g h b (e ▸ hb') hbl),(m.olt ⟨g,hb'⟩).2⟩⟩)
  (fun g hg => by
   by_cases h1 : g = h
   ·subst h1
    rw [upd_same,upd_same]
    refine ⟨fun _ => hor _ hsle,fun e => absurd e hs',fun b' hb' => .inl ?_⟩
    rcases hsub b' hb' with hx | ⟨k,hk,hx⟩
    ·exact ⟨g,.inr ⟨hnd,rfl⟩,hx⟩
    ·exact ⟨k,.inl ⟨hk,rfl⟩,hx⟩
   ·have h2 : g ∈ ds := hg.resolve_left h1
    rw [upd_ne _ _ h1,upd_ne _ _ h1,wrs_dead,if_pos h2]
    simp only [if_pos h2]
    exact ⟨fun _ => (by simp [OR]),fun e => (by cases e),fun b hb => hb.elim⟩)
  (fun g hg => .inr ⟨fun e => hg (.inr e),rfl⟩)
  (fun g h h' e1 e2 => by
   rcases e1 with ⟨a1,a2⟩ | ⟨a1,a2⟩ <;> rcases e2 with ⟨b1,b2⟩ | ⟨b1,b2⟩
   ·exact a2.trans b2.symm
   ·exact absurd a1 b1
   ·exact absurd b1 a1
   ·exact a2.trans b2.symm)
  (fun _ _ h => h.elim) (fun _ _ _ h => h.elim)
 refine ⟨_,hst.1,hst.2,hsle,fun g => ?_,⟨fun _ h => h,fun b' hb' => hw b' fun e => (m.olt ⟨h,hbl⟩).2 (e ▸ hb')⟩⟩
 by_cases hh : g = h
 ·subst hh
  rw [upd_same]
  exact ⟨fun e => absurd e hs',fun e => absurd e hu⟩
 ·rw [upd_ne _ _ hh]
  by_cases hd : g ∈ ds
  ·simp only [if_pos hd]
   exact ⟨fun e => (by cases e),fun e => absurd (m.un g e) (hds g hd).1⟩
  ·simp only [if_neg hd]
theorem run_storeAt (hE : EnvOk P E) {t : Nat} (ht : (E.ti t).ok = true) {b q : Nat} {x : Value} {cur : Array Value} {el : TypeId} (hsz : x.cells.size = (E.ti t).size) (hg : w.heap[b]? = some (.cells cur el (0,0))) (hfit : q + x.cells.size ≤ cur.size) (h1 : ∀ v ∈ x.cells.toList,v.oneCell' = true) :
  (Instr.storeAt t (.pointer (some ⟨b,q,none⟩)) x).run P w = .ok () (w.setRow b (cur.toList.take q ++ x.cells.toList ++ cur.toList.drop (q + x.cells.size)).toArray) := by
 have hs := run_size (w := w) (hE.tab t ht)
 have hst := run_storeCells_at P b q el x.cells.toList 0 cur w hg (by simpa using hfit) h1
 simp only [Nat.add_zero,Array.length_toList] at hst
 simp [Instr.storeAt,Instr.sureAddr,storeVar,hs,hsz,hst]
end
section
variable {P : Program} {E : Env} {gv : Nat → AV} {hp : Nat → Ob} {o : Oper} {tm : Nat → AV} {n : Nat} {K : Eff → Option FRes} {r : FRes}
theorem wrs_upd_F (hp hp0 : Nat → Ob) {h : Nat} (ob : Ob) {fs : List Nat} (hn : h ∉ fs) : wrs (upd hp0 h ob) (fs.map (toF hp)) = upd (wrs hp0 (fs.map (toF hp))) h ob := by
 funext g
 rw [wrs_F]
 by_cases hg : g = h
 ·subst hg
  rw [if_neg hn,upd_same,upd_same]
 ·rw [upd_ne _ _ hg,upd_ne _ _ hg,wrs_F]
theorem wrs_upd_dead (hp0 : Nat → Ob) {h : Nat} (ob : Ob) {ds : List Nat} (hn : h ∉ ds) : wrs (upd hp0 h ob) (ds.map fun g => (g,.dead)) = upd (wrs hp0 (ds.map fun g => (g,.dead))) h ob := by
 funext g
 rw [wrs_dead]
 by_cases hg : g = h
 ·subst hg
  rw [if_neg hn,upd_same,upd_same]
 ·rw [upd_ne _ _ hg,upd_ne _ _ hg,wrs_dead]
theorem OpSnd.store {e : Eff} {h : Nat} {ob' : Ob} {fs ds : List Nat} (hfd : (ds = [] ∧ e.wr = (h,ob') :: fs.map (toF hp)) ∨ (fs = [] ∧ e.wr = (h,ob') :: ds.map fun g => (g,.dead))) (hv : e.v = .any) (hrd : ∀ g ∈ fs ++ ds,g ∈ e.rd) (hfs : h ∉ fs) (hds : ∀ g ∈ ds,hp g ≠ .dead ∧ g ≠ h) (hnw : e.nw = [])
  (H : ∀ (tm' : Nat → AV) (hp' : Nat → Ob) (Z : Nat → Prop) (w : World) (σ : Nat → Sh) (a : Act),(∀ t ∈ opT o,tm' t = tm t) → (∀ h ∈ e.rd,hp' h = hp h) → SR gv Z w σ tm' hp' a →
   (∀ g ∈ fs,hp' g ≠ .dead) ∧ ∃ w' b s',(execOp a.eval o).run P w = .ok .skip w' ∧ blks (hp' h) (σ h) b ∧ (∀ b',b' ≠ b → w'.heap[b']? = w.heap[b']?) ∧ w'.heap.size = w.heap.size ∧ w'.os = w.os ∧ w'.tape = w.tape ∧ w'.output = w.output ∧ s' ≠ .un ∧ Sle s' (σ h) ∧
    (∀ b,blks ob' s' b → blks (hp' h) (σ h) b ∨ ∃ g ∈ ds,blks (hp' g) (σ g) b) ∧
    (∀ Z',Z' = ZF Z σ hp' fs → Kept Z w Z' w' → (∀ b,blks (hp' h) (σ h) b → ¬ Z' b) → ∀ σ',(∀ g,Sle (σ' g) (σ g)) → OR Z' w' σ' ob' s')) : OpSnd P gv o tm hp n e := by
 intro tm' hp' Z w σ a h1 h2 _ h4 h5 h6 K Q hK
 obtain ⟨hl,w',b,s',hr,hbl,hw,hsz,hos,htape,hout,hs',hsl,hsub,hor⟩ := H tm' hp' Z w σ a h1 h2 h5
 have hds' : ∀ g ∈ ds,hp' g ≠ .dead ∧ g ≠ h := fun g hg => ⟨by rw [h2 g (hrd g (by simp [hg]))]; exact (hds g hg).1,(hds g hg).2⟩
 obtain ⟨σ1,m1,x1,s1,un1,e1,_⟩ := h5.mem.frz fs hl
 have hph : wrs hp' (fs.map (toF hp')) h = hp' h := by rw [wrs_F,if_neg hfs]
 have hσh : σ1 h = σ h := e1 h hfs
 have hbl1 : blks (wrs hp' (fs.map (toF hp')) h) (σ1 h) b := by rw [hph,hσh]; exact hbl
 have hdf : ∀ g ∈ ds,wrs hp' (fs.map (toF hp')) g = hp' g ∧ σ1 g = σ g := fun g hg => by
  rcases hfd with ⟨e,_⟩ | ⟨e,_⟩
  ·rw [e] at hg; cases hg
  ·subst e
   exact ⟨rfl,e1 g (by simp)⟩
 have hzn : ∀ b,blks (hp' h) (σ h) b → ¬ ZF Z σ hp' fs b := fun b hb hz => by
  rw [← hph,← hσh] at hb
  exact (m1.olt ⟨h,hb⟩).2 hz
 have hk : Kept Z w (ZF Z σ hp' fs) w' := ⟨fun b hb => .inl hb,fun b' hb' => hw b' fun e => (h5.mem.olt ⟨h,hbl⟩).2 (e ▸ hb')⟩
 obtain ⟨σ2,m2,x2,s2,un2,k2⟩ := m1.write hbl1 ds (fun g hg => ⟨by rw [(hdf g hg).1]; exact (hds' g hg).1,(hds g hg).2⟩) hw hsz hos htape hout hs' (by rw [hσh]; exact hsl)
  (fun σ' hs => hor _ rfl hk hzn σ' fun g => (hs g).trans (s1 g)) (fun b hb => by
   rw [hph,hσh]
   rcases hsub b hb with hx | ⟨g,hg,hx⟩
   ·exact .inl hx
   ·exact .inr ⟨g,hg,by rw [(hdf g hg).1,(hdf g hg).2]; exact hx⟩)
 have hsle : ∀ g,Sle (σ2 g) (σ g) := fun g => (s2 g).trans (s1 g)
 have hwr : wrs hp' e.wr = upd (wrs (wrs hp' (fs.map (toF hp'))) (ds.map fun g => (g,.dead))) h ob' := by
  rcases hfd with ⟨e2,e3⟩ | ⟨e2,e3⟩
  ·subst e2
   rw [e3,toF_congr fun g hg => h2 g (hrd g (by simp [hg]))]
   show wrs (upd hp' h ob') (fs.map (toF hp')) = _
   rw [wrs_upd_F hp' hp' ob' hfs]
   rfl
  ·subst e2
   rw [e3]
   show wrs (upd hp' h ob') (ds.map fun g => (g,.dead)) = _
   rw [wrs_upd_dead hp' ob' fun hm => (hds h hm).2 rfl]
   rfl
 unfold Oper.wp
 rw [hr]
 show K (a.put o.dst undef) w'
 rw [hnw,hwr,hv] at hK
 refine hK _ w' _ σ2 (h5.put m2 hk hsle ⟨undef,rfl⟩ h6) (x1.trans x2) hsle ⟨fun g hg e => hg ((un1 g).1 ((un2 g).1 e)),fun g hg => by simp [news] at hg,fun g hu _ => (un2 g).2 ((un1 g).2 hu)⟩ (size_put _ _ _) (defers_put _ _ _)
theorem RowAt.set {Z Z' : Nat → Prop} {w w' : World} {b s i : Nat} {e : Ty} {xs : List e.den} {x : e.den} {l : List Value} (h : RowAt Z w b s e xs) (k : Kept Z w Z' w') (hx : PV Z' w' e x l) (hc : ∀ j v,l[j]? = some v → w'.cell? ⟨b,s + i * e.sz + j,none⟩ = some v)
  (ho : ∀ q,¬ (s + i * e.sz ≤ q ∧ q < s + (i + 1) * e.sz) → w'.cell? ⟨b,q,none⟩ = w.cell? ⟨b,q,none⟩) : RowAt Z' w' b s e (xs.set i x) := fun j y hy => by
 by_cases hj : i = j
 ·subst hj
  rw [List.getElem?_set_self'] at hy
  obtain ⟨_,_,rfl⟩ := Option.map_eq_some_iff.1 hy
  exact ⟨l,hx,fun q v hq => hc q v hq⟩
 ·rw [List.getElem?_set_ne hj] at hy
  obtain ⟨l',h1,h2⟩ := h j y hy
  refine ⟨l',h1.kept k,fun q v hq => ?_⟩
  have hql := (List.getElem?_eq_some_iff.1 hq).1
  rw [PV.length e h1] at hql
  rw [ho,h2 q v hq]
  intro hh
  rcases Nat.lt_or_ge j i with hlt | hge
  ·have : (j + 1) * e.sz ≤ i * e.sz := Nat.mul_le_mul_right _ hlt
   rw [Nat.add_mul,Nat.one_mul] at this
   omega
  ·have : (i + 1) * e.sz ≤ j * e.sz := Nat.mul_le_mul_right _ (by omega)
   omega
theorem elem_write {Z Z' : Nat → Prop} {w w' : World} {σ : Nat → Sh} {b s i of : Nat} {e : Ty} {xs : List e.den} {x' : e.den} {v' : AV} {u : Value} {cur : Array Value} {el : TypeId} (hrow : RowAt Z w b s e xs) (hi : i < xs.length) (hg : w.heap[b]? = some (.cells cur el (0,0)))
  (hlen : s + xs.length * e.sz ≤ cur.size) (kz : Kept Z w Z' w) (hnz : ¬ Z' b) (hv : VR Z' w σ v' [u]) (hck : cellsOk v' = true) (hfit : of + v'.cells.len ≤ e.sz) (hof : ofC e ((toC e (rdE e xs i)).put of v'.cells) = some (x',.e0))
  (hw' : w' = w.setRow b (cur.toList.take (s + i * e.sz + of) ++ u.cells.toList ++ cur.toList.drop (s + i * e.sz + of + u.cells.size)).toArray) :
  s + i * e.sz + of + u.cells.size ≤ cur.size ∧ (∀ v ∈ u.cells.toList,v.oneCell' = true) ∧ RowAt Z' w' b s e (xs.set i x') ∧ (∀ k,Blk w b k → Blk w' b k) := by
 obtain ⟨l,h1,h2⟩ := hrow i _ (rdE_of hi)
 have hl := PV.length e h1
 obtain ⟨c1,c2⟩ := cells_VR hv hck
 have hcl := c1.len c2
 rw [Array.length_toList] at hcl
 have h1' : PV Z' w e (rdE e xs i) l := h1.kept kz
 obtain ⟨p1,p2,p3⟩ := put_VR (off := of) (PV.toC (σ := σ) e h1') (isL_toC e _) c1 c2 (by rw [(PV.toC (σ := σ) e h1').len (isL_toC e _),hl]; exact hfit)
 obtain ⟨l1,l2,hsp,hp1,hp2,_⟩ := ofC_PV e hof p1 p2
 cases hp2
 rw [List.append_nil] at hsp
 have hold : ∀ j,w.cell? ⟨b,j,none⟩ = cur[j]? := fun j => by simp [World.cell?,hg]
 have hub : s + i * e.sz + e.sz ≤ cur.size := by
  have : (i + 1) * e.sz ≤ xs.length * e.sz := Nat.mul_le_mul_right _ hi
  rw [Nat.add_mul,Nat.one_mul] at this
  omega
 have hq : s + i * e.sz + of + u.cells.size ≤ cur.size := by omega
 have hne : ∀ b',b' ≠ b → w'.heap[b']? = w.heap[b']? := fun b' hb' => by rw [hw']; exact setRow_other w b b' _ hb'
 have hkk : Kept Z' w Z' w' := ⟨fun _ h => h,fun b' hb' => hne b' fun e => hnz (e ▸ hb')⟩
 have hcell : ∀ j,w'.cell? ⟨b,j,none⟩ = if s + i * e.sz + of ≤ j ∧ j < s + i * e.sz + of + u.cells.size then u.cells.toList[j - (s + i * e.sz + of)]? else cur[j]? := fun j => by
  rw [hw',setRow_cell hg,List.getElem?_toArray]
  have := splice_get cur.toList u.cells.toList (s + i * e.sz + of) j (by simpa using hq)
  rw [Array.length_toList] at this
  rw [this]
  simp
 have hone : ∀ v ∈ u.cells.toList,v.oneCell' = true := fun v hv => PV.one e hp1 v (by rw [← hsp]; simp [hv])
 refine ⟨hq,hone,RowAt.set hrow (kz.trans hkk) (hp1.kept hkk) (fun j v hj => ?_) (fun q hqn => ?_),fun k hk => ?_⟩
 ·rw [← hsp] at hj
  rw [splice_get l u.cells.toList of j (by rw [Array.length_toList]; omega),Array.length_toList] at hj
  rw [hcell]
  split at hj
  ·rename_i hc
   rw [if_pos (by omega),← hj]
   congr 1
   omega
  ·rename_i hc
   rw [if_neg (by omega),← hold]
   exact h2 j v hj
 ·rw [hcell,hold,if_neg]
  intro hc
  apply hqn
  rw [Nat.add_mul,Nat.one_mul]
  omega
 ·obtain ⟨c,el',e1,e2⟩ := hk
  rw [hg] at e1
  cases e1
  refine ⟨_,el,by rw [hw']; exact setRow_heap w b cur _ el (0,0) hg,?_⟩
  rw [List.size_toArray]
  simp only [List.length_append,List.length_take,List.length_drop,Array.length_toList]
  omega
theorem setRow_facts (w : World) (b : Nat) (cs : Array Value) : (∀ b',b' ≠ b → (w.setRow b cs).heap[b']? = w.heap[b']?) ∧ (w.setRow b cs).heap.size = w.heap.size ∧ (w.setRow b cs).os = w.os ∧ (w.setRow b cs).tape = w.tape ∧ (w.setRow b cs).output = w.output :=
 ⟨fun b' hb' => setRow_other w b b' cs hb',size_setRow w b cs,rfl,rfl,rfl⟩
theorem run_store_op {t : Nat} {x y : Operand} (ho : o.op = .store t x y) (a : Act) (w : World) : (execOp a.eval o).run P w = ((Instr.storeAt t (a.eval x) (a.eval y)).run P w).andThen fun _ w => .ok .skip w := by
 simp only [execOp,ho,Sem.run_bind,Sem.run_pure]
theorem store_B (hE : EnvOk P E) (hg : E.gl = gv) {t : Nat} {x y : Operand} (ho : o.op = .store t x y) (ht : (E.ti t).ok = true) {g i of : Nat} (hx : evA E tm x = .ptr g i of) {cs : AV} (hgo : hp g = .B cs)
  (hc : i = 0 ∧ of + (E.ti t).size ≤ cs.len ∧ (evA E tm y).cells.len = (E.ti t).size ∧ oneAll (evA E tm y).cells = true) {e : Eff} (he : e = { v := .any,rd := [g],wr := [(g,.B (cs.put of (evA E tm y).cells))] }) : OpSnd P gv o tm hp n e := by
 subst he
 obtain ⟨rfl,hc1,hc2,hc3⟩ := hc
 refine OpSnd.store (fs := []) (ds := []) (.inl ⟨rfl,rfl⟩) rfl (by simp) (by simp) (by simp) rfl fun tm' hp' Z w σ a ht' hh hs => ⟨by simp,?_⟩
 have hxv : VR Z w σ (evA E tm x) [a.eval x] := evA_op hg hs ht' (by simp [ho,Op.operands])
 have hyv : VR Z w σ (evA E tm y) [a.eval y] := evA_op hg hs ht' (by simp [ho,Op.operands])
 have hgo' : hp' g = .B cs := (hh g (by simp)).trans hgo
 obtain ⟨b,c,el,h1,h2,h3,h4,h5⟩ := hs.mem.B hgo'
 rw [hx] at hxv
 obtain ⟨v0,e1,hv⟩ := hxv
 simp only [List.cons.injEq,and_true] at e1
 rw [← e1,h1] at hv
 obtain ⟨_,e2⟩ := hv
 have hck : cellsOk (evA E tm y) = true := by
  cases hyy : evA E tm y <;> rw [hyy] at hc3 <;> first | rfl | (simpa [AV.cells,oneAll,cellsOk] using hc3)
 obtain ⟨d1,d2⟩ := cells_VR hyv hck
 have hlc := h4.len h5
 have hld := d1.len d2
 rw [Array.length_toList] at hlc hld
 obtain ⟨p1,p2,p3⟩ := put_VR (off := of) h4 h5 d1 d2 (by omega)
 have hr := run_storeAt (P := P) (w := w) (q := of) (x := a.eval y) hE ht (by omega) h2 (by omega) (oneAll_VR d1 hc3)
 obtain ⟨f1,f2,f3,f4,f5⟩ := setRow_facts w b (c.toList.take of ++ (a.eval y).cells.toList ++ c.toList.drop (of + (a.eval y).cells.size)).toArray
 refine ⟨_,b,.B b cs.len,by rw [run_store_op ho,e2,hr]; rfl,by rw [hgo',h1]; exact rfl,f1,f2,f3,f4,f5,by simp,by rw [h1]; exact .same _,fun b' hb' => .inl (by rw [hgo',h1]; exact hb'),fun Z' hZ' hk hnz σ' hsl => ?_⟩
 refine ⟨b,_,el,by rw [p3],setRow_heap w b c _ el (0,0) h2,hnz b (by rw [hgo',h1]; exact rfl),?_,p2⟩
 rw [Array.length_toList] at p1
 exact p1.mono hk fun h _ => hsl h
theorem store_L (hE : EnvOk P E) (hg : E.gl = gv) {t : Nat} {x y : Operand} (ho : o.op = .store t x y) (ht : (E.ti t).ok = true) {g i of : Nat} (hx : evA E tm x = .ptr g i of) {e : Ty} {xs : List e.den} (hgo : hp g = .L e xs) {v' : AV} {fs : List Nat} (hfz : frz hp (evA E tm y) = some (v',fs)) (hnf : fs.contains g = false) (hck : cellsOk v' = true)
  (h : (match (E.ti t).ab with
    | some (_,m) => if i = 0 ∧ of = 0 ∧ v'.cells.len = (E.ti t).size then match ofCs e m v'.cells with
     | some ys => if ys.length = xs.length then K { v := .any,rd := g :: fs,wr := (g,.L e ys) :: fs.map (toF hp) } else none
     | none => none
     else none
    | none => if v'.cells.len = (E.ti t).size ∧ of + (E.ti t).size ≤ e.sz then match ofC e ((toC e (rdE e xs i)).put of v'.cells) with
     | some (x,.e0) => K { v := .any,rd := g :: fs,wr := (g,.L e (xs.set i x)) :: fs.map (toF hp) }
     | _ => none
     else none) = some r) : Snd P gv o tm hp n K r := by
 have hgfs : g ∉ fs := fun hm => by
  have := List.contains_iff_mem.2 hm
  rw [hnf] at this
  cases this
 have common : ∀ (ys : List e.den),ys.length = xs.length → (∀ {hp' : Nat → Ob} {Z Z' : Nat → Prop} {w : World} {σ : Nat → Sh} {u : Value} {b s m : Nat} {cur : Array Value} {el : TypeId},RowAt Z w b s e xs → w.heap[b]? = some (.cells cur el (0,0)) → s + xs.length * e.sz ≤ cur.size → Kept Z w Z' w → ¬ Z' b →
   VR Z' w σ v' [u] → i < xs.length → m = s + i * e.sz + of → ∀ w',w' = w.setRow b (cur.toList.take m ++ u.cells.toList ++ cur.toList.drop (m + u.cells.size)).toArray → m + u.cells.size ≤ cur.size ∧ (∀ v ∈ u.cells.toList,v.oneCell' = true) ∧ u.cells.size = (E.ti t).size ∧ RowAt Z' w' b s e ys ∧ (∀ k,Blk w b k → Blk w' b k)) →
   OpSnd P gv o tm hp n { v := .any,rd := g :: fs,wr := (g,.L e ys) :: fs.map (toF hp) } := by
  intro ys hyl hyw
  refine OpSnd.store (fs := fs) (ds := []) (.inl ⟨rfl,rfl⟩) rfl (by simp; exact fun _ h => .inr h) hgfs (by simp) rfl fun tm' hp' Z w σ a ht' hh hs => ?_
  have hxv : VR Z w σ (evA E tm x) [a.eval x] := evA_op hg hs ht' (by simp [ho,Op.operands])
  have hyv : VR Z w σ (evA E tm y) [a.eval y] := evA_op hg hs ht' (by simp [ho,Op.operands])
  have hgo' : hp' g = .L e xs := (hh g (by simp)).trans hgo
  obtain ⟨p,h1,h2⟩ := hs.mem.L hgo'
  obtain ⟨k1,k2,k3,_⟩ := frz_VR (σ' := σ) hs.mem (ZF_kept hs.mem fs) hfz (fun h hm => hh h (by simp [hm])) (fun h hm b hb => .inr ⟨h,hm,hb⟩) hyv
  refine ⟨k2,?_⟩
  rw [hx] at hxv
  obtain ⟨v0,e1,hv⟩ := hxv
  simp only [List.cons.injEq,and_true] at e1
  rw [← e1,h1] at hv
  obtain ⟨b,s,m,rfl,e2,hi⟩ := hv
  obtain ⟨o1,⟨cur,el,o2,o3⟩,o4,o5⟩ := h2
  have hcl : s + xs.length * e.sz ≤ cur.size := by
   have : xs.length * e.sz ≤ m * e.sz := Nat.mul_le_mul_right _ o1
   omega
  have hnz : ¬ ZF Z σ hp' fs b := fun hz => by
   rcases hz with hz | ⟨k,hk,hz⟩
   ·exact o4 hz
   ·exact hgfs (hs.mem.sep g k b (by rw [hgo',h1]; exact rfl) hz ▸ hk)
  obtain ⟨q1,q2,q3,q4,q5⟩ := hyw (Z' := ZF Z σ hp' fs) (hp' := hp') o5 o2 hcl (ZF_kept hs.mem fs) hnz k1 hi rfl _ rfl
  have hr := run_storeAt (P := P) (w := w) (q := s + i * e.sz + of) (x := a.eval y) hE ht q3 o2 q1 q2
  obtain ⟨f1,f2,f3,f4,f5⟩ := setRow_facts w b (cur.toList.take (s + i * e.sz + of) ++ (a.eval y).cells.toList ++ cur.toList.drop (s + i * e.sz + of + (a.eval y).cells.size)).toArray
  refine ⟨_,b,.S e.sz xs.length (some (b,s,m)) none,by rw [run_store_op ho,e2,hr]; rfl,by rw [hgo',h1]; exact rfl,f1,f2,f3,f4,f5,by simp,by rw [h1]; exact .same _,fun b' hb' => .inl (by rw [hgo',h1]; exact hb'),fun Z' hZ' hk hnz' σ' hsl => ?_⟩
  subst hZ'
  exact ⟨some (b,s,m),by rw [hyl],by rw [hyl]; exact o1,q5 _ ⟨cur,el,o2,o3⟩,hnz,q4⟩
 split at h
 ·rename_i e0 m hab
  split at h
  case isFalse => cases h
  rename_i hc
  obtain ⟨rfl,rfl,hc3⟩ := hc
  split at h
  case h_2 => cases h
  rename_i ys hys
  split at h
  case isFalse => cases h
  rename_i hyl
  refine ⟨_,h,common ys hyl ?_⟩
  intro hp' Z Z' w σ u b s m0 cur el hrow hgw hcl kz hnz hv hi hm w' hw'
  obtain ⟨c1,c2⟩ := cells_VR hv hck
  have hcl2 := c1.len c2
  rw [Array.length_toList] at hcl2
  obtain ⟨a1,a2,a3⟩ := ofCs_PV e m hys c1 c2
  rw [Array.length_toList] at a2
  have hm0 : m0 = s := by simpa using hm
  subst hm0
  have hlen : u.cells.size = xs.length * e.sz := by rw [a2,← a1,hyl]
  have hne : ∀ b',b' ≠ b → w'.heap[b']? = w.heap[b']? := fun b' hb' => by rw [hw']; exact setRow_other w b b' _ hb'
  have hkk : Kept Z' w Z' w' := ⟨fun _ h => h,fun b' hb' => hne b' fun e => hnz (e ▸ hb')⟩
  have hcell : ∀ j,w'.cell? ⟨b,j,none⟩ = if m0 ≤ j ∧ j < m0 + u.cells.size then u.cells.toList[j - m0]? else cur[j]? := fun j => by
   rw [hw',setRow_cell hgw,List.getElem?_toArray]
   have := splice_get cur.toList u.cells.toList m0 j (by simp only [Array.length_toList]; omega)
   rw [Array.length_toList] at this
   rw [this]
   simp
  refine ⟨by omega,fun v hvm => ?_,by omega,fun q y hy => ?_,fun k hk => ?_⟩
  ·obtain ⟨j,hj,rfl⟩ := List.mem_iff_getElem.1 hvm
   rw [Array.length_toList] at hj
   have hpos : 0 < e.sz := by
    rcases Nat.eq_zero_or_pos e.sz with h0 | h0
    ·rw [h0] at hlen; omega
    ·exact h0
   have hjd : j / e.sz < ys.length := by
    rw [hyl]
    exact Nat.div_lt_of_lt_mul (by rw [Nat.mul_comm]; omega)
   obtain ⟨l1,b1,b2⟩ := a3 (j / e.sz) ys[j / e.sz] (by simp [hjd])
   have hl1 := PV.length e b1
   have hmod : j % e.sz < l1.length := by rw [hl1]; exact Nat.mod_lt _ hpos
   have b3 := b2 (j % e.sz) (l1[j % e.sz]) (by simp [hmod])
   have e3 : j / e.sz * e.sz + j % e.sz = j := Nat.div_add_mod' j e.sz
   rw [e3] at b3
   have := PV.one e b1 l1[j % e.sz] (by simp)
   have e4 : u.cells.toList[j]'(by simpa using hj) = l1[j % e.sz] := by
    have h5 := List.getElem?_eq_some_iff.1 b3
    exact h5.2
   rw [e4]
   exact this
  ·obtain ⟨l1,b1,b2⟩ := a3 q y hy
   refine ⟨l1,b1.kept hkk,fun j v hj => ?_⟩
   have b3 := b2 j v hj
   have := (List.getElem?_eq_some_iff.1 b3).1
   rw [Array.length_toList] at this
   rw [hcell,if_pos (by omega),← b3]
   congr 1
   omega
  ·obtain ⟨c,el',e1,e2⟩ := hk
   rw [hgw] at e1
   cases e1
   refine ⟨_,el,by rw [hw']; exact setRow_heap w b cur _ el (0,0) hgw,?_⟩
   rw [List.size_toArray]
   simp only [List.length_append,List.length_take,List.length_drop,Array.length_toList]
   omega
 ·split at h
  case isFalse => cases h
  rename_i hc
  split at h
  case h_2 => cases h
  rename_i x' hof
  refine ⟨_,h,common (xs.set i x') (List.length_set ..) ?_⟩
  intro hp' Z Z' w σ u b s m0 cur el hrow hgw hcl kz hnz hv hi hm w' hw'
  subst hm
  obtain ⟨r1,r2,r3,r4⟩ := elem_write hrow hi hgw hcl kz hnz hv hck (by omega) hof hw'
  obtain ⟨c1,c2⟩ := cells_VR hv hck
  have hcl2 := c1.len c2
  rw [Array.length_toList] at hcl2
  exact ⟨r1,r2,by omega,r3,r4⟩
end
section
variable {P : Program} {E : Env} {gv : Nat → AV} {Z Z' : Nat → Prop} {w w' : World} {σ σ' : Nat → Sh} {hp hp' : Nat → Ob}
def idsL (ids : Option (List Nat)) (n : Nat) : List Nat := match ids with
 | none => List.range n
 | some l => l
theorem ZF_nil (Z : Nat → Prop) (σ : Nat → Sh) (hp : Nat → Ob) : ZF Z σ hp [] = Z := by
 funext b
 simp [ZF]
theorem Own.nz {p : Pl} {e : Ty} {xs : List e.den} (h : Own Z w p e xs) : ∀ b,plB p b → ¬ Z b := fun b hb => by
 match p,h,hb with
 | some (b',s,m),⟨_,_,h3,_⟩,hb => cases hb; exact h3
theorem rows_put {e : Ty} {st : List (List e.den)} {pd : Option (Nat × List e.den)} {r : NI} {b s m : Nat} (h : Rws Z w e none st pd (some (b,s,m)) r) {i : Nat} (hi : i < st.length) {q : Pl} {ys : List e.den} {u : Value} (hq : Own Z w q e ys) (hh : Hdr e.sz q 0 ys.length u)
  (hqp : ∀ b',plB q b' → b' ≠ b) (hqr : ∀ b' j,plB q b' → j < st.length → plB (r.row j).1 b' → j = i) (hne : ∀ b',b' ≠ b → w'.heap[b']? = w.heap[b']?) (hc : w'.cell? ⟨b,s + i,none⟩ = some u) (hc2 : ∀ k,k ≠ i → w'.cell? ⟨b,s + k,none⟩ = w.cell? ⟨b,s + k,none⟩) (hbk : ∀ k,Blk w b k → Blk w' b k) (v' : Nat) :
  Rws Z w' e none (st.set i ys) none (some (b,s,m)) { v := v',sz := r.sz,row := fun j => if j = i then (q,ys.length) else r.row j,pd := none } := by
 obtain ⟨b1,b2,b3⟩ := h.blk b s m rfl
 have hk : Kept Z w Z w' := ⟨fun _ h => h,fun b' hb' => hne b' fun e => b3 (e ▸ hb')⟩
 have hoff : ∀ j b',j < st.length → plB (r.row j).1 b' → b' ≠ b := fun j b' hj hb' e => h.off b j rfl hj (e ▸ hb')
 refine { sz := h.sz,out := fun j hj => ?_,len := fun j xs hx => ?_,own := fun j xs hx => ?_,head := fun j hj => ?_,blk := fun b' s' m' e => ?_,off := fun b' j hb' hj hx => ?_,sep := fun b' j k hj hk h1 h2 => ?_,pd0 := fun _ => rfl,pd1 := fun _ _ h => (by cases h) }
 ·rw [List.length_set] at hj
  simp only [if_neg (show j ≠ i by omega)]
  exact h.out j hj
 ·by_cases hji : j = i
  ·subst hji
   rw [List.getElem?_set_self hi] at hx
   cases hx
   simp
  ·rw [List.getElem?_set_ne (Ne.symm hji)] at hx
   simp only [if_neg hji]
   exact h.len j xs hx
 ·by_cases hji : j = i
  ·subst hji
   rw [List.getElem?_set_self hi] at hx
   cases hx
   simp only [if_true]
   exact hq.kept hk (fun b' hb' => hne b' (hqp b' hb')) hq.nz
  ·rw [List.getElem?_set_ne (Ne.symm hji)] at hx
   simp only [if_neg hji]
   have hjl := (List.getElem?_eq_some_iff.1 hx).1
   exact (h.own j xs hx).kept hk (fun b' hb' => hne b' (hoff j b' hjl hb')) (h.own j xs hx).nz
 ·simp only [numOf,List.length_set] at hj
  obtain ⟨b',s',m',x,e1,e2,e3⟩ := h.head j hj
  cases e1
  by_cases hji : j = i
  ·subst hji
   refine ⟨b,s,m,u,rfl,hc,?_⟩
   show Hdr e.sz (if j = j then (q,ys.length) else r.row j).1 0 (if j = j then (q,ys.length) else r.row j).2 u
   rw [if_pos rfl]
   exact hh
  ·refine ⟨b,s,m,x,rfl,by rw [hc2 j hji]; exact e2,?_⟩
   show Hdr e.sz (if j = i then (q,ys.length) else r.row j).1 0 (if j = i then (q,ys.length) else r.row j).2 x
   rw [if_neg hji]
   exact e3
 ·cases e
  exact ⟨by simpa [numOf] using b1,hbk _ b2,b3⟩
 ·rw [List.length_set] at hj
  have hbb : b' = b := by simpa [plB] using hb'
  simp only at hx
  split at hx
  ·exact hqp b' hx hbb
  ·exact hoff j b' hj hx hbb
 ·rw [List.length_set] at hj hk
  simp only at h1 h2
  split at h1 <;> split at h2
  ·omega
  ·have := hqr b' k h1 hk h2
   omega
  ·have := hqr b' j h2 hj h1
   omega
  ·exact h.sep b' j k hj hk h1 h2
theorem rows_swap {e : Ty} {ids : Option (List Nat)} {st : List (List e.den)} {pd : Option (Nat × List e.den)} {r : NI} {b s m : Nat} (h : Rws Z w e ids st pd (some (b,s,m)) r) {i id : Nat} {u : Value} {l : List Nat} (hl : l = idsL ids st.length) (hi : i < numOf ids st)
  (hh : Hdr e.sz (r.row id).1 0 (r.row id).2 u) (hne : ∀ b',b' ≠ b → w'.heap[b']? = w.heap[b']?) (hc : w'.cell? ⟨b,s + i,none⟩ = some u) (hc2 : ∀ k,k ≠ i → w'.cell? ⟨b,s + k,none⟩ = w.cell? ⟨b,s + k,none⟩) (hbk : ∀ k,Blk w b k → Blk w' b k) :
  Rws Z w' e (some (l.set i id)) st none (some (b,s,m)) { r with pd := none } ∧ numOf (some (l.set i id)) st = numOf ids st := by
 have hnum : numOf (some (l.set i id)) st = numOf ids st := by
  subst hl
  cases ids <;> simp [numOf,idsL]
 have hat : ∀ j,j < numOf ids st → idAt (some (l.set i id)) j = if j = i then id else idAt ids j := fun j hj => by
  have hll : l.length = numOf ids st := by
   subst hl
   cases ids <;> simp [numOf,idsL]
  by_cases hji : j = i
  ·subst hji
   simp only [idAt,if_true]
   rw [List.getD_eq_getElem?_getD,List.getElem?_set_self (by omega)]
   rfl
  ·simp only [if_neg hji,idAt]
   rw [List.getD_eq_getElem?_getD,List.getElem?_set_ne (Ne.symm hji)]
   subst hl
   cases ids with
   | none =>
    simp only [numOf] at hj
    simp [hj,idAt,idsL]
   | some l' => simp [idAt,idsL]
 obtain ⟨b1,b2,b3⟩ := h.blk b s m rfl
 have hk : Kept Z w Z w' := ⟨fun _ h => h,fun b' hb' => hne b' fun e => b3 (e ▸ hb')⟩
 have hoff : ∀ j b',j < st.length → plB (r.row j).1 b' → b' ≠ b := fun j b' hj hb' e => h.off b j rfl hj (e ▸ hb')
 refine ⟨{ sz := h.sz,out := h.out,len := h.len,own := fun j xs hx => ?_,head := fun j hj => ?_,blk := fun b' s' m' e => ?_,off := h.off,sep := h.sep,pd0 := fun _ => rfl,pd1 := fun _ _ h => (by cases h) },hnum⟩
 ·have hjl := (List.getElem?_eq_some_iff.1 hx).1
  exact (h.own j xs hx).kept hk (fun b' hb' => hne b' (hoff j b' hjl hb')) (h.own j xs hx).nz
 ·rw [hnum] at hj
  obtain ⟨b',s',m',x,e1,e2,e3⟩ := h.head j hj
  cases e1
  rw [hat j hj]
  by_cases hji : j = i
  ·subst hji
   rw [if_pos rfl]
   exact ⟨b,s,m,u,rfl,hc,hh⟩
  ·rw [if_neg hji]
   exact ⟨b,s,m,x,rfl,by rw [hc2 j hji]; exact e2,e3⟩
 ·cases e
  rw [hnum]
  exact ⟨b1,hbk _ b2,b3⟩
end
section
variable {P : Program} {E : Env} {gv : Nat → AV} {hp : Nat → Ob} {o : Oper} {tm : Nat → AV} {n : Nat} {K : Eff → Option FRes} {r : FRes}
theorem head_write (hE : EnvOk P E) {t : Nat} (ht : (E.ti t).ok = true) (hsz : (E.ti t).size = 1) {w : World} {b s i m : Nat} {u : Value} (hu : u.oneCell' = true) (hb : Blk w b (s + m)) (hi : i < m) :
  ∃ w',(Instr.storeAt t (.pointer (some ⟨b,s + i,none⟩)) u).run P w = .ok () w' ∧ (∀ b',b' ≠ b → w'.heap[b']? = w.heap[b']?) ∧ w'.heap.size = w.heap.size ∧ w'.os = w.os ∧ w'.tape = w.tape ∧ w'.output = w.output ∧ w'.cell? ⟨b,s + i,none⟩ = some u ∧
   (∀ k,k ≠ i → w'.cell? ⟨b,s + k,none⟩ = w.cell? ⟨b,s + k,none⟩) ∧ ∀ k,Blk w b k → Blk w' b k := by
 obtain ⟨cur,el,h1,h2⟩ := hb
 have hc := cells_one hu
 have hr := run_storeAt (P := P) (w := w) (q := s + i) (x := u) hE ht (by rw [hc,hsz]; rfl) h1 (by rw [hc]; simp; omega) (by rw [hc]; simpa using hu)
 obtain ⟨f1,f2,f3,f4,f5⟩ := setRow_facts w b (cur.toList.take (s + i) ++ u.cells.toList ++ cur.toList.drop (s + i + u.cells.size)).toArray
 have hcell : ∀ j,(w.setRow b (cur.toList.take (s + i) ++ u.cells.toList ++ cur.toList.drop (s + i + u.cells.size)).toArray).cell? ⟨b,j,none⟩ = if j = s + i then some u else w.cell? ⟨b,j,none⟩ := fun j => by
  rw [setRow_cell h1,List.getElem?_toArray]
  have := splice_get cur.toList u.cells.toList (s + i) j (by rw [hc]; simp; omega)
  rw [Array.length_toList] at this
  rw [this,hc]
  by_cases hj : j = s + i
  ·subst hj
   simp
  ·rw [if_neg (by simp; omega),if_neg hj]
   simp [World.cell?,h1]
 refine ⟨_,hr,f1,f2,f3,f4,f5,by rw [hcell,if_pos rfl],fun k hk => by rw [hcell,if_neg (by omega)],fun k hk => ?_⟩
 obtain ⟨c,el',e1,e2⟩ := hk
 rw [h1] at e1
 cases e1
 refine ⟨_,el,setRow_heap w b cur _ el (0,0) h1,?_⟩
 rw [List.size_toArray,hc]
 simp only [List.length_append,List.length_take,List.length_drop,Array.length_toList,List.size_toArray,List.length_cons,List.length_nil]
 omega
theorem store_pap (hE : EnvOk P E) (hg : E.gl = gv) {t : Nat} {x y : Operand} (ho : o.op = .store t x y) (ht : (E.ti t).ok = true) (hsz : (E.ti t).size = 1) {g i : Nat} (hx : evA E tm x = .ptr g i 0) {e : Ty} {st : List (List e.den)} {v : Nat} {ys : List e.den} (hgo : hp g = .N e none st v (some (i,ys)))
  (hy : evA E tm y = .pap g v) : OpSnd P gv o tm hp n { v := .any,rd := [g],wr := [(g,.N e none (st.set i ys) (v + 1) none)] } := by
 refine OpSnd.store (fs := []) (ds := []) (.inl ⟨rfl,rfl⟩) rfl (by simp) (by simp) (by simp) rfl fun tm' hp' Z w σ a ht' hh hs => ⟨by simp,?_⟩
 rw [ZF_nil]
 have hxv : VR Z w σ (evA E tm x) [a.eval x] := evA_op hg hs ht' (by simp [ho,Op.operands])
 have hyv : VR Z w σ (evA E tm y) [a.eval y] := evA_op hg hs ht' (by simp [ho,Op.operands])
 have hgo' : hp' g = _ := (hh g (by simp)).trans hgo
 obtain ⟨p,q,h1,h2,h3⟩ := hs.mem.N hgo'
 rw [hx] at hxv
 obtain ⟨v0,e1,hv⟩ := hxv
 simp only [List.cons.injEq,and_true] at e1
 rw [← e1,h1] at hv
 obtain ⟨b,s,m,rfl,e2,hi⟩ := hv
 rw [hy] at hyv
 obtain ⟨u0,e3,hyv⟩ := hyv
 simp only [List.cons.injEq,and_true] at e3
 rw [← e3] at hyv
 have hone := hyv.one
 rw [h1] at hyv
 obtain ⟨_,hyv⟩ := hyv
 obtain ⟨qp,d1,d2,d3,d4⟩ := h3.pd1 i ys rfl
 have hyv := hyv (by rw [h2]) qp ys.length d1
 obtain ⟨b1,b2,b3⟩ := h3.blk b s m rfl
 obtain ⟨w',r1,r2,r3,r4,r5,r6,r7,r8,r9⟩ := head_write (P := P) (w := w) (i := i) hE ht hsz hone b2 (by omega)
 have hst : i < st.length := hi
 refine ⟨w',b,.S 1 (numOf none (st.set i ys)) (some (b,s,m)) (some { v := v + 1,sz := q.sz,row := fun j => if j = i then (qp,ys.length) else q.row j,pd := none }),by rw [run_store_op ho,e2]; simp only [Nat.mul_one,Nat.add_zero]; rw [r1]; rfl,by rw [hgo',h1]; exact .inl rfl,r2,r3,r4,r5,r6,by simp,
  by rw [h1]; simp only [numOf,List.length_set]; exact .rows _ _ _ _ _ (.inl (by simp [h2])),fun b' hb' => .inl ?_,fun Z' hZ' hk hnz σ' hsl => ?_⟩
 ·rw [hgo',h1]
  rcases hb' with hb' | ⟨j,hj,hb'⟩ | ⟨hp0,_⟩
  ·exact .inl hb'
  ·rw [List.length_set] at hj
   simp only at hb'
   split at hb'
   ·exact .inr (.inr ⟨rfl,qp,_,d1,hb'⟩)
   ·exact .inr (.inl ⟨j,hj,hb'⟩)
  ·cases hp0
 ·subst hZ'
  exact ⟨_,_,rfl,rfl,rows_put h3 hst d2 (by rw [← h3.sz]; exact hyv) (fun b' hb' e => d3 b' hb' (by rw [e]; rfl)) (fun b' j h1 h2 h3 => d4 b' j h1 h2 h3) r2 r7 r8 r9 _⟩
theorem store_sl (hE : EnvOk P E) (hg : E.gl = gv) {t : Nat} {x y : Operand} (ho : o.op = .store t x y) (ht : (E.ti t).ok = true) (hsz : (E.ti t).size = 1) {g i g2 : Nat} (hx : evA E tm x = .ptr g i 0) {e : Ty} {st : List (List e.den)} {v : Nat} {pd : Option (Nat × List e.den)} {ys : List e.den} (hgo : hp g = .N e none st v pd)
  (hy : evA E tm y = .sl g2 none none) (hg2 : hp g2 = .L e ys) (hne : g2 ≠ g) : OpSnd P gv o tm hp n { v := .any,rd := [g,g2],wr := [(g,.N e none (st.set i ys) (v + 1) none),(g2,.dead)] } := by
 refine OpSnd.store (fs := []) (ds := [g2]) (.inr ⟨rfl,rfl⟩) rfl (by simp) (by simp) (by simp [hg2]; exact hne) rfl fun tm' hp' Z w σ a ht' hh hs => ⟨by simp,?_⟩
 rw [ZF_nil]
 have hxv : VR Z w σ (evA E tm x) [a.eval x] := evA_op hg hs ht' (by simp [ho,Op.operands])
 have hyv : VR Z w σ (evA E tm y) [a.eval y] := evA_op hg hs ht' (by simp [ho,Op.operands])
 have hgo' : hp' g = _ := (hh g (by simp)).trans hgo
 have hg2' : hp' g2 = _ := (hh g2 (by simp)).trans hg2
 obtain ⟨p,q,h1,h2,h3⟩ := hs.mem.N hgo'
 rw [hx] at hxv
 obtain ⟨v0,e1,hv⟩ := hxv
 simp only [List.cons.injEq,and_true] at e1
 rw [← e1,h1] at hv
 obtain ⟨b,s,m,rfl,e2,hi⟩ := hv
 rw [hy] at hyv
 have hone := oneA_VR hyv rfl
 obtain ⟨p2,k1,k2,k3⟩ := hs.mem.whole hg2' hyv
 obtain ⟨b1,b2,b3⟩ := h3.blk b s m rfl
 obtain ⟨w',r1,r2,r3,r4,r5,r6,r7,r8,r9⟩ := head_write (P := P) (w := w) (i := i) hE ht hsz hone b2 (by omega)
 have hst : i < st.length := hi
 have hbl2 : ∀ b',plB p2 b' → blks (hp' g2) (σ g2) b' := fun b' hb' => by rw [hg2',k1]; exact hb'
 have hblg : blks (hp' g) (σ g) b := by rw [hgo',h1]; exact .inl rfl
 refine ⟨w',b,.S 1 (numOf none (st.set i ys)) (some (b,s,m)) (some { v := v + 1,sz := q.sz,row := fun j => if j = i then (p2,ys.length) else q.row j,pd := none }),by rw [run_store_op ho,e2]; simp only [Nat.mul_one,Nat.add_zero]; rw [r1]; rfl,hblg,r2,r3,r4,r5,r6,by simp,
  by rw [h1]; simp only [numOf,List.length_set]; exact .rows _ _ _ _ _ (.inl (by simp [h2])),fun b' hb' => ?_,fun Z' hZ' hk hnz σ' hsl => ?_⟩
 ·rcases hb' with hb' | ⟨j,hj,hb'⟩ | ⟨hp0,_⟩
  ·exact .inl (by rw [hgo',h1]; exact .inl hb')
  ·rw [List.length_set] at hj
   simp only at hb'
   split at hb'
   ·exact .inr ⟨g2,by simp,hbl2 b' hb'⟩
   ·exact .inl (by rw [hgo',h1]; exact .inr (.inl ⟨j,hj,hb'⟩))
  ·cases hp0
 ·subst hZ'
  refine ⟨_,_,rfl,rfl,rows_put h3 hst k2 k3 (fun b' hb' e => hne (hs.mem.sep g2 g b (e ▸ hbl2 b' hb') hblg)) (fun b' j h1' h2' h3' => ?_) r2 r7 r8 r9 _⟩
  exact absurd (hs.mem.sep g2 g b' (hbl2 b' h1') (by rw [hgo',h1]; exact .inr (.inl ⟨j,h2',h3'⟩))) hne
theorem store_row (hE : EnvOk P E) (hg : E.gl = gv) {t : Nat} {x y : Operand} (ho : o.op = .store t x y) (ht : (E.ti t).ok = true) (hsz : (E.ti t).size = 1) {g i id : Nat} (hx : evA E tm x = .ptr g i 0) {e : Ty} {ids : Option (List Nat)} {st : List (List e.den)} {v : Nat} {pd : Option (Nat × List e.den)} (hgo : hp g = .N e ids st v pd)
  (hy : evA E tm y = .row g id none none v) {l : List Nat} (hl : l = idsL ids st.length) : OpSnd P gv o tm hp n { v := .any,rd := [g],wr := [(g,.N e (some (l.set i id)) st v none)] } := by
 refine OpSnd.store (fs := []) (ds := []) (.inl ⟨rfl,rfl⟩) rfl (by simp) (by simp) (by simp) rfl fun tm' hp' Z w σ a ht' hh hs => ⟨by simp,?_⟩
 rw [ZF_nil]
 have hxv : VR Z w σ (evA E tm x) [a.eval x] := evA_op hg hs ht' (by simp [ho,Op.operands])
 have hyv : VR Z w σ (evA E tm y) [a.eval y] := evA_op hg hs ht' (by simp [ho,Op.operands])
 have hgo' : hp' g = _ := (hh g (by simp)).trans hgo
 obtain ⟨p,q,h1,h2,h3⟩ := hs.mem.N hgo'
 rw [hx] at hxv
 obtain ⟨v0,e1,hv⟩ := hxv
 simp only [List.cons.injEq,and_true] at e1
 rw [← e1,h1] at hv
 obtain ⟨b,s,m,rfl,e2,hi⟩ := hv
 rw [hy] at hyv
 have hone := oneA_VR hyv rfl
 obtain ⟨u0,e3,hyv⟩ := hyv
 simp only [List.cons.injEq,and_true] at e3
 rw [← e3,h1] at hyv
 obtain ⟨_,hyv⟩ := hyv
 have hyv : Hdr q.sz (q.row id).1 0 (q.row id).2 (a.eval y) := by simpa [ofs,slenN] using (hyv (by rw [h2])).1
 obtain ⟨b1,b2,b3⟩ := h3.blk b s m rfl
 obtain ⟨w',r1,r2,r3,r4,r5,r6,r7,r8,r9⟩ := head_write (P := P) (w := w) (i := i) hE ht hsz hone b2 (by omega)
 obtain ⟨t1,t2⟩ := rows_swap (id := id) h3 hl hi (by rw [← h3.sz]; exact hyv) r2 r7 r8 r9
 refine ⟨w',b,.S 1 (numOf (some (l.set i id)) st) (some (b,s,m)) (some { q with pd := none }),by rw [run_store_op ho,e2]; simp only [Nat.mul_one,Nat.add_zero]; rw [r1]; rfl,by rw [hgo',h1]; exact .inl rfl,r2,r3,r4,r5,r6,by simp,
  by rw [h1,t2]; exact .rows _ _ _ _ _ (.inr ⟨rfl,rfl,rfl,.inr rfl⟩),fun b' hb' => .inl ?_,fun Z' hZ' hk hnz σ' hsl => ?_⟩
 ·rw [hgo',h1]
  rcases hb' with hb' | hb' | ⟨hp0,_⟩
  ·exact .inl hb'
  ·exact .inr (.inl hb')
  ·cases hp0
 ·subst hZ'
  exact ⟨_,_,rfl,h2,t1⟩
theorem store_prw (hE : EnvOk P E) (hg : E.gl = gv) {t : Nat} {x y : Operand} (ho : o.op = .store t x y) (ht : (E.ti t).ok = true) {g id j of : Nat} {v : Nat} (hx : evA E tm x = .prw g id j of v) {e : Ty} {ids : Option (List Nat)} {st : List (List e.den)} {pd : Option (Nat × List e.den)} (hgo : hp g = .N e ids st v pd) {v' : AV} (hfz : frz hp (evA E tm y) = some (v',[]))
  (hc : v'.cells.len = (E.ti t).size ∧ of + (E.ti t).size ≤ e.sz ∧ cellsOk v' = true) {x' : e.den} (hof : ofC e ((toC e (rdE e (rowOf st id) j)).put of v'.cells) = some (x',.e0)) :
  OpSnd P gv o tm hp n { v := .any,rd := [g],wr := [(g,.N e ids (st.set id (List.set (rowOf st id) j x')) v none)] } := by
 refine OpSnd.store (fs := []) (ds := []) (.inl ⟨rfl,rfl⟩) rfl (by simp) (by simp) (by simp) rfl fun tm' hp' Z w σ a ht' hh hs => ⟨by simp,?_⟩
 rw [ZF_nil]
 have hxv : VR Z w σ (evA E tm x) [a.eval x] := evA_op hg hs ht' (by simp [ho,Op.operands])
 have hyv : VR Z w σ (evA E tm y) [a.eval y] := evA_op hg hs ht' (by simp [ho,Op.operands])
 have hgo' : hp' g = _ := (hh g (by simp)).trans hgo
 obtain ⟨p,q,h1,h2,h3⟩ := hs.mem.N hgo'
 obtain ⟨k1,_,_,_⟩ := frz_VR (σ' := σ) hs.mem (Kept.refl Z w) hfz (by simp) (by simp) hyv
 rw [hx] at hxv
 obtain ⟨v0,e1,hv⟩ := hxv
 simp only [List.cons.injEq,and_true] at e1
 rw [← e1,h1] at hv
 obtain ⟨_,hv⟩ := hv
 obtain ⟨b,s,m,e3,e2,hj⟩ := hv (by rw [h2])
 rw [h3.lenOf] at hj
 have hid : id < st.length := by
  rcases Nat.lt_or_ge id st.length with hi | hi
  ·exact hi
  ·simp [rowOf,List.getElem?_eq_none hi] at hj
 have hro : st[id]? = some (rowOf st id) := by simp [rowOf,hid]
 have hown := h3.own id _ hro
 rw [e3] at hown
 obtain ⟨o1,⟨cur,el,o2,o3⟩,o4,o5⟩ := hown
 have hcl : s + (rowOf st id).length * e.sz ≤ cur.size := by
  have : (rowOf st id).length * e.sz ≤ m * e.sz := Nat.mul_le_mul_right _ o1
  omega
 obtain ⟨c1,c2⟩ := cells_VR k1 hc.2.2
 have hcl2 := c1.len c2
 rw [Array.length_toList] at hcl2
 obtain ⟨f1,f2,f3,f4,f5⟩ := setRow_facts w b (cur.toList.take (s + j * e.sz + of) ++ (a.eval y).cells.toList ++ cur.toList.drop (s + j * e.sz + of + (a.eval y).cells.size)).toArray
 obtain ⟨q1,q2,q3,q4⟩ := elem_write o5 hj o2 hcl (Kept.refl Z w) o4 k1 hc.2.2 (by omega) hof rfl
 have hr := run_storeAt (P := P) (w := w) (q := s + j * e.sz + of) (x := a.eval y) hE ht (by omega) o2 q1 q2
 have hbr : blks (hp' g) (σ g) b := by rw [hgo',h1]; exact .inr (.inl ⟨id,hid,by rw [e3]; rfl⟩)
 rw [h3.sz] at e2
 refine ⟨_,b,.S 1 (numOf ids (st.set id (List.set (rowOf st id) j x'))) p (some { q with pd := none }),by rw [run_store_op ho,e2,hr]; rfl,hbr,f1,f2,f3,f4,f5,by simp,
  by rw [h1]; have : numOf ids (st.set id (List.set (rowOf st id) j x')) = numOf ids st := (by cases ids <;> simp [numOf]); rw [this]; exact .rows _ _ _ _ _ (.inr ⟨rfl,rfl,rfl,.inr rfl⟩),fun b' hb' => .inl ?_,fun Z' hZ' hk hnz σ' hsl => ?_⟩
 ·rw [hgo',h1]
  rcases hb' with hb' | ⟨k,hk,hb'⟩ | ⟨hp0,_⟩
  ·exact .inl hb'
  ·exact .inr (.inl ⟨k,by simpa using hk,hb'⟩)
  ·cases hp0
 ·subst hZ'
  have hnum : numOf ids (st.set id (List.set (rowOf st id) j x')) = numOf ids st := by cases ids <;> simp [numOf]
  have hpne : ∀ b',plB p b' → b' ≠ b := fun b' hb' e => h3.off b' id hb' hid (by rw [e3,e]; rfl)
  have hrne : ∀ k b',k < st.length → k ≠ id → plB (q.row k).1 b' → b' ≠ b := fun k b' hk hne hb' e => hne (h3.sep b k id hk hid (e ▸ hb') (by rw [e3]; rfl))
  refine ⟨p,_,rfl,h2,{ sz := h3.sz,out := fun k hk' => h3.out k (by simpa using hk'),len := fun k xs hx => ?_,own := fun k xs hx => ?_,head := fun k hk' => ?_,blk := fun b' s' m' e => ?_,off := fun b' k hb' hk' => h3.off b' k hb' (by simpa using hk'),sep := fun b' k k' hk1 hk2 => h3.sep b' k k' (by simpa using hk1) (by simpa using hk2),pd0 := fun _ => rfl,pd1 := fun _ _ h => (by cases h) }⟩
  ·by_cases hki : id = k
   ·subst hki
    rw [List.getElem?_set_self hid] at hx
    cases hx
    rw [List.length_set]
    exact h3.len id _ hro
   ·rw [List.getElem?_set_ne hki] at hx
    exact h3.len k xs hx
  ·by_cases hki : id = k
   ·subst hki
    rw [List.getElem?_set_self hid] at hx
    cases hx
    show Own _ _ (q.row id).1 e _
    rw [e3]
    exact ⟨by rw [List.length_set]; exact o1,q4 _ ⟨cur,el,o2,o3⟩,o4,q3⟩
   ·rw [List.getElem?_set_ne hki] at hx
    have hkl := (List.getElem?_eq_some_iff.1 hx).1
    exact (h3.own k xs hx).kept hk (fun b' hb' => f1 b' (hrne k b' hkl (Ne.symm hki) hb')) (h3.own k xs hx).nz
  ·rw [hnum] at hk'
   obtain ⟨b',s',m',x0,g1,g2,g3⟩ := h3.head k hk'
   refine ⟨b',s',m',x0,g1,?_,g3⟩
   rw [World.cell?_of_block (w := w) (a := ⟨b',s' + k,none⟩) (f1 b' (hpne b' (by simp [g1,plB])))]
   exact g2
  ·obtain ⟨g1,g2,g3⟩ := h3.blk b' s' m' e
   exact ⟨by rw [hnum]; exact g1,g2.kept (f1 b' (hpne b' (by simp [e,plB]))),g3⟩
theorem snd_store (hE : EnvOk P E) (hg : E.gl = gv) {t : Nat} {x y : Operand} (ho : o.op = .store t x y) (h : storeE E hp t (evA E tm x) (evA E tm y) K = some r) : Snd P gv o tm hp n K r := by
 unfold storeE at h
 cases ht : (E.ti t).ok
 ·rw [ht] at h; cases h
 rw [ht] at h
 simp only [Bool.not_true,cond_false] at h
 split at h
 ·rename_i g i of hx
  split at h
  ·rename_i cs hgo
   split at h
   case isFalse => cases h
   rename_i hc
   exact ⟨_,h,store_B hE hg ho ht hx hgo hc rfl⟩
  ·rename_i e xs hgo
   split at h
   case h_2 => cases h
   rename_i v' fs hfz
   split at h
   case isTrue => cases h
   rename_i hc
   simp only [Bool.or_eq_true,not_or,Bool.not_eq_true,Bool.not_eq_false',Bool.not_eq_true'] at hc
   exact store_L hE hg ho ht hx hgo hfz hc.1 (by simpa using hc.2) h
  ·rename_i e ids st v pd hgo
   split at h
   case isFalse => cases h
   rename_i hc
   obtain ⟨rfl,hsz⟩ := hc
   split at h
   ·rename_i g2 v2 hy
    split at h
    ·rename_i id ys
     split at h
     case isFalse => cases h
     rename_i hc2
     obtain ⟨rfl,rfl⟩ := hc2
     split at h
     case isFalse => cases h
     rename_i hii
     subst hii
     exact ⟨_,h,store_pap hE hg ho ht hsz hx hgo hy⟩
    ·cases h
   ·rename_i g2 hy
    split at h
    ·split at h
     ·rename_i e' xs hg2
      split at h
      case h_2 => cases h
      rename_i ys hcast
      obtain ⟨he,hzz⟩ := cast_list hcast
      subst he
      have hzz : xs = ys := hzz
      subst hzz
      split at h
      case isTrue => cases h
      rename_i hne
      exact ⟨_,h,store_sl hE hg ho ht hsz hx hgo hy hg2 hne⟩
     ·cases h
    ·cases h
   ·rename_i g2 id v2 hy
    split at h
    case isFalse => cases h
    rename_i hc2
    obtain ⟨rfl,rfl⟩ := hc2
    exact ⟨_,h,store_row hE hg ho ht hsz hx hgo hy (by cases ids <;> rfl)⟩
   ·cases h
  ·cases h
 ·rename_i g id j of u hx
  split at h
  case h_2 => cases h
  rename_i e ids st v pd hgo
  split at h
  case isFalse => cases h
  rename_i huv
  subst huv
  split at h
  case h_2 => cases h
  rename_i v' hfz
  split at h
  case isFalse => cases h
  rename_i hc
  split at h
  case h_2 => cases h
  rename_i x' hof
  exact ⟨_,h,store_prw hE hg ho ht hx hgo hfz hc hof⟩
 ·cases h
end
end Go.Proofs.YtkeiedikiiccpaaGreatDoor.Am
