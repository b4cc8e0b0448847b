/- Contracts by hand: slices.Delete, slices.Insert, poly.Eval. -/
import Derived.Test.YtkeiedikiiccpaaGreatDoorProg
import Derived.WalkKit
import Derived.Deep.RegionLaw
import Derived.Lib.SliceRun
import Derived.Lib.AppendZeros
import Derived.Lib.Overlaps
import Derived.Shelf.Spec.SlicesInsert
import Derived.Lib.AppendZerosOnto
import Derived.Laws.NewBlocks
set_option linter.all false
namespace Go.Proofs.YtkeiedikiiccpaaGreatDoor.Am
open Go Go.RowKit
theorem info87 : (Tryz.prog.info? 87).map (fun i => (i.size,i.bytes)) = some (3,40) := by kernel_rfl
def wZero : Value := .agg #[.int .i64 0,.slice none 0 0,.bool false]
theorem zero87 (w : World) : (zeroValue 87).run Tryz.prog w = .ok wZero w := by
 have h : ∃ i,Tryz.prog.info? 87 = some i ∧ i.zero = some wZero := by
  have : (Tryz.prog.info? 87).bind (fun i => i.zero) = some wZero := by kernel_rfl
  cases h : Tryz.prog.info? 87 with
  | none => rw [h] at this; cases this
  | some i => exact ⟨i,rfl,by rw [h] at this; exact this⟩
 obtain ⟨i,h1,h2⟩ := h
 simp [zeroValue,typeInfo,h1,h2]
theorem run_clear_wide {P : Program} (w : World) (t e ty : TypeId) (z : Value) (ht : P.underlying t = some (.slice e)) (hv : ∀ w,(zeroValue e).run P w = .ok z w) (zs : List Value) (b o n c : Nat) (hn : 0 < n)
  (hz : (Builtin.zeroCells z.cells n).toList = zs) (h1 : ∀ v ∈ zs,v.oneCell' = true) (hc : ∀ j,j < zs.length → (w.cell? ⟨b,o + j,none⟩).isSome = true) (hf : ∀ j,j < zs.length → w.frozen? ⟨b,o + j,none⟩ = false) :
  (Builtin.clear_ #[t] ty #[.slice (some ⟨b,o,none⟩) n c]).run P w = .ok (.tuple #[]) (w.setCells b o zs) := by
 have hst := run_storeCells_cells (P := P) b o zs 0 w (by simpa using hc) (by simpa using hf) h1
 simp only [Nat.add_zero] at hst
 obtain ⟨m,rfl⟩ : ∃ m,n = m + 1 := ⟨n - 1,by omega⟩
 simp [Builtin.clear_,run_underlying ht,hv,hz,hst]
theorem zeroCells_len (cs : Array Value) (n : Nat) : (Builtin.zeroCells cs n).size = n * cs.size := by
 simp [Builtin.zeroCells]
theorem zeroCells_one {cs : Array Value} {n : Nat} (h : ∀ v ∈ cs,v.oneCell' = true) : ∀ v ∈ (Builtin.zeroCells cs n).toList,v.oneCell' = true := by
 intro v hv
 obtain ⟨k,hk,rfl⟩ := List.mem_iff_getElem.1 hv
 rw [Array.getElem_toList]
 have h0 : 0 < cs.size := by
  rw [Array.length_toList,zeroCells_len] at hk
  rcases Nat.eq_zero_or_pos cs.size with h | h
  ·rw [h,Nat.mul_zero] at hk
   omega
  ·exact h
 simp only [Builtin.zeroCells]
 simp
 rw [getElem!_pos cs (k % cs.size) (Nat.mod_lt _ h0)]
 exact h _ (by simp)
theorem isSome_sets (b : Nat) (vs : List Value) (o : Nat) (w : World) (h : ∀ j,j < vs.length → (w.cell? ⟨b,o + j,none⟩).isSome = true) (k : Nat) (hk : (w.cell? ⟨b,k,none⟩).isSome = true) : ((w.setCells b o vs).cell? ⟨b,k,none⟩).isSome = true := by
 by_cases hin : o ≤ k ∧ k < o + vs.length
 ·have := World.cell?_setCells_in b vs o w h (k - o) (by omega)
  rw [show o + (k - o) = k by omega] at this
  rw [this]
  rfl
 ·rw [World.cell?_setCells_out b vs o w ⟨b,k,none⟩ fun _ _ => by simp only []; omega]
  exact hk
set_option maxHeartbeats 4000000 in
set_option maxRecDepth 1000000 in
theorem del_walk (b off n c i j : Nat) (olds : List Value) (w : World) (hnc : n ≤ c) (hij : i < j) (hj : j ≤ n) (hl : olds.length = n * 3)
  (hc : ∀ q v,olds[q]? = some v → w.cell? ⟨b,off + q,none⟩ = some v) (hf : ∀ q,q < n * 3 → w.frozen? ⟨b,off + q,none⟩ = false) (h1 : ∀ v ∈ olds,v.oneCell' = true) :
  Calls Tryz.prog 116 #[.slice (some ⟨b,off,none⟩) n c,.int .i64 i,.int .i64 j] w fun e w' => e = .returned (.slice (some ⟨b,off,none⟩) (n - (j - i)) c) ∧
   ∃ zs : List Value,zs.length = (j - i) * 3 ∧ w' = (w.drew.setCells b (off + i * 3) (olds.drop (j * 3))).setCells b (off + (i + (n - j)) * 3) zs := by
 obtain ⟨i0,hi0,hz1,hz2⟩ : ∃ i0,Tryz.prog.info? 87 = some i0 ∧ i0.size = 3 ∧ i0.bytes = 40 := by
  have := info87
  cases h : Tryz.prog.info? 87 with
  | none => rw [h] at this; cases this
  | some i => rw [h] at this; simp at this; exact ⟨i,rfl,this⟩
 obtain ⟨news,hnews⟩ : ∃ news,news = olds.drop (j * 3) := ⟨_,rfl⟩
 have hlen : news.length = (n - j) * 3 := by rw [hnews,List.length_drop,hl,Nat.sub_mul]
 have hget : ∀ t u,news[t]? = some u → w.drew.cell? ⟨b,off + j * 3 + t,none⟩ = some u := fun t u hu => by
  rw [hnews,List.getElem?_drop] at hu
  rw [Nat.add_assoc]
  exact hc _ _ hu
 obtain ⟨A,hA,hsrc⟩ : ∃ A : Addr,(if c = j then some (⟨b,off,none⟩ : Addr) else some ⟨b,off + j * 3,none⟩) = some A ∧ Hid (∀ t u,news[t]? = some u → w.drew.cell? (A.add t) = some u) := by
  by_cases h : c = j
  ·refine ⟨⟨b,off,none⟩,by simp [h],fun t u hu => ?_⟩
   have h0 : news.length = 0 := by rw [hlen]; omega
   rw [List.length_eq_zero_iff.1 h0] at hu
   simp at hu
  ·refine ⟨⟨b,off + j * 3,none⟩,by simp [h],fun t u hu => ?_⟩
   rw [Addr.add_lit]
   exact hget t u hu
 have hsome : ∀ t,t < n * 3 → (w.cell? ⟨b,off + t,none⟩).isSome = true := fun t ht => by
  rw [hc t _ (List.getElem?_eq_getElem (by omega))]
  rfl
 have s1 : Hid (news.length = (n - j) * 3) := hlen
 have s2 : Hid (∀ u ∈ news,u.oneCell' = true) := fun u hu => h1 u (List.mem_of_mem_drop (hnews ▸ hu))
 have s3 : Hid (∀ t,t < news.length → (w.drew.cell? ⟨b,off + i * 3 + t,none⟩).isSome = true ∧ w.drew.frozen? ⟨b,off + i * 3 + t,none⟩ = false) := by
  intro t ht
  rw [hlen] at ht
  rw [Nat.add_assoc]
  exact ⟨hsome _ (by omega),hf _ (by omega)⟩
 obtain ⟨W1,hW1⟩ : ∃ W1,W1 = w.drew.setCells b (off + i * 3) news := ⟨_,rfl⟩
 obtain ⟨zs,hzs⟩ : ∃ zs,zs = (Builtin.zeroCells wZero.cells (n - (i + (n - j)))).toList := ⟨_,rfl⟩
 have hzl : zs.length = (j - i) * 3 := by
  rw [hzs,Array.length_toList,zeroCells_len,show wZero.cells.size = 3 from rfl]
  congr 1
  omega
 have hcl : ∀ ty,(Builtin.clear_ #[26] ty #[.slice (some ⟨b,off + (i + (n - j)) * 3,none⟩) (n - (i + (n - j))) (c - (i + (n - j)))]).run Tryz.prog W1 = .ok (.tuple #[]) (W1.setCells b (off + (i + (n - j)) * 3) zs) :=
  fun ty => run_clear_wide W1 26 87 ty wZero Tryz.underlying26 zero87 zs b _ _ _ (by omega) hzs.symm (by rw [hzs]; exact zeroCells_one (by decide)) (fun t ht => by
   rw [hW1,Nat.add_assoc]
   exact isSome_sets b _ _ _ (fun t ht => by rw [Nat.add_assoc]; exact hsome _ (by omega)) _ (hsome _ (by omega))) (fun t ht => by
   rw [hW1,World.frozen?_setCells,Nat.add_assoc]
   exact hf _ (by omega))
 have hW : Hid (W1 = w.drew.setCells b (off + i * 3) news) := hW1
 have hic : i ≤ c := by omega
 have hjc : j ≤ c := by omega
 clear hW1 hzs hsome hget hc hf
 go_enter Tryz.func116,Tryz.ntmps116
 go_wp2_with fail
 go_region_law (refine step_append_room rfl (.tmp 22) (.tmp 25) 26 rfl 87 i0 3 Tryz.underlying26 hi0 hz1 b off i c (by simp [Act.eval,Act.put]) A (n - j) (c - j) news (by simp [Act.eval,Act.put]) s1.out hsrc.out s2.out (by omega) s3.out ?_; rw [← hW.out])
 go_wp2
 go_ret
 refine ⟨by rw [show n - (j - i) = i + (n - j) by omega]; rfl,zs,hzl,?_⟩
 rw [← hnews,← hW.out]
set_option maxHeartbeats 4000000 in
set_option maxRecDepth 1000000 in
theorem del_walk0 (b : Addr) (n c i : Nat) (w : World) (hnc : n ≤ c) (hi : i ≤ n) :
  Calls Tryz.prog 116 #[.slice (some b) n c,.int .i64 i,.int .i64 i] w fun e w' => e = .returned (.slice (some b) n c) ∧ w' = w := by
 have hic : i ≤ c := by omega
 go_enter Tryz.func116,Tryz.ntmps116
 go_wp2
 all_goals (go_ret; exact ⟨rfl,rfl⟩)
set_option maxHeartbeats 4000000 in
set_option maxRecDepth 1000000 in
theorem del_walkN (w : World) :
  Calls Tryz.prog 116 #[.slice none 0 0,.int .i64 0,.int .i64 0] w fun e w' => e = .returned (.slice none 0 0) ∧ w' = w := by
 go_enter Tryz.func116,Tryz.ntmps116
 go_wp2
 all_goals (go_ret; exact ⟨rfl,rfl⟩)
end Go.Proofs.YtkeiedikiiccpaaGreatDoor.Am
namespace Go.Proofs.YtkeiedikiiccpaaGreatDoor.Am
open Go Go.RowKit Go.Lib
theorem run_copy_wide {P : Program} (w : World) (dT sT ty elem : TypeId) (size b o dLen dCap : Nat) (a : Addr) (sLen sCap : Nat) (cs : List Value)
  (hu : P.underlying dT = some (.slice elem)) (hs : (P.info? elem).map (·.size) = some size) (hn : cs.length = Nat.min sLen dLen * size)
  (hsrc : ∀ j v,cs[j]? = some v → w.cell? (a.add j) = some v) (hc : ∀ j,j < cs.length → (w.cell? ⟨b,o + j,none⟩).isSome = true) (hf : ∀ j,j < cs.length → w.frozen? ⟨b,o + j,none⟩ = false) (h1 : ∀ v ∈ cs,v.oneCell' = true) :
  (Builtin.copy_ #[dT,sT] ty #[.slice (some ⟨b,o,none⟩) dLen dCap,.slice (some a) sLen sCap]).run P w = .ok (goInt (Nat.min sLen dLen)) (w.setCells b o cs) := by
 have hl := run_loadCells_list (P := P) w a cs hsrc
 have hst := run_storeCells_cells (P := P) b o cs 0 w (by simpa using hc) (by simpa using hf) h1
 cases hq : P.info? elem with
 | none => simp [hq] at hs
 | some i =>
  have hi : i.size = size := by simpa [hq] using hs
  simp [Builtin.copy_,run_underlying hu,Builtin.lenOf,Builtin.firstCells,sizeOf,typeInfo,hq,hi,← hn,hl,hst]
theorem run_overlaps_own {P : Program} (w : World) (tS tR e : TypeId) (ht : P.underlying tS = some (.slice e)) (size : Nat) (hz : ∀ w,(Go.sizeOf e).run P w = .ok size w)
  (a b : Addr) (la ca lb cb : Nat) (hne : a.block ≠ b.block) {cA cB : Array Value} {tA tB : TypeId} {fA : Nat × Nat} (hA : w.heap[a.block]? = some (.cells cA tA fA)) (hB : w.heap[b.block]? = some (.cells cB tB (0,0))) (hkA : cA.size ≠ 0) (hkB : cB.size ≠ 0) :
  (Extern.SlicesOverlaps.overlaps #[tS,tS] #[tR] #[.slice (some a) la ca,.slice (some b) lb cb]).run P w = .ok (.bool false) w := by
 have hnb : (a.block != b.block) = true := by simpa using hne
 have hnb' : (a.block == b.block) = false := by simpa using hne
 have hsa : w.shape? a.block = some (tA,cA.size) := by simp [World.shape?,hA]
 have hsb : w.shape? b.block = some (tB,cB.size) := by simp [World.shape?,hB]
 have hfb : ∀ k,w.frozen? { block := b.block,off := k } = false := fun k => by simp [World.frozen?,hB]
 have hfb' : w.frozen? b = false := by simp [World.frozen?,hB]
 change Sem.run P (α := Value) (do
  let some t := (#[tS,tS] : Array TypeId)[0]? | stuck "slices.overlaps: no parameter types"
  let .slice elem ← underlying t | stuck "slices.overlaps: slice type expected"
  let size ← sizeOf elem
  match (some a : Option Addr),(some b : Option Addr) with
  | some a,some b =>
   if la = 0 ∨ lb = 0 ∨ size = 0 then pure (Value.bool false)
   else if a.block != b.block && (← frozen a) && (← frozen b) then unsupported .addressObserved
   else do
    if a.block != b.block then do
     noView a; noView b
     if ← mayBeOne a b then return Value.bool ((← choose (.extern "sameAddr.stringBytes" 2)) == 1)
    pure (Value.bool (a.block == b.block && a.off < b.off + lb * size && b.off < a.off + la * size))
  | _,_ => pure (Value.bool false)) w = _
 by_cases h0 : la = 0 ∨ lb = 0 ∨ size = 0
 ·simp [run_underlying ht,hz,h0]
 ·obtain ⟨kA,hkA⟩ := Nat.exists_eq_succ_of_ne_zero hkA
  obtain ⟨kB,hkB⟩ := Nat.exists_eq_succ_of_ne_zero hkB
  rw [hkA] at hsa
  rw [hkB] at hsb
  cases hfa : w.frozen? a <;> cases hfe : w.frozen? { block := a.block,off := kA + 1 } <;> simp [run_underlying ht,hz,h0,hnb,hnb',frozen,noView,viewAt,mayBeOne,stringish,shape,Sem.run,hsa,hsb,hfa,hfe,hfb,hfb']
set_option maxHeartbeats 4000000 in
set_option maxRecDepth 1000000 in
theorem ins_end (base vb : Option Addr) (n c m vc : Nat) (w w' : World) (u : Value) (hm : 0 < m) (hnc : n ≤ c) (hrun : ∀ ty,(Builtin.append_ #[26,26] ty #[.slice base n c,.slice vb m vc]).run Tryz.prog w = .ok u w') :
  Calls Tryz.prog 117 #[.slice base n c,.int .i64 n,.slice vb m vc] w fun e w'' => e = .returned u ∧ w'' = w' := by
 have hz1 : ¬ ((m : Int) = 0) := by omega
 go_enter Tryz.func117,Tryz.ntmps117
 cases base with
 | none =>
  go_wp2_with (at_builtin; refine Lib.wpList_append_run _ rfl _ _ _ _ rfl _ _ rfl rfl _ _ (hrun _) ?_)
  all_goals (go_ret; exact ⟨rfl,rfl⟩)
 | some a =>
  obtain ⟨ab,ao,asp⟩ := a
  go_wp2_with (at_builtin; refine Lib.wpList_append_run _ rfl _ _ _ _ rfl _ _ rfl rfl _ _ (hrun _) ?_)
  all_goals (go_ret; exact ⟨rfl,rfl⟩)
set_option maxHeartbeats 4000000 in
set_option maxRecDepth 1000000 in
theorem ins_shift (b off n c i vb voff m vc : Nat) (cs vs : List Value) (w : World) (hi : i < n) (hm : 0 < m) (hroom : n + m ≤ c) (hvb : vb ≠ b) (hbig : n + m ≤ 140737488355328)
  (hcl : cs.length = n * 3) (hvl : vs.length = m * 3)
  (hcs : ∀ j v,cs[j]? = some v → w.cell? ⟨b,off + j,none⟩ = some v) (hsp : ∀ j,j < (n + m) * 3 → (w.cell? ⟨b,off + j,none⟩).isSome = true) (hfz : ∀ j,j < (n + m) * 3 → w.frozen? ⟨b,off + j,none⟩ = false)
  (hvs : ∀ j v,vs[j]? = some v → w.cell? ⟨vb,voff + j,none⟩ = some v) (h1c : ∀ v ∈ cs,v.oneCell' = true) (h1v : ∀ v ∈ vs,v.oneCell' = true)
  {cA cB : Array Value} {tA tB : TypeId} {fA : Nat × Nat} (hA : w.heap[vb]? = some (.cells cA tA fA)) (hB : w.heap[b]? = some (.cells cB tB (0,0))) (hkA : cA.size ≠ 0) (hkB : cB.size ≠ 0) :
  Calls Tryz.prog 117 #[.slice (some ⟨b,off,none⟩) n c,.int .i64 i,.slice (some ⟨vb,voff,none⟩) m vc] w fun e w' =>
   e = .returned (.slice (some ⟨b,off,none⟩) (n + m) c) ∧ w' = (w.drew.setCells b (off + (i + m) * 3) (cs.drop (i * 3))).setCells b (off + i * 3) vs := by
 have hz1 : ¬ ((m : Int) = 0) := by omega
 have hz2 : ¬ ((i : Int) = (n : Int)) := by omega
 have hsz : (Tryz.prog.info? 87).map (·.size) = some 3 := by kernel_rfl
 have hso : ∀ w,(Go.sizeOf 87).run Tryz.prog w = .ok 3 w := fun w => by
  cases h : Tryz.prog.info? 87 with
  | none => rw [h] at hsz; cases hsz
  | some j =>
   rw [h] at hsz
   have : j.size = 3 := by simpa using hsz
   simp [Go.sizeOf,typeInfo,h,this]
 have hov : ∀ lb cb,(callFunc 142 #[.slice (some ⟨vb,voff,none⟩) m vc,.slice (some ⟨b,off + (i + m) * 3,none⟩) lb cb]).run Tryz.prog w = .ok (.value (.bool false)) w := fun lb cb => by
  rw [run_callFunc_extern Tryz.func142 (by kernel_rfl) (by kernel_rfl) (by kernel_rfl) (e := Extern.SlicesOverlaps.overlaps #[26,26] #[4]) (by kernel_rfl),
   run_overlaps_own w 26 4 87 Tryz.underlying26 3 hso ⟨vb,voff,none⟩ ⟨b,off + (i + m) * 3,none⟩ m vc lb cb hvb hA hB hkA hkB]
  rfl
 have hdl : (cs.drop (i * 3)).length = (n - i) * 3 := by rw [List.length_drop,hcl]; omega
 have hw1 : IntKind.i64.wrap ((i : Int) + (m : Int)) = (i : Int) + (m : Int) := by rw [IntKind.wrap_i64]; omega
 have hw2 : IntKind.i64.wrap ((n : Int) + (m : Int)) = (n : Int) + (m : Int) := by rw [IntKind.wrap_i64]; omega
 have hb1 : (0 : Int) ≤ (i : Int) + (m : Int) := by omega
 have hin : i ≤ n := by omega
 have htn : ((i : Int) + (m : Int)).toNat = i + m := by omega
 have hb2 : ¬ (c = i + m) := by omega
 have hb3 : (i : Int) ≤ (n : Int) + (m : Int) := by omega
 have hb4 : ¬ (c = i) := by omega
 have hcp1 : ∀ ty dc sc,(Builtin.copy_ #[26,26] ty #[.slice (some ⟨b,off + (i + m) * 3,none⟩) (n + m - (i + m)) dc,.slice (some ⟨b,off + i * 3,none⟩) (n + m - i) sc]).run Tryz.prog w.drew = .ok (goInt ((n - i : Nat) : Int)) (w.drew.setCells b (off + (i + m) * 3) (cs.drop (i * 3))) := fun ty dc sc => by
  have e : Nat.min (n + m - i) (n + m - (i + m)) = n - i := by simp only [Nat.min_def]; split <;> omega
  have := run_copy_wide w.drew 26 26 ty 87 3 b (off + (i + m) * 3) (n + m - (i + m)) dc ⟨b,off + i * 3,none⟩ (n + m - i) sc (cs.drop (i * 3)) Tryz.underlying26 hsz (by rw [hdl,e])
   (fun j v hj => by rw [Addr.add_lit,Nat.add_assoc]; exact hcs (i * 3 + j) v (by rwa [List.getElem?_drop] at hj))
   (fun j hj => by rw [Nat.add_assoc]; exact hsp _ (by omega)) (fun j hj => by rw [Nat.add_assoc]; exact hfz _ (by omega)) (fun v hv => h1c v (List.mem_of_mem_drop hv))
  rwa [e] at this
 obtain ⟨W1,hW1⟩ : ∃ W1,W1 = w.drew.setCells b (off + (i + m) * 3) (cs.drop (i * 3)) := ⟨_,rfl⟩
 have hsp1 : ∀ k,k < (n + m) * 3 → (W1.cell? ⟨b,off + k,none⟩).isSome = true := fun k hk => by
  rw [hW1]
  exact isSome_sets b _ _ _ (fun j hj => by rw [Nat.add_assoc]; exact hsp _ (by omega)) _ (hsp k hk)
 have hcp2 : ∀ (W : World),(∀ x,W.cell? x = W1.cell? x) → (∀ x,W.frozen? x = W1.frozen? x) → ∀ ty dc,(Builtin.copy_ #[26,26] ty #[.slice (some ⟨b,off + i * 3,none⟩) (n + m - i) dc,.slice (some ⟨vb,voff,none⟩) m vc]).run Tryz.prog W = .ok (goInt m) (W.setCells b (off + i * 3) vs) := fun W hWc hWf ty dc => by
  have e : Nat.min m (n + m - i) = m := by simp only [Nat.min_def]; split <;> omega
  have := run_copy_wide W 26 26 ty 87 3 b (off + i * 3) (n + m - i) dc ⟨vb,voff,none⟩ m vc vs Tryz.underlying26 hsz (by rw [hvl,e])
   (fun j v hj => by
    rw [Addr.add_lit,hWc,hW1,World.cell?_setCells_out b _ _ _ _ (fun h _ => absurd h hvb)]
    exact hvs j v hj)
   (fun j hj => by rw [hWc,Nat.add_assoc]; exact hsp1 _ (by omega)) (fun j hj => by rw [hWf,hW1,World.frozen?_setCells,Nat.add_assoc]; exact hfz _ (by omega)) h1v
  rwa [e] at this
 rw [← hW1] at hcp1
 clear hsp1 hsp hfz hcs hvs
 go_enter Tryz.func117,Tryz.ntmps117
 go_wp2_with (simp only [hov])
 go_region_law (refine step_copy_runI rfl _ _ 26 26 rfl _ _ (by simp [Act.eval,Act.put]) (by simp [Act.eval,Act.put]) (hcp1 _ _ _) ?_)
 go_wp2_with (at_builtin; refine wpList_copy_runI _ rfl _ _ 26 26 rfl _ _ rfl rfl (hcp2 _ (fun _ => rfl) (fun _ => rfl) _ _) ?_)
 go_ret
 first | exact ⟨rfl,rfl⟩ | exact ⟨rfl,by rw [hW1]⟩
end Go.Proofs.YtkeiedikiiccpaaGreatDoor.Am
namespace Go.Proofs.YtkeiedikiiccpaaGreatDoor.Am
open Go Go.RowKit Go.Lib
set_option maxHeartbeats 4000000 in
set_option maxRecDepth 1000000 in
theorem ins_grow (b off n c i vb voff m vc : Nat) (cs vs : List Value) (w : World) (hi : i < n) (hm : 0 < m) (hnc : n ≤ c) (hroom : c < n + m) (hbig : (n + m) * 40 ≤ 140737488355328)
  (hcl : cs.length = n * 3) (hvl : vs.length = m * 3)
  (hcs : ∀ j v,cs[j]? = some v → w.cell? ⟨b,off + j,none⟩ = some v)
  (hvs : ∀ j v,vs[j]? = some v → w.cell? ⟨vb,voff + j,none⟩ = some v) (h1c : ∀ v ∈ cs,v.oneCell' = true) (h1v : ∀ v ∈ vs,v.oneCell' = true) :
  Calls Tryz.prog 117 #[.slice (some ⟨b,off,none⟩) n c,.int .i64 i,.slice (some ⟨vb,voff,none⟩) m vc] w fun e w' => ∃ (G : Nat) (ROW : Array Value),n + m ≤ G ∧ ROW.size = G * 3 ∧ (∀ q,q < i * 3 → ROW[q]? = cs[q]?) ∧
   e = .returned (.slice (some ⟨w.heap.size,0,none⟩) (n + m) G) ∧
   w' = (((w.alloc (.cells ROW 87)).drew.setCells w.heap.size (i * 3) vs).drew).setCells w.heap.size ((i + m) * 3) (cs.drop (i * 3)) := by
 obtain ⟨i0,hi0,hz0,hzs,hzb⟩ : ∃ i0,Tryz.prog.info? 87 = some i0 ∧ i0.zero = some wZero ∧ i0.size = 3 ∧ i0.bytes = 40 := by
  have : (Tryz.prog.info? 87).map (fun i => (i.zero,i.size,i.bytes)) = some (some wZero,3,40) := by kernel_rfl
  cases h : Tryz.prog.info? 87 with
  | none => rw [h] at this; cases this
  | some i => rw [h] at this; simp at this; exact ⟨i,rfl,this⟩
 have hz1 : ¬ ((m : Int) = 0) := by omega
 have hz2 : ¬ ((i : Int) = (n : Int)) := by omega
 have hz3 : (c : Int) < (n : Int) + (m : Int) := by omega
 have hsz : (Tryz.prog.info? 87).map (·.size) = some 3 := by rw [hi0]; simp [hzs]
 have hbw : b < w.heap.size := block_lt_of_cell (hcs 0 _ (List.getElem?_eq_getElem (by omega)))
 have hvw : vb < w.heap.size := block_lt_of_cell (hvs 0 _ (List.getElem?_eq_getElem (by omega)))
 have hkk : (n : Int) + (m : Int) - (i : Int) = ((n + m - i : Nat) : Int) := by omega
 have hik : i + (n + m - i) = n + m := by omega
 have htl : (cs.take (i * 3)).length = i * 3 := by rw [List.length_take]; omega
 have hold : (Builtin.firstCells i0.size i (.slice (some ⟨b,off,none⟩) i c)).run Tryz.prog w.drew = .ok (cs.take (i * 3)).toArray w.drew := by
  rw [hzs]
  exact run_firstCells_some w.drew 3 i ⟨b,off,none⟩ i c (cs.take (i * 3)) htl (fun j v hj => by
   rw [Addr.add_lit]
   rw [List.getElem?_take] at hj
   split at hj
   ·exact hcs j v hj
   ·cases hj)
 have hrz : ∀ ty,(Builtin.append_ #[26,3] ty #[.slice (some ⟨b,off,none⟩) i c,.int .i64 ((n : Int) + (m : Int) - (i : Int))]).run Tryz.prog w =
   .ok (.slice (some ⟨w.heap.size,0,none⟩) (n + m) (grownCap w (n + m) c 87)) (w.drew.alloc (.cells ((cs.take (i * 3)).toArray ++ Builtin.zeroCells wZero.cells (n + m - i) ++ Builtin.zeroCells wZero.cells (grownCap w (n + m) c 87 - (n + m))) 87)) := fun ty => by
  have h := Lib.run_append_grow_zeros w 26 3 ty 87 i0 _ .i64 .i64 Tryz.underlying26 Tryz.underlying3 hi0 hz0 (some ⟨b,off,none⟩) i c (cs.take (i * 3)) hold (n + m - i) (by omega) (by omega) (by omega) (by omega) (by rw [hzb]; omega) (by rw [hzb,hik]; exact growslice_fits hroom hbig)
  rw [hik] at h
  rw [hkk]
  exact h
 obtain ⟨G,hG⟩ : ∃ G,G = grownCap w (n + m) c 87 := ⟨_,rfl⟩
 obtain ⟨ROW,hROW⟩ : ∃ ROW : Array Value,ROW = (cs.take (i * 3)).toArray ++ Builtin.zeroCells wZero.cells (n + m - i) ++ Builtin.zeroCells wZero.cells (G - (n + m)) := ⟨_,rfl⟩
 rw [← hG] at hrz
 rw [← hROW] at hrz
 have hGn : n + m ≤ G := by rw [hG]; exact grownCap_ge w _ _ _
 have hRs : ROW.size = G * 3 := by
  rw [hROW,Array.size_append,Array.size_append,zeroCells_len,zeroCells_len,List.size_toArray,htl,show wZero.cells.size = 3 from rfl]
  omega
 have hRg : ∀ q,q < i * 3 → ROW[q]? = cs[q]? := fun q hq => by
  rw [hROW,Array.append_assoc,Array.getElem?_append_left (by rw [List.size_toArray,htl]; exact hq),List.getElem?_toArray,List.getElem?_take,if_pos hq]
 obtain ⟨W1,hW1⟩ : ∃ W1,W1 = w.drew.alloc (.cells ROW 87) := ⟨_,rfl⟩
 rw [← hW1] at hrz
 have hN : ∀ j,j < (n + m) * 3 → (W1.cell? ⟨w.heap.size,j,none⟩).isSome = true := fun j hj => by
  rw [hW1,World.cell?_alloc_at (w := w.drew) ROW _ w.heap.size j rfl,Array.getElem?_eq_getElem (by omega)]; rfl
 have hNf : ∀ j,W1.frozen? ⟨w.heap.size,j,none⟩ = false := fun j => by rw [hW1]; exact World.frozen?_alloc_at (w := w.drew) ROW _ w.heap.size j rfl
 have hOb : ∀ j v,w.cell? ⟨b,j,none⟩ = some v → W1.cell? ⟨b,j,none⟩ = some v := fun j v h => by rw [hW1,World.cell?_alloc_past (w := w.drew) _ b j hbw]; exact h
 have hOv : ∀ j v,w.cell? ⟨vb,j,none⟩ = some v → W1.cell? ⟨vb,j,none⟩ = some v := fun j v h => by rw [hW1,World.cell?_alloc_past (w := w.drew) _ vb j hvw]; exact h
 have hcpA : ∀ (W : World),(∀ x,W.cell? x = W1.cell? x) → (∀ x,W.frozen? x = W1.frozen? x) → ∀ ty dc,(Builtin.copy_ #[26,26] ty #[.slice (some ⟨w.heap.size,i * 3,none⟩) (n + m - i) dc,.slice (some ⟨vb,voff,none⟩) m vc]).run Tryz.prog W = .ok (goInt m) (W.setCells w.heap.size (i * 3) vs) := fun W hWc hWf ty dc => by
  have e : Nat.min m (n + m - i) = m := by simp only [Nat.min_def]; split <;> omega
  have := run_copy_wide W 26 26 ty 87 3 w.heap.size (i * 3) (n + m - i) dc ⟨vb,voff,none⟩ m vc vs Tryz.underlying26 hsz (by rw [hvl,e])
   (fun j v hj => by rw [Addr.add_lit,hWc]; exact hOv _ v (hvs j v hj))
   (fun j hj => by rw [hWc]; exact hN _ (by omega)) (fun j hj => by rw [hWf]; exact hNf _) h1v
  rwa [e] at this
 have hGi : ¬ (G = i) := by omega
 have hGim : ¬ (G = i + m) := by omega
 have hci : ¬ (c = i) := by omega
 have hbN : b ≠ w.heap.size := by omega
 have hdl : (cs.drop (i * 3)).length = (n - i) * 3 := by rw [List.length_drop,hcl]; omega
 have hcpB : ∀ (W : World),(∀ x,W.cell? x = (W1.setCells w.heap.size (i * 3) vs).cell? x) → (∀ x,W.frozen? x = (W1.setCells w.heap.size (i * 3) vs).frozen? x) → ∀ ty dc sc,(Builtin.copy_ #[26,26] ty #[.slice (some ⟨w.heap.size,(i + m) * 3,none⟩) (n + m - (i + m)) dc,.slice (some ⟨b,off + i * 3,none⟩) (n - i) sc]).run Tryz.prog W = .ok (goInt ((n - i : Nat) : Int)) (W.setCells w.heap.size ((i + m) * 3) (cs.drop (i * 3))) := fun W hWc hWf ty dc sc => by
  have e : Nat.min (n - i) (n + m - (i + m)) = n - i := by simp only [Nat.min_def]; split <;> omega
  have := run_copy_wide W 26 26 ty 87 3 w.heap.size ((i + m) * 3) (n + m - (i + m)) dc ⟨b,off + i * 3,none⟩ (n - i) sc (cs.drop (i * 3)) Tryz.underlying26 hsz (by rw [hdl,e])
   (fun j v hj => by
    rw [Addr.add_lit,hWc,World.cell?_setCells_out _ _ _ _ _ (fun h _ => absurd h hbN),Nat.add_assoc]
    exact hOb _ v (hcs (i * 3 + j) v (by rwa [List.getElem?_drop] at hj)))
   (fun j hj => by rw [hWc]; exact isSome_sets _ _ _ _ (fun t ht => hN _ (by omega)) _ (hN _ (by omega)))
   (fun j hj => by rw [hWf,World.frozen?_setCells]; exact hNf _) (fun v hv => h1c v (List.mem_of_mem_drop hv))
  rwa [e] at this
 subst hW1
 have hE1 : ∀ x,((w.alloc (.cells ROW 87)).drew).cell? x = (w.drew.alloc (.cells ROW 87)).cell? x := fun x => rfl
 have hE2 : ∀ x,((w.alloc (.cells ROW 87)).drew).frozen? x = (w.drew.alloc (.cells ROW 87)).frozen? x := fun x => rfl
 have hF1 : ∀ x,(((w.alloc (.cells ROW 87)).drew.setCells w.heap.size (i * 3) vs).drew).cell? x = ((w.drew.alloc (.cells ROW 87)).setCells w.heap.size (i * 3) vs).cell? x := fun x => rfl
 have hF2 : ∀ x,(((w.alloc (.cells ROW 87)).drew.setCells w.heap.size (i * 3) vs).drew).frozen? x = ((w.drew.alloc (.cells ROW 87)).setCells w.heap.size (i * 3) vs).frozen? x := fun x => rfl
 have hw1 : IntKind.i64.wrap ((i : Int) + (m : Int)) = (i : Int) + (m : Int) := by rw [IntKind.wrap_i64]; omega
 have hw2 : IntKind.i64.wrap ((n : Int) + (m : Int)) = (n : Int) + (m : Int) := by rw [IntKind.wrap_i64]; omega
 have hw3 : IntKind.i64.wrap ((n : Int) + (m : Int) - (i : Int)) = (n : Int) + (m : Int) - (i : Int) := by rw [IntKind.wrap_i64]; omega
 have hb1 : (0 : Int) ≤ (i : Int) + (m : Int) := by omega
 have hin : i ≤ n := by omega
 have htn : ((i : Int) + (m : Int)).toNat = i + m := by omega
 have hb3 : (i : Int) ≤ (n : Int) := by omega
 obtain ⟨A1,hA1⟩ : ∃ A1 : Prop,A1 = (n + m ≤ G ∧ ROW.size = G * 3 ∧ (∀ q,q < i * 3 → ROW[q]? = cs[q]?)) := ⟨_,rfl⟩
 have hA : A1 := by rw [hA1]; exact ⟨hGn,hRs,hRg⟩
 clear hkk hik hold hROW hG hRs hRg
 go_enter Tryz.func117,Tryz.ntmps117
 go_wp2_with (first
  | (at_builtin; refine Lib.wpList_append_run _ rfl _ _ _ _ rfl _ _ rfl rfl _ _ (hrz _) ?_)
  | (at_builtin; refine wpList_copy_runI _ rfl _ _ 26 26 rfl _ _ rfl rfl (hcpA _ hE1 hE2 _ _) ?_)
  | (at_builtin; refine wpList_copy_runI _ rfl _ _ 26 26 rfl _ _ rfl rfl (hcpB _ (fun _ => rfl) (fun _ => rfl) _ _ _) ?_))
 go_region_law (refine step_copy_runI rfl _ _ 26 26 rfl (.slice (some ⟨w.heap.size,(i + m) * 3,none⟩) (n + m - (i + m)) (G - (i + m))) (.slice (some ⟨b,off + i * 3,none⟩) (n - i) (c - i)) (by simp [Act.eval,Act.put]) (by simp [Act.eval,Act.put]) (hcpB _ hF1 hF2 3 (G - (i + m)) (c - i)) ?_)
 go_wp2
 go_ret
 obtain ⟨g1,g2,g3⟩ := hA1 ▸ hA
 exact ⟨G,ROW,g1,g2,g3,rfl,rfl⟩
end Go.Proofs.YtkeiedikiiccpaaGreatDoor.Am
