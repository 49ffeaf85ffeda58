/-
  Merged from the texts that this claim's theorem needs, part 6 of 7. No statement of the seat is proved here.
-/
import Derived.KernelRfl
import Derived.Laws.Externs
import Derived.Laws.IdiomCopy
import Derived.Lib.AppendZerosOnto
import Derived.Lib.JoinLaws
import Derived.Lib.Overlaps
import Derived.Lib.SliceRun
import Derived.Lib.Walk
import Derived.Shelf.RegionOpenPlain
import Derived.Shelf.SlSortCmp.NoneTotal
import Derived.Test.YtcoehdmpjflmlaaGreatDoorChecked
import Derived.Test.YtcoehdmpjflmlaaGreatDoorMq4
set_option linter.unusedSimpArgs false
set_option linter.unusedVariables false
set_option linter.unusedSectionVars false

namespace Go.Proofs.YtcoehdmpjflmlaaGreatDoor
open Go.RowKit Go.Lib
set_option linter.unusedVariables false
set_option linter.unusedSimpArgs false

def seg (c : Array Value) (o n : Nat) : List Value := (List.range n).map fun j => c.getD (o + j) undef
def spl (c : Array Value) (o : Nat) (l : List Value) : Array Value := (c.toList.take o ++ l ++ c.toList.drop (o + l.length)).toArray
theorem seg_length (c : Array Value) (o n : Nat) : (seg c o n).length = n := by simp [seg]
theorem seg_getD (c : Array Value) (o n j : Nat) (h : j < n) : (seg c o n).getD j undef = c.getD (o + j) undef := by
 simp [seg,List.getD_eq_getElem?_getD,h]
theorem spl_size (c : Array Value) (o : Nat) (l : List Value) (h : o + l.length≤c.size) : (spl c o l).size = c.size := by
 simp only [spl,List.size_toArray,List.length_append,List.length_take,List.length_drop,Array.length_toList]; omega
theorem spl_getD (c : Array Value) (o : Nat) (l : List Value) (h : o + l.length≤c.size) (i : Nat) : (spl c o l).getD i undef = if o≤i∧i < o + l.length then l.getD (i - o) undef else c.getD i undef := getD_splice c o l h i
theorem seg_cell {w : World} {b : Nat} {c : Array Value} {t : TypeId} {fr : Nat × Nat} (h : w.heap[b]? = some (.cells c t fr)) (o n : Nat) (hfit : o + n≤c.size) : ∀ j v,(seg c o n)[j]? = some v→w.cell? ⟨b,o + j,none⟩ = some v := by
 intro j v hj
 have hlt : j < n := by have := (List.getElem?_eq_some_iff.1 hj).1; rwa [seg_length] at this
 have hv : c.getD (o + j) undef = v := by
  rw [← seg_getD c o n j hlt,List.getD_eq_getElem?_getD,hj]; rfl
 rw [cell_of_row w b _ c t fr h,← hv]
 have h2 : o + j < c.size := by omega
 simp [Array.getD,h2]

end Go.Proofs.YtcoehdmpjflmlaaGreatDoor

namespace Go.Proofs.YtcoehdmpjflmlaaGreatDoor
open Go.RowKit Go.Lib
set_option linter.unusedVariables false
set_option linter.unusedSimpArgs false

theorem step_append_runC {P : Program} {ops : Array Oper} {o : Oper} {a : Act} {w : World} {K : Act→World→Prop} {Q : Exit→Act→World→Prop} {E : Prop}
 (hg : o.guard = none) (d x : Operand) (dT sT : TypeId) (hop : o.op = Op.call { callee := Callee.builtin Builtin.append,args := #[d,x],argTypes := #[dT,sT] })
 (v u : Value) (hd : a.eval d = v) (hx : a.eval x = u) {v' : Value} {w' : World} (hr : (Builtin.append_ #[dT,sT] o.type #[v,u]).run P w = .ok v' w') (hK : K (a.put o.dst v') w') :
 if Region.wanted o (yielded ops a.tmps) = true then Oper.wp P o a w K Q else E := by
 have hw : Region.wanted o (yielded ops a.tmps) = true := by simp [Region.wanted,hg]
 rw [if_pos hw]
 unfold Oper.wp
 simp [execOp,hop,resolve,invoke,builtin,hd,hx,hr,Result.andThen]
 exact hK
theorem wp_clear_runC (w : World) {P : Program} {o : Oper} {a : Act} {K : Act→World→Prop} {Q : Exit→Act→World→Prop} (d : Operand) (t : TypeId)
 (ho : o.op = .call { callee := .builtin .clear,args := #[d],argTypes := #[t] }) (v : Value) (hd : a.eval d = v) {v' : Value} {w' : World}
 (hr : (Builtin.clear_ #[t] o.type #[v]).run P w = .ok v' w') (h : K (a.put o.dst v') w') : o.wp P a w K Q := by
 unfold Oper.wp execOp
 simp only [ho,resolve,invoke,builtin,Sem.run_bind,Sem.run_pure,Result.andThen_ok,List.map_toArray,List.map_cons,List.map_nil,hd,hr]
 exact h
theorem wpList_clear_runC (w : World) {P : Program} {ops : Array Oper} {rest : List Oper} {o : Oper} {a : Act} {Q : Exit→Act→World→Prop} (hgd : o.guard = none) (d : Operand) (t : TypeId)
 (ho : o.op = .call { callee := .builtin .clear,args := #[d],argTypes := #[t] }) (v : Value) (hd : a.eval d = v) {v' : Value} {w' : World}
 (hr : (Builtin.clear_ #[t] o.type #[v]).run P w = .ok v' w') (h : wpList P ops Q rest (a.put o.dst v') w') : wpList P ops Q (o :: rest) a w :=
 wpList_plain hgd fun _ hK => wp_clear_runC w d t ho v hd hr (hK _ _ h)
theorem uP : Tryz.prog.underlying 33 = some (.slice 65) := by kernel_rfl
theorem iP : (Tryz.prog.info? 65).map (fun i => (i.zero,i.size,i.bytes)) = some (some (.agg #[.int .i64 0,.int .i64 0]),2,16) := by kernel_rfl
def delB (cb : Array Value) (off n k : Nat) : Array Value := spl cb (off + k * 2) (seg cb (off + (k + 1) * 2) ((n - (k + 1)) * 2))
def delA (cb : Array Value) (off n k : Nat) : Array Value := spl (delB cb off n k) (off + (n - 1) * 2) [.int .i64 0,.int .i64 0]
set_option maxHeartbeats 4000000 in
set_option maxRecDepth 100000 in
theorem del_run (b off n c k : Nat) (cb : Array Value) (tb : TypeId) (w : World) (hk : k < n) (hn : n≤1000000) (hnc : n≤c)
 (hb : w.heap[b]? = some (.cells cb tb (0,0))) (hbf : off + c * 2≤cb.size) (h1c : ∀ j,j < n * 2→(cb.getD (off + j) undef).oneCell' = true) :
 Calls Tryz.prog 78 #[.slice (some ⟨b,off,none⟩) n c,.int .i64 k,.int .i64 ((k : Int) + 1)] w fun e w' =>
  e = .returned (.slice (some ⟨b,off,none⟩) (n - 1) c)∧w' = (w.drew.setRow b (delB cb off n k)).setRow b (delA cb off n k) := by
 obtain ⟨i0,hi0,hz0,hzs,hzb⟩ := info_parts iP
 have h1n : ∀ v∈seg cb (off + (k + 1) * 2) ((n - (k + 1)) * 2),v.oneCell' = true := fun v hv => by
  obtain ⟨j,hj,rfl⟩ := List.getElem_of_mem hv
  rw [seg_length] at hj
  have := h1c ((k + 1) * 2 + j) (by omega)
  have e := seg_getD cb (off + (k + 1) * 2) ((n - (k + 1)) * 2) j hj
  rw [List.getD_eq_getElem?_getD,List.getElem?_eq_getElem (by rw [seg_length]; exact hj)] at e
  rw [← Nat.add_assoc,← e] at this
  exact this
 have hkn : k + (n - (k + 1)) = n - 1 := by omega
 have hst := run_storeCells_at Tryz.prog b (off + k * 2) tb (seg cb (off + (k + 1) * 2) ((n - (k + 1)) * 2)) 0 cb w.drew hb (by rw [seg_length];omega) h1n
 simp only [Nat.add_zero] at hst
 have hap0 : ∀ ty xb xc,(Builtin.firstCells i0.size (n - (k + 1)) (.slice xb (n - (k + 1)) xc)).run Tryz.prog w.drew = .ok (seg cb (off + (k + 1) * 2) ((n - (k + 1)) * 2)).toArray w.drew →
  (Builtin.append_ #[33,33] ty #[.slice (some ⟨b,off,none⟩) k c,.slice xb (n - (k + 1)) xc]).run Tryz.prog w.drew = .ok (.slice (some ⟨b,off,none⟩) (n - 1) c) (w.drew.setRow b (delB cb off n k)) := fun ty xb xc hf => by
  have h := run_append_in (ty := ty) (base := some ⟨b,off,none⟩) (sLen := k) (sCap := c) uP uP hi0 hf (by omega)
  rw [h]
  simp only [hzs,Addr.add_lit,hst,Result.andThen_ok,hkn]
  rfl
 have hap1 : ∀ ty xc,(Builtin.append_ #[33,33] ty #[.slice (some ⟨b,off,none⟩) k c,.slice (some ⟨b,off + (k + 1) * 2,none⟩) (n - (k + 1)) xc]).run Tryz.prog w.drew = .ok (.slice (some ⟨b,off,none⟩) (n - 1) c) (w.drew.setRow b (delB cb off n k)) := fun ty xc =>
  hap0 ty _ xc (run_firstCells_some w.drew i0.size (n - (k + 1)) _ _ xc _ (by rw [seg_length,hzs]) (fun j v hj => by
   rw [Addr.add_lit]
   exact seg_cell (w := w.drew) hb _ _ (by omega) j v hj))
 have hload := run_loadCells_list (P := Tryz.prog) w.drew ⟨b,off + (k + 1) * 2,none⟩ (seg cb (off + (k + 1) * 2) ((n - (k + 1)) * 2)) (fun j v hj => by
  rw [Addr.add_lit]
  exact seg_cell (w := w.drew) hb _ _ (by omega) j v hj)
 rw [seg_length] at hload
 have hstB : (storeCells ⟨b,off + k * 2,none⟩ (seg cb (off + (k + 1) * 2) ((n - (k + 1)) * 2))).run Tryz.prog w.drew = .ok () (w.drew.setRow b (delB cb off n k)) := hst
 have hgB : (w.drew.setRow b (delB cb off n k)).heap[b]? = some (.cells (delB cb off n k) tb (0,0)) := setRow_heap w.drew b cb _ tb (0,0) hb
 have hsB : (delB cb off n k).size = cb.size := spl_size _ _ _ (by rw [seg_length];omega)
 have hst2 := run_storeCells_at Tryz.prog b (off + (n - 1) * 2) tb [.int .i64 0,.int .i64 0] 0 (delB cb off n k) (w.drew.setRow b (delB cb off n k)) hgB (by rw [hsB]; show off + (n - 1) * 2 + 0 + 2≤_;omega) (fun v hv => by
  rcases List.mem_cons.1 hv with rfl | hv
  · rfl
  · rcases List.mem_cons.1 hv with rfl | hv
    · rfl
    · cases hv)
 simp only [Nat.add_zero] at hst2
 have hcl : ∀ ty cc,(Builtin.clear_ #[33] ty #[.slice (some ⟨b,off + (n - 1) * 2,none⟩) 1 cc]).run Tryz.prog (w.drew.setRow b (delB cb off n k)) = .ok (.tuple #[]) ((w.drew.setRow b (delB cb off n k)).setRow b (delA cb off n k)) := fun ty cc => by
  simp only [Builtin.clear_,List.size_toArray,List.length_cons,List.length_nil,Nat.zero_add,Nat.lt_add_one,getElem?_pos,List.getElem_toArray,List.getElem_cons_zero,Sem.run_bind,run_underlying uP,Result.andThen_ok,run_zeroValue_of hi0 hz0]
  rw [show (Builtin.zeroCells (Value.agg #[.int .i64 0,.int .i64 0]).cells 1).toList = [.int .i64 0,.int .i64 0] by kernel_rfl,hst2]
  rfl
 have hW0 : n = k + 1→w.drew.setRow b (delB cb off n k) = w.drew := fun he => by
  have e1 : delB cb off n k = cb := by
   unfold delB spl
   rw [he,Nat.sub_self,Nat.zero_mul]
   simp [seg]
  rw [e1]
  exact setRow_self w.drew b cb tb (0,0) hb
 unfold loadCells at hload
 generalize seg cb (off + (k + 1) * 2) ((n - (k + 1)) * 2) = news at hload hstB
 generalize hWB : w.drew.setRow b (delB cb off n k) = WB at hap0 hap1 hcl hstB hW0 ⊢
 clear hst hst2 hgB hsB h1n h1c hWB hb hbf hap0
 have hw1 : IntKind.i64.wrap ((k : Int) + 1) = (k : Int) + 1 := by rw [IntKind.wrap_i64]; omega
 have hb1 : (0 : Int)≤(k : Int) + 1 := by omega
 have hb2 : (k : Int) + 1≤(n : Int) := by omega
 have hb3 : (k : Int)≤(k : Int) + 1 := by omega
 have hb4 : ¬ ((k : Int) = (k : Int) + 1) := by omega
 have htn : ((k : Int) + 1).toNat = k + 1 := by omega
 have hk1 : k≤n := by omega
 have hkc : k≤c := by omega
 have hnc1 : n≤c + 1 := by omega
 have hn1 : n - 1≤n := by omega
 have hn2 : ¬ (c = n - 1) := by omega
 have hn3 : n - (n - 1) = 1 := by omega
 have mixed := mixed
 by_cases hck : c = k + 1
 · have hnk : n = k + 1 := by omega
   have hW := hW0 hnk
   subst hW
   clear hW0 hload hstB hap1 hn1 hn2 hn3 hnc1 hk1 hkc hnc hkn hb2
   subst hnk
   subst hck
   rw [show k + 1 - 1 = k by omega] at hcl ⊢
   go_enter Tryz.func78,Tryz.ntmps78
   go_wp2
   go_region_law_o (exact trivial)
   go_wp2_with (at_builtin; refine wpList_clear_runC _ rfl _ 33 rfl _ rfl (hcl _ _) ?_)
   go_ret
   exact ⟨rfl,rfl⟩
 · go_enter Tryz.func78, Tryz.ntmps78
   go_wp2
   go_region_law_o (refine step_append_runC rfl _ _ 33 33 rfl _ _ (by simp [Act.eval,Act.put]) (by simp [Act.eval,Act.put]) (hap1 _ _) ?_)
   go_wp2_with (at_builtin; refine wpList_clear_runC _ rfl _ 33 rfl _ rfl (hcl _ _) ?_)
   go_ret
   exact ⟨rfl,rfl⟩
end Go.Proofs.YtcoehdmpjflmlaaGreatDoor

namespace Go.Proofs.YtcoehdmpjflmlaaGreatDoor
open Go.RowKit Go.Sort
set_option linter.unusedVariables false

section
variable {P : Program} {ρ : Go.Shelf.Ren} {α : Type}

def RawOk (F : Froz) (k : Nat) (enc : α→List PV) (p : List Value × α) : Prop :=
 p.1.length = k∧(∀ v∈p.1,v.oneCell' = true)∧∀ j,j < k→Rep F noLoc (p.1.getD j undef) ((enc p.2).getD j pvu)
abbrev Raw (F : Froz) (k : Nat) (enc : α→List PV) := { p : List Value × α // RawOk F k enc p }

theorem putRow_setRow {w : World} {blk off : Nat} {cells : Array Value} {t : TypeId} {fr : Nat × Nat} (hg : w.heap[blk]? = some (.cells cells t fr)) (D : Array Value) : putRow id w blk off D = w.setRow blk (putCells id off D cells) := by
 unfold putRow
 rw [mapBlock_congr w blk _ (fun _ => putCells id off D cells) (fun c e fr' h=>by rw [hg] at h; cases h; rfl)]
 unfold mapBlock World.setRow
 congr 2

theorem grown_eq {W w' : World} (hb : Below W.heap.size W w') (hd : W.drawn≤w'.drawn) : ∃ q os,w' = grow (W.drewN q) os := by
 refine ⟨w'.drawn - W.drawn,w'.heap.extract W.heap.size w'.heap.size,?_⟩
 obtain ⟨h1,h2,h3,h4,h5⟩ := hb
 obtain ⟨heap,tape,drawn,os,output⟩ := w'
 simp only at h1 h2 h3 h4 h5 hd ⊢
 subst h1 h2 h3
 simp only [grow,World.drewN,World.mk.injEq,true_and,and_true]
 refine ⟨?_,by omega⟩
 apply Array.ext_getElem?
 intro i
 rw [Array.getElem?_append]
 by_cases hi : i < W.heap.size
 · rw [if_pos hi]; exact h5 i hi
 · rw [if_neg hi, Array.getElem?_extract]
   by_cases h6 : i < heap.size
   · rw [if_pos (by omega)]
     congr 1
     omega
   · rw [if_neg (by omega)]
     exact Array.getElem?_eq_none (by omega)

theorem RawOk.agg {F : Froz} {k : Nat} {enc : α→List PV} {p : List Value × α} (h : RawOk F k enc p) (hl : (enc p.2).length = k) : Rep F noLoc (.agg p.1.toArray) (.agg (enc p.2)) := by
 obtain ⟨h1,h2,h3⟩ := h
 have hg : ∀ i,p.1.toArray.getD i undef = p.1.getD i undef := fun i=>by simp [Array.getD_eq_getD_getElem?,List.getD_eq_getElem?_getD]
 refine .agg _ _ (by simp [h1,hl]) (fun i hi => ?_) (fun i hi => ?_)
 · rw [hg, List.getD_eq_getElem?_getD, List.getElem?_eq_getElem (by omega)]
   exact h2 _ (List.getElem_mem _)
 · rw [hg]; exact h3 i (by omega)

theorem swo_key {β : Type} {cf : β→β→Int} {key : β→Nat} (h : ∀ a b,cf a b < 0 ↔ key a < key b) : SWO (ltOf cf) := by
 have e : ∀ a b,ltOf cf a b = decide (key a < key b) := fun a b=>by unfold ltOf; exact decide_eq_decide.2 (h a b)
 refine ⟨fun x => ?_,fun x y z h1 h2 => ?_,fun x y z h1 h2 => ?_⟩
 · rw [e]; simp
 · rw [e] at *; simp at *; omega
 · rw [e] at *; simp at *; omega

set_option maxHeartbeats 1000000 in
theorem sort_ispec (L : SlLaysF0.n6 P ρ) (hbody : HasBody P (ρ.f 6)) (k : Nat) (hk0 : 0 < k) (aE : ∀ w,(isAgg (ρ.t 24)).run P w = .ok true w) (zE : ∀ w,(Go.sizeOf (ρ.t 24)).run P w = .ok k w) (enc : α→List PV) (hl : ∀ x,(enc x).length = k) (hp : ∀ x,pureL (enc x))
 (key : α→Nat) (cf : α→α→Int) (hcf : ∀ a b,cf a b < 0 ↔ key a < key b) (g : FuncId) (caps : List PV) (hcaps : pureL caps) (hcmp : ∀ a b,Spec P g (.agg (enc a) :: .agg (enc b) :: caps) (· = .val (.int .i64 (cf a b)))) {n ob : Nat} {h : Heap} (xs : List α) (hh : h ob = some ⟨k,xs.map enc⟩) :
 ISpec P (ρ.f 6) n [.own ob,.fn g caps] h fun n' r h' => n' = n∧r = .tup []∧∃ ys : List α,ys.Perm xs∧ys.Pairwise (fun a b => key a≤key b)∧h' = h.upd ob ⟨k,ys.map enc⟩ := by
 refine ⟨hbody,?_⟩
 intro C e F φ a w vs s hv
 obtain ⟨hsz,hvs⟩ := hv
 have h0 : Rep F φ (vs.getD 0 undef) (.own ob) := hvs 0 (by simp)
 have h1 : Rep F φ (vs.getD 1 undef) (.fn g caps) := hvs 1 (by simp)
 obtain ⟨loc,hloc,hz,hv0⟩ := h0.own_inv
 obtain ⟨cb,hv1,hcsz,hcb⟩ := h1.fn_inv
 have hvs' : vs = #[.slice loc.base loc.len loc.cap,.func (.func g) #[] cb] := by
  simp only [List.length_cons,List.length_nil] at hsz
  apply Array.ext (by simpa using hsz)
  intro i hi1 hi2
  have hi : i = 0 ∨ i = 1 := by simp at hi2; omega
  have hget : ∀ j (hj : j < vs.size),vs.getD j undef = vs[j] := fun j hj=>by simp [Array.getD,hj]
  rcases hi with rfl | rfl
  · rw [hget 0 hi1] at hv0; exact hv0
  · rw [hget 1 hi1] at hv1; exact hv1
 obtain ⟨loc',hl1,hob,hhas⟩ := s.live ob _ hh
 obtain rfl : loc' = loc := by rw [hl1] at hloc; simpa using hloc
 have hbx := hob.cells hz
 have hlen : xs.length = loc'.len := by have := hbx.len; simpa using this
 have hke : k = loc'.esz := hbx.esz
 rw [hvs']
 by_cases hx0 : xs = []
 · subst hx0
   have hl0 : loc'.len = 0 := hlen.symm
   have hc := AnyF.slices_SortFunc_none (P := P) (ρ := ρ) { L with } loc'.base loc'.cap (.func (.func g) #[] cb) w
   rw [hl0]
   refine hc.mono ?_
   rintro en w' ⟨rfl,rfl⟩
   refine ⟨_,.tup [],n,h.upd ob ⟨k,[].map enc⟩,F,φ,rfl,⟨rfl,rfl,[],.refl _,.nil,rfl⟩,.tup _ _ rfl (fun i hi => absurd hi (Nat.not_lt_zero i)),s.sub (fun _ _ h => h) fun i b hi => ?_⟩
   by_cases hid : i = ob
   · subst hid; rw [Heap.upd_same] at hi; rw [hh]; exact hi
   · rw [Heap.upd_ne _ _ hid] at hi; exact hi
 · have hpos : 0 < xs.length := List.length_pos_iff.2 hx0
   have hcap := hbx.cap
   have hc0 : loc'.cap≠0 := by omega
   obtain ⟨ad,hbase,hspot,cells,t,hg,hroom,hrep⟩ := hbx.room hc0
   have hhb : loc'.has ad.block := ⟨hc0,ad,hbase,rfl⟩
   have hFn : ∀ x : Addr,x.block = ad.block→F x = none := (hhas _ hhb).2
   have hblk : ad.block < w.heap.size := (Array.getElem?_eq_some_iff.1 hg).1
   have hin : ∀ i j,i < xs.length→j < k→i * k + j < xs.length * k := fun i j hi hj => by
    have := Nat.mul_le_mul_right k (show i + 1≤xs.length from hi)
    rw [Nat.add_mul,Nat.one_mul] at this
    omega
   have hsize : xs.length * k≤loc'.cap * loc'.esz := by rw [hke]; exact Nat.mul_le_mul_right _ (by omega)
   have hraw : ∀ i : Fin xs.length,RawOk F k enc ((List.range k).map fun j => cells.getD (ad.off + (i.1 * k + j)) undef,xs[i.1]) := by
    intro i
    have hi := i.2
    refine ⟨by simp,fun v hv => ?_,fun j hj => ?_⟩
    · obtain ⟨j, hj, rfl⟩ := List.mem_map.1 hv
      have := (hrep i.1 j (by omega) (by rw [← hke]; exact List.mem_range.1 hj)).1
      rw [← hke] at this
      exact this
    · have h2 := (hrep i.1 j (by omega) (by omega)).2
      rw [← hke] at h2
      have e1 : ((xs.map enc).getD i.1 []) = enc xs[i.1] := by simp [List.getD_eq_getElem?_getD,hi]
      rw [e1] at h2
      have e2 : ((List.range k).map fun j => cells.getD (ad.off + (i.1 * k + j)) undef).getD j undef = cells.getD (ad.off + (i.1 * k + j)) undef := by simp [List.getD_eq_getElem?_getD,hj]
      show Rep F noLoc (((List.range k).map fun j => cells.getD (ad.off + (i.1 * k + j)) undef).getD j undef) ((enc xs[i.1]).getD j pvu)
      rw [e2]
      exact h2.pure (innL_getD (hp _) j)
   letI : Inhabited (Raw F k enc) := ⟨⟨_,hraw ⟨0,hpos⟩⟩⟩
   obtain ⟨d,hd⟩ : ∃ d : Array (Raw F k enc),d = Array.ofFn fun i : Fin xs.length => (⟨_,hraw i⟩ : Raw F k enc) := ⟨_,rfl⟩
   have hdsz : d.size = xs.length := by rw [hd]; simp
   have hdget : ∀ (i : Nat) (hi : i < xs.length),d[i]! = ⟨_,hraw ⟨i,hi⟩⟩ := fun i hi => by
    have : i < d.size := by omega
    rw [getElem!_pos d i this]
    simp only [hd,Array.getElem_ofFn]
   have hdl : d.toList.map (fun p => p.1.2) = xs := by
    apply List.ext_getElem
    · simp [hdsz]
    · intro i h3 h4
      have h5 := hdget i h4
      rw [getElem!_pos d i (by omega)] at h5
      simp [h5]
   have encK : ∀ x : Raw F k enc,(x.1.1).length = k := fun x => x.2.1
   have enc1 : ∀ x : Raw F k enc,∀ v∈x.1.1,v.oneCell' = true := fun x => x.2.2.1
   have hH : HoldsK (fun x : Raw F k enc => x.1.1) k w ad.block ad.off d := by
    intro q hq
    rw [size_flatK,hdsz] at hq
    have hi : q / k < xs.length := (Nat.div_lt_iff_lt_mul hk0).2 hq
    have hj : q % k < k := Nat.mod_lt _ hk0
    have hqe : q / k * k + q % k = q := by rw [Nat.mul_comm]; exact Nat.div_add_mod q k
    rw [get_flatK _ _ _ _ (by rw [hdsz]; exact hq),hdget _ hi]
    have hlt : ad.off + q < cells.size := by omega
    constructor
    · simp only [World.cell?, hg]
      rw [if_neg (by simp),Array.getElem?_eq_getElem hlt]
      congr 1
      rw [getElem!_pos _ _ (by simp [hj])]
      simp only [List.getElem_map,List.getElem_range,hqe,id]
      simp [Array.getD,hlt]
    · simp only [World.frozen?, hg]
      simp
   have hcmpL : CmpLays P g cb (fun x : Raw F k enc => x.1.1) k (fun x y => cf x.1.2 y.1.2) ad.block ad.off d.size w := by
    intro m os dk hdk x y
    have hW : Proofs.YtcoehdmpjflmlaaGreatDoor.Holds F (sortWorldK (fun x : Raw F k enc => x.1.1) k w ad.block ad.off m dk os) := by
     refine ⟨fun x v hx => ?_,s.glob⟩
     obtain ⟨f1,f2,f3⟩ := s.froz x v hx
     refine ⟨f1,f2,?_⟩
     have hne : x.block≠ad.block := fun he=>by rw [hFn x he] at hx; cases hx
     have h5 : (putRowK (fun x : Raw F k enc => x.1.1) k (Sort.ahead w m) ad.block ad.off dk).cell? x = some v := by
      rw [cell?_putRowK_other _ _ _ _ _ _ _ hne]; exact f3
     unfold sortWorldK
     have hlt : x.block < (putRowK (fun x : Raw F k enc => x.1.1) k (Sort.ahead w m) ad.block ad.off dk).heap.size := by
      unfold World.cell? at h5
      split at h5
      · rename_i hgx; exact (Array.getElem?_eq_some_iff.1 hgx).1
      · cases h5
     rw [World.cell?_of_block (w := putRowK (fun x : Raw F k enc => x.1.1) k (Sort.ahead w m) ad.block ad.off dk)]
     · exact h5
     · unfold grow
       exact Array.getElem?_append_left hlt
    have hR : RepL F noLoc (#[.agg x.1.1.toArray,.agg y.1.1.toArray] ++ cb) (.agg (enc x.1.2) :: .agg (enc y.1.2) :: caps) := by
     refine ⟨by simp [hcsz]; omega,fun i hi => ?_⟩
     match i,hi with
     | 0, _ =>
       rw [show (#[Value.agg x.1.1.toArray,Value.agg y.1.1.toArray] ++ cb).getD 0 undef = .agg x.1.1.toArray by simp [Array.getD_eq_getD_getElem?,Array.getElem?_append]]
       exact RawOk.agg x.2 (hl _)
     | 1, _ =>
       rw [show (#[Value.agg x.1.1.toArray,Value.agg y.1.1.toArray] ++ cb).getD 1 undef = .agg y.1.1.toArray by simp [Array.getD_eq_getD_getElem?,Array.getElem?_append]]
       exact RawOk.agg y.2 (hl _)
     | i + 2, hi =>
       have e1 : (#[Value.agg x.1.1.toArray,Value.agg y.1.1.toArray] ++ cb).getD (i + 2) undef = cb.getD i undef := by
        simp only [Array.getD_eq_getD_getElem?]
        rw [Array.getElem?_append_right (by simp)]
        simp
       rw [e1]
       exact (hcb i (by simpa using hi)).pure (innL_getD hcaps i)
    refine (calls_drawn ((hcmp x.1.2 y.1.2).2 F _ _ hW hR)).mono ?_
    rintro en w' ⟨⟨v,r,F',rfl,rfl,hr,hbel,_⟩,hdr⟩
    have hvi := hr.val_inv
    exact ⟨by rw [hvi],grown_eq hbel (hdr v rfl)⟩
   have eg : ∀ args w,(callFunc g args).run P w = .ok (.enter g args) w := by
    obtain ⟨⟨fn,hfn,hname,hbd⟩,_⟩ := hcmp xs[0] xs[0]
    intro args w
    have h1 : ¬ fn.name = "runtime.NumGoroutine" := by simpa using hname
    have h2 : ¬ fn.body = none := fun h=>by rw [h] at hbd; simp at hbd
    simp [callFunc,hfn,h1,h2]
   have hmx := hbx.max
   have hc := AnyQ.slices_SortFunc L k aE zE (fun x : Raw F k enc => x.1.1) encK enc1 (fun x y => cf x.1.2 y.1.2) (swo_key (key := fun x : Raw F k enc => key x.1.2) fun a b => hcf _ _) g cb ad.block ad.off loc'.cap d w eg hcmpL hH hblk (by rw [hdsz]; simp only [maxVec] at hmx;omega)
   rw [hbase,← hlen,← hdsz]
   rw [← eta_none ad hspot] at hc
   refine hc.mono ?_
   rintro en w' ⟨rfl,d',m,os,⟨hps,-,hpp⟩,hso,rfl⟩
   have hpp' : d'.toList.Perm d.toList := by
    have e1 : d'.extract 0 d.size = d' := by rw [← hps]; exact Array.extract_size
    have e2 : d.extract 0 d.size = d := Array.extract_size
    rw [e1,e2] at hpp
    exact hpp
   have hg' : (Sort.ahead w m).heap[ad.block]? = some (.cells cells t (0,0)) := hg
   obtain ⟨cur',hcur⟩ : ∃ cur',cur' = putCells id ad.off (flatK (fun x : Raw F k enc => x.1.1) k d') cells := ⟨_,rfl⟩
   have hw1 : sortWorldK (fun x : Raw F k enc => x.1.1) k w ad.block ad.off m d' os = grow ((Sort.ahead w m).setRow ad.block cur') os := by
    unfold sortWorldK putRowK
    rw [putRow_setRow hg',hcur]
   have hget' : ∀ i j,i < xs.length→j < k→cur'.getD (ad.off + (i * k + j)) undef = (d'[i]!).1.1.getD j undef := by
    intro i j hi hj
    have hq := hin i j hi hj
    have hlt : ad.off + (i * k + j) < cells.size := by omega
    have e1 : (i * k + j) / k = i := (blk_iff k i _ hk0).1 ⟨by omega,by omega⟩
    have e2 : (i * k + j) % k = j := by rw [Nat.mod_eq_sub_div_mul,e1]; omega
    rw [hcur,putCells,Array.getD_eq_getD_getElem?,Array.getElem?_mapIdx,Array.getElem?_eq_getElem hlt]
    simp only [Option.map_some,Option.getD_some]
    rw [if_pos ⟨by omega,by rw [size_flatK,hps,hdsz]; omega⟩,show ad.off + (i * k + j) - ad.off = i * k + j by omega]
    show (flatK (fun x : Raw F k enc => x.1.1) k d')[i * k + j]! = _
    rw [get_flatK (fun x : Raw F k enc => x.1.1) k d' (i * k + j) (by rw [hps,hdsz]; exact hq),e1,e2]
    have hj' : j < (d'[i]!).1.1.length := by rw [encK]; exact hj
    rw [getElem!_pos (d'[i]!).1.1 j hj',List.getD_eq_getElem?_getD,List.getElem?_eq_getElem hj',Option.getD_some]
   have hysl : (d'.toList.map fun p => p.1.2).length = xs.length := by simp [hps,hdsz]
   refine ⟨_,.tup [],n,h.upd ob ⟨k,(d'.toList.map fun p => p.1.2).map enc⟩,F,φ,rfl,⟨rfl,rfl,d'.toList.map fun p => p.1.2,?_,?_,rfl⟩,.tup _ _ rfl (fun i hi => absurd hi (Nat.not_lt_zero i)),?_⟩
   · have := hpp'.map fun p : Raw F k enc => p.1.2
     rw [hdl] at this
     exact this
   · rw [List.pairwise_iff_getElem]
     intro i j hi hj hij
     have hi' : i < d'.size := by simpa using hi
     have hj' : j < d'.size := by simpa using hj
     have h5 := hso i j (Nat.zero_le _) hij (by omega)
     rw [getElem!_pos d' i hi',getElem!_pos d' j hj'] at h5
     unfold ltOf at h5
     have h6 := of_decide_eq_false h5
     rw [hcf] at h6
     simp only [List.getElem_map,Array.getElem_toList]
     omega
   · rw [hw1]
     have sA : St' C (fun i => n≤i) e h F φ a (Sort.ahead w m) := s.turned (row := none) (w' := Sort.ahead w m) ⟨rfl,rfl,rfl,Nat.le_refl _,fun _ _ _ => rfl⟩ (fun r hr=>by cases hr) (.inr fun r es t hr=>by cases hr) rfl (s.marks.mono fun _ h => h)
     have s1 : St' C (fun i => n≤i) e (h.del ob) F φ a (Sort.ahead w m) := sA.sub (fun _ _ h => h) (fun _ _ hh => (Heap.del_some hh).2)
     have hbx' : BxAt F φ ((Sort.ahead w m).setRow ad.block cur') loc' ⟨k,(d'.toList.map fun p => p.1.2).map enc⟩ := by
      refine ⟨hke,hz,by rw [← hlen]; simp [hps,hdsz],hcap,hmx,fun c hc => ?_,fun _ => ⟨ad,hbase,hspot,cur',t,setRow_heap _ _ _ _ _ _ hg',?_,fun i j hi hj => ?_⟩⟩
      · obtain ⟨y, _, rfl⟩ := List.mem_map.1 hc
        rw [hl,hke]
      · have : cur'.size = cells.size := by rw [hcur]; simp [putCells]
        omega
      · rw [← hke] at hj ⊢
        have hi' : i < xs.length := by omega
        have hid : i < d'.size := by omega
        rw [hget' i j hi' hj]
        obtain ⟨r1,r2,r3⟩ := (d'[i]!).2
        have hj' : j < (d'[i]!).1.1.length := by rw [r1]; exact hj
        have e3 : ((d'.toList.map fun p => p.1.2).map enc).getD i [] = enc (d'[i]!).1.2 := by
         rw [getElem!_pos d' i hid]
         simp [List.getD_eq_getElem?_getD,hid]
        refine ⟨?_,?_⟩
        · rw [List.getD_eq_getElem?_getD, List.getElem?_eq_getElem hj']
          exact r2 _ (List.getElem_mem _)
        · show Rep F φ _ ((((d'.toList.map fun p => p.1.2).map enc).getD i []).getD j pvu)
          rw [e3]
          exact (r3 j hj).mono (fun _ _ h => h) (fun i x hx=>by cases hx)
     have s2 := s1.adopt hg' (hhas _ hhb).1 hFn (s.del_no hh hl1 hhb) hl1 (fun _ _ h => h) (fun _ _=>rfl) s.free (fun k' hk' => by
      obtain ⟨_,x,hx,rfl⟩ := hk'
      rw [hbase] at hx
      cases hx
      rfl) hbx'
     have s3 := s2.turned (row := none) (w' := grow ((Sort.ahead w m).setRow ad.block cur') os) ⟨rfl,rfl,rfl,by simp [grow],fun j hj _=>by unfold grow; exact Array.getElem?_append_left hj⟩ (fun r hr=>by cases hr) (.inr fun r es t hr=>by cases hr) rfl (s2.marks.mono fun j hj => by
      unfold grow
      rw [Array.getElem?_append_left (Array.getElem?_eq_some_iff.1 hj).1]
      exact hj)
     refine s3.sub (fun _ _ h => h) fun i b hi => ?_
     by_cases hid : i = ob
     · subst hid; rw [Heap.upd_same] at hi ⊢; exact hi
     · rw [Heap.upd_ne _ _ hid] at hi ⊢; rw [Heap.del_ne _ hid]; exact hi
end
end Go.Proofs.YtcoehdmpjflmlaaGreatDoor

namespace Go.Proofs.YtcoehdmpjflmlaaGreatDoor
open Go.RowKit
set_option linter.unusedVariables false
section
variable {P : Program} {C : Ctx} {Fr : Nat→Prop} {e : Env} {h : Heap} {F : Froz} {φ : Locs} {a : Act} {w : World}

theorem NSpec.ispec {f : FuncId} {args : List PV} {mk : Nat→PV} {b : Bx} (hs : NSpec P f args mk b) (hmk : Mk mk) (hpb : pureLL b.elems) (hpr : pureL args) {n : Nat} : ISpec P f n args h fun n' r h' => n' = n + 1∧r = mk n∧h' = h.upd n b := by
 refine ⟨hs.1,fun C e F φ a w vs s hv => (hs.run hmk hpb hpr (Nat.le_refl n) s hv).mono ?_⟩
 rintro en w' ⟨v,F',φ',rfl,hr,s'⟩
 exact ⟨v,mk n,n + 1,h.upd n b,F',φ',rfl,⟨rfl,rfl,rfl⟩,hr,{ s' with free := fun i hi => s'.free i ⟨by omega,by omega⟩ }⟩
theorem nspec_intro {f nt : Nat} {ac : ACode} {rs : List ARes} (hf : FnOk P f nt ac rs) {args : List PV} {mk : Nat→PV} {b : Bx} (hn : args.length≤nt) (hk : ∀ C : Ctx,C.dom 0→aw P C ac (retI rs fun _ r h' => ∃ id,r = mk id∧h' id = some b) 0 (argEnv args) (fun _ => none)) : NSpec P f args mk b := ispec_intro hf hn hk
theorem opsK_own {f : Operand} {args : List Operand} {g : FuncId} {caps as0 : List PV} {mk : Nat→PV} {b : Bx} {d : Option Nat} {os : List AOper} {n : Nat} {K : Nat→Env→Heap→Prop} (hs : NSpec P g (as0 ++ caps) mk b) (hmk : Mk mk) (hpb : pureLL b.elems) (hf : ev e f = some (.fn g caps)) (ha : evs e args = some as0) (hp : pureL (as0 ++ caps))
 (hk : opsK P os (n + 1) (updO e d (mk n)) (h.upd n b) K) : opsK P (⟨d,.call f args,none⟩ :: os) n e h K :=
 opsK_heap hf ha (hs.ispec hmk hpb hp) fun n' r h' hh=>by obtain ⟨rfl,rfl,rfl⟩ := hh; exact hk
end
end Go.Proofs.YtcoehdmpjflmlaaGreatDoor

namespace Go.Proofs.YtcoehdmpjflmlaaGreatDoor
open Go.RowKit
set_option linter.unusedVariables false

theorem NSpec.spec {P : Program} {f : FuncId} {args : List PV} {mk : Nat→PV} {b : Bx} (hs : NSpec P f args mk b) (hpb : pureLL b.elems) {q : PV} (hfr : ∀ id,FrzP id b.elems (mk id) q) (hq : q.pure) : Spec P f args (· = q) := by
 refine ⟨hs.1,fun F w vs hF hv => ?_⟩
 let C1 : Ctx := ⟨w,fun _ => False,F,1,noLoc⟩
 let a1 : Act := { tmps := #[undef],defers := [] }
 have s1 : St' C1 (fun i => 0≤i) (fun _ => none) (fun _ => none) F noLoc a1 w :=
  { nt := rfl,glob := hF.2,marks := Marks.nil rfl,loc0 := fun i x hx => hx,free := fun i hi => rfl,env := fun k p hp => (by cases hp),froz := hF.1,ext := fun _ _ h => h,old := fun _ _ _ => rfl,os := rfl,tape := rfl,output := rfl,size := Nat.le_refl _,kept := fun _ _ _ => rfl,live := fun i b0 hi => (by cases hi),sep := fun i j bi bj li lj k hi hj _ _ _ _ => (by cases hi) }
 refine (hs.2 C1 _ F noLoc a1 w vs s1 hv).mono ?_
 rintro en w' ⟨v,r,n',h',F',φ',rfl,⟨id,rfl,hb'⟩,hvr,s'⟩
 have s2 := s'.put (d := 0) (show 0 < 1 by decide) hvr
 obtain ⟨F2,φ2,s3⟩ := sub_freezeP (k := 0) (p := mk id) (Env.upd_same _ _ _) hb' hpb (hfr id) _ _ ⟨F',φ',s2⟩
 have hr := (s3.env 0 q (Env.upd_same _ _ _)).2
 exact ⟨v,q,F2,rfl,rfl,Rep.pure (φ := φ2) (φ' := noLoc) hr hq,⟨s3.os,s3.tape,s3.output,s3.size,fun k hk => s3.kept k hk fun h => h⟩,⟨s3.froz,s3.glob⟩,s3.ext,fun x hx => s3.old x hx fun h => h⟩
end Go.Proofs.YtcoehdmpjflmlaaGreatDoor

namespace Go.Proofs.YtcoehdmpjflmlaaGreatDoor
open Go.RowKit
set_option linter.unusedVariables false
section
variable {P : Program} {e : Env} {h : Heap} {n : Nat} {K : Nat→Env→Heap→Prop} {os : List AOper} {d : Option Nat}

theorem Holds.kept {F : Froz} {w w' : World} (hF : Holds F w) (hb : Below w.heap.size w w') : Holds F w' := by
 refine ⟨fun x v hx => ?_,hF.2⟩
 obtain ⟨h1,h2,h3⟩ := hF.1 x v hx
 refine ⟨h1,h2,?_⟩
 have hlt : x.block < w.heap.size := by
  unfold World.cell? at h3
  split at h3
  · rename_i ho; exact (Array.getElem?_eq_some_iff.1 ho).1
  · cases h3
 rw [hb.cell hlt]
 exact h3
theorem Spec.ro {g : FuncId} {args : List PV} {i k : Nat} {b : Bx} {v : Value} (hs : Spec P g (args.set i (.vec b.elems false)) (· = .val v)) (hi : args[i]? = some (.own k)) (hb : h k = some b) (hpb : pureLL b.elems) (hpr : pureL (args.set i (.vec b.elems false))) :
 ISpec P g n args h fun n' r h' => n' = n∧r = .val v∧h' = h := by
 refine ⟨hs.1,fun C e F φ a w vs s hv => ?_⟩
 let C1 : Ctx := ⟨C.w0,C.G,C.F0,vs.size,C.φ0⟩
 let a1 : Act := { a with tmps := vs }
 have s1 : St' C1 (fun j => n≤j) (argEnv args) h F φ a1 w := by
  refine { nt := rfl,glob := s.glob,marks := ⟨s.marks.nd,s.marks.all⟩,loc0 := s.loc0,free := s.free,env := fun j p hp => ?_,froz := s.froz,ext := s.ext,old := s.old,os := s.os,tape := s.tape,output := s.output,size := s.size,kept := s.kept,live := s.live,sep := s.sep }
  have hj : j < args.length := (List.getElem?_eq_some_iff.1 hp).1
  refine ⟨by show j < vs.size; rw [hv.1]; exact hj,?_⟩
  have h1 := hv.2 j hj
  have e2 : args.getD j pvu = p := by
   rw [List.getD_eq_getElem?_getD]
   have hp' : args[j]? = some p := hp
   rw [hp']; rfl
  rw [← e2]
  exact h1
 obtain ⟨F2,φ2,s2⟩ := sub_freezeP (k := i) (p := .own k) (q := .vec b.elems false) hi hb hpb .own a1 w ⟨F,φ,s1⟩
 have hrep : RepL F2 noLoc vs (args.set i (.vec b.elems false)) := by
  refine ⟨by rw [hv.1,List.length_set],fun j hj => ?_⟩
  have hj' : j < args.length := by rwa [List.length_set] at hj
  have he : ((argEnv args).upd i (.vec b.elems false)) j = some ((args.set i (.vec b.elems false)).getD j pvu) := by
   by_cases hji : j = i
   · subst hji
     rw [Env.upd_same,List.getD_eq_getElem?_getD,List.getElem?_set_self hj']
     rfl
   · rw [Env.upd_ne _ _ hji, List.getD_eq_getElem?_getD, List.getElem?_set_ne (Ne.symm hji)]
     show args[j]? = _
     rw [List.getElem?_eq_getElem hj']
     rfl
  exact Rep.pure (φ := φ2) (φ' := noLoc) (s2.env j _ he).2 (innL_getD hpr j)
 refine (hs.2 F2 w vs ⟨s2.froz,s2.glob⟩ hrep).mono ?_
 rintro en w' ⟨v',r,F3,rfl,rfl,hr,hbel,-,-,-⟩
 obtain rfl : v' = v := hr.val_inv
 exact ⟨v',.val v',n,h,F,φ,rfl,⟨rfl,rfl,rfl⟩,.val _,s.called hbel (Holds.kept ⟨s.froz,s.glob⟩ hbel) (fun _ _ h => h) fun _ _ => rfl⟩
theorem opsK_ro {f : Operand} {args : List Operand} {g : FuncId} {caps as0 args' : List PV} {i k : Nat} {b : Bx} {v : Value} (hs : Spec P g args' (· = .val v)) (hf : ev e f = some (.fn g caps)) (ha : evs e args = some as0) (hi : (as0 ++ caps)[i]? = some (.own k)) (hb : h k = some b) (hargs : (as0 ++ caps).set i (.vec b.elems false) = args') (hpb : pureLL b.elems) (hpr : pureL args')
 (hk : opsK P os n (updO e d (.val v)) h K) : opsK P (⟨d,.call f args,none⟩ :: os) n e h K := by
 subst hargs
 exact opsK_heap hf ha (hs.ro hi hb hpb hpr) fun n' r h' hh=>by obtain ⟨rfl,rfl,rfl⟩ := hh; exact hk
theorem opsK_isnil {neg : Bool} {x : Operand} (hx : (∃ l fl,ev e x = some (.vec l fl)) ∨ ∃ k,ev e x = some (.own k)) (hz : h n = none) (hk : ∀ b,opsK P os n (updO e d (.val (.bool b))) h K) : opsK P (⟨d,.isnil neg x,none⟩ :: os) n e h K := by
 unfold opsK
 exact ⟨n,e,h,subA_refl,.inl (opK_isnil hx fun b=>by rw [bmp_none hz]; exact hk b)⟩
end
end Go.Proofs.YtcoehdmpjflmlaaGreatDoor

namespace Go.Proofs.YtcoehdmpjflmlaaGreatDoor
open Go.RowKit
set_option linter.unusedVariables false
set_option linter.unusedSimpArgs false

section
variable {P : Program} {C : Ctx} {e : Env} {h : Heap} {n : Nat}

theorem sub_freezeCell {ob id i0 j0 : Nat} {bo b : Bx} (hob : h ob = some bo) (hb : h id = some b) (hne : ob≠id) (hp : pureLL b.elems) (hi0 : i0 < bo.elems.length) (hj0 : j0 < (bo.elems.getD i0 []).length) (hcell : (bo.elems.getD i0 []).getD j0 pvu = .own id) (hz : 0 < bo.esz := by exact Nat.le_of_ble_eq_true rfl) :
 Sub C n e h n e ((h.del id).upd ob ⟨bo.esz,bo.elems.set i0 ((bo.elems.getD i0 []).set j0 (.vec b.elems false))⟩) := by
 rintro a w ⟨F,φ,s⟩
 obtain ⟨lo,o1,o2,o3⟩ := s.live ob bo hob
 have o2 := o2.cellsB hz
 have hcl : (bo.elems.getD i0 []).length = lo.esz := o2.el _ (by simp [List.getD_eq_getElem?_getD,hi0])
 have hc0o : lo.cap≠0 := by have := o2.cap; have := o2.len; omega
 obtain ⟨ado,hbaseo,hso,cellso,cto,hgo,hroomo,hrepo⟩ := o2.room hc0o
 have hr0 := (hrepo i0 j0 (by rw [← o2.len]; exact hi0) (by rw [← hcl]; exact hj0)).2
 rw [hcell] at hr0
 obtain ⟨loc,hl,hzl,hv⟩ := hr0.own_inv
 obtain ⟨loc',h1,h2,h3⟩ := s.live id b hb
 obtain rfl : loc' = loc := by rw [h1] at hl; simpa using hl
 have h2 := h2.cells hzl
 have s1 : St' C (fun i => n≤i) e (h.del id) F φ a w := s.sub (fun _ _ h => h) (fun _ _ hh => (Heap.del_some hh).2)
 have hdel : (h.del id) ob = some bo := by rw [Heap.del_ne _ hne]; exact hob
 have fin : ∀ {F' : Froz},(∀ x v,F x = some v→F' x = some v)→St' C (fun i => n≤i) e (h.del id) F' φ a w→Rep F' φ (cellso.getD (ado.off + (i0 * lo.esz + j0)) undef) (.vec b.elems false) →
  St C (fun i => n≤i) e ((h.del id).upd ob ⟨bo.esz,bo.elems.set i0 ((bo.elems.getD i0 []).set j0 (.vec b.elems false))⟩) a w := by
  intro F' hx s2 hrep
  refine ⟨F',φ,{ s2 with live := fun i bi hi => ?_,sep := fun i j bi bj li lj k hi hj hli hlj hki hkj => ?_ }⟩
  · by_cases hio : i = ob
    · subst hio
      rw [Heap.upd_same] at hi
      cases hi
      obtain ⟨l2,g1,g2,g3⟩ := s2.live i bo hdel
      obtain rfl : l2 = lo := by rw [g1] at o1; simpa using o1
      refine ⟨l2,g1,.inl ⟨o2.esz,o2.pos,by simpa using o2.len,o2.cap,o2.max,fun c hc => ?_,fun _ => ⟨ado,hbaseo,hso,cellso,cto,hgo,hroomo,fun i' j' hi' hj' => ?_⟩⟩,g3⟩
      · rcases List.mem_or_eq_of_mem_set hc with h | h
        · exact o2.el c h
        · rw [h,List.length_set]; exact hcl
      · refine ⟨(hrepo i' j' hi' hj').1, ?_⟩
        by_cases hii : i' = i0
        · subst hii
          have e1 : (bo.elems.set i' ((bo.elems.getD i' []).set j0 (.vec b.elems false))).getD i' [] = (bo.elems.getD i' []).set j0 (.vec b.elems false) := by
           rw [List.getD_eq_getElem?_getD,List.getElem?_set]; simp [hi0]
          rw [e1]
          by_cases hjj : j' = j0
          · subst hjj
            have e2 : ((bo.elems.getD i' []).set j' (.vec b.elems false)).getD j' pvu = .vec b.elems false := by
             rw [List.getD_eq_getElem?_getD,List.getElem?_set,if_pos rfl,if_pos hj0]; rfl
            rw [e2]
            exact hrep
          · have e2 : ((bo.elems.getD i' []).set j0 (.vec b.elems false)).getD j' pvu = (bo.elems.getD i' []).getD j' pvu := by
             rw [List.getD_eq_getElem?_getD,List.getElem?_set,if_neg (Ne.symm hjj),← List.getD_eq_getElem?_getD]
            rw [e2]
            exact (hrepo i' j' hi' hj').2.mono hx fun _ _ h => h
        · have e1 : (bo.elems.set i0 ((bo.elems.getD i0 []).set j0 (.vec b.elems false))).getD i' [] = bo.elems.getD i' [] := by
           rw [List.getD_eq_getElem?_getD,List.getElem?_set,if_neg (Ne.symm hii),← List.getD_eq_getElem?_getD]
          rw [e1]
          exact (hrepo i' j' hi' hj').2.mono hx fun _ _ h => h
    · rw [Heap.upd_ne _ _ hio] at hi
      exact s2.live i bi hi
  · have conv : ∀ {i : Nat} {bi : Bx}, ((h.del id).upd ob ⟨bo.esz, bo.elems.set i0 ((bo.elems.getD i0 []).set j0 (.vec b.elems false))⟩) i = some bi → ∃ b0, (h.del id) i = some b0 := by
     intro i bi hi
     by_cases hio : i = ob
     · subst hio; exact ⟨bo,hdel⟩
     · rw [Heap.upd_ne _ _ hio] at hi; exact ⟨bi,hi⟩
    obtain ⟨b1,g1⟩ := conv hi
    obtain ⟨b2,g2⟩ := conv hj
    exact s2.sep i j b1 b2 li lj k g1 g2 hli hlj hki hkj
 by_cases hc0 : loc'.cap = 0
 · have hl0 : loc'.len = 0 := by have := h2.cap; omega
   have he0 : b.elems = [] := List.eq_nil_of_length_eq_zero (by rw [h2.len,hl0])
   refine fin (fun _ _ h => h) s1 ?_
   rw [hv,he0,hl0,hc0]
   cases hbs : loc'.base with
   | none => exact .vecnil false
   | some x => exact .vec (F := F) (φ := φ) x 0 0 [] false (fun _ _ => undef) (fun h => absurd rfl h) (Nat.le_refl _) (by simp) (by simp) (by simp) (by simp) (by simp)
 · obtain ⟨ad, hbase, hs, cells, ct, hg, hroom, hrep⟩ := h2.room hc0
   have hhas : loc'.has ad.block := ⟨hc0,ad,hbase,rfl⟩
   have s2 := s1.frz hg (h3 _ hhas).2 (s.del_no hb h1 hhas) (h3 _ hhas).1
   have hx := frozNew_ext (h3 _ hhas).2 cells
   refine fin hx s2 ?_
   rw [hv,hbase,← h2.len]
   have hlt2 : ∀ i j,i < b.elems.length→j < loc'.esz→ad.off + (i * loc'.esz + j) < cells.size := fun i j hi hj => by
    have := idx_lt (n := loc'.cap) (i := i) (j := j) (esz := loc'.esz) (by have := h2.cap; have := h2.len;omega) hj
    omega
   refine .vec ad loc'.cap loc'.esz b.elems false (fun i j => cells.getD (ad.off + (i * loc'.esz + j)) undef) (fun _ => hs) (by rw [h2.len]; exact h2.cap) (by simp) (by rw [h2.len]; exact h2.max) (fun i hi => h2.el _ (by simp [List.getD_eq_getElem?_getD,hi])) (fun i j hi hj => ?_) (fun i j hi hj => ?_)
   · exact frozNew_at F _ _ (hlt2 i j hi hj) (hrep i j (by rw [← h2.len]; exact hi) hj).1
   · exact (hrep i j (by rw [← h2.len]; exact hi) hj).2.mono hx fun _ _ h => h
theorem subA_freezeCell {ob id i0 j0 : Nat} {bo b : Bx} (hob : h ob = some bo) (hb : h id = some b) (hne : ob≠id) (hp : pureLL b.elems) (hi0 : i0 < bo.elems.length) (hj0 : j0 < (bo.elems.getD i0 []).length) (hcell : (bo.elems.getD i0 []).getD j0 pvu = .own id) (hz : 0 < bo.esz := by exact Nat.le_of_ble_eq_true rfl) :
 SubA n e h n e ((h.del id).upd ob ⟨bo.esz,bo.elems.set i0 ((bo.elems.getD i0 []).set j0 (.vec b.elems false))⟩) := fun _ => sub_freezeCell hob hb hne hp hi0 hj0 hcell hz
end
end Go.Proofs.YtcoehdmpjflmlaaGreatDoor

namespace Go.Proofs.YtcoehdmpjflmlaaGreatDoor
open Go.RowKit
set_option linter.unusedVariables false
attribute [local irreducible] aw opsK dK

theorem idx_first {α : Type} {p : α→Bool} : ∀ {xs : List α},(∃ x∈xs,p x = true)→∃ (i : Nat) (hi : i < xs.length),idxI p xs = (i : Int)∧p xs[i] = true
 | [],h=>by obtain ⟨_,h,_⟩ := h; cases h
 | x :: xs, h => by
   by_cases hx : p x = true
   · exact ⟨0,Nat.zero_lt_succ _,by simp [idxI,hx],hx⟩
   · obtain ⟨y, hy, hp⟩ := h
     obtain ⟨i,hi,h1,h2⟩ := idx_first (p := p) (xs := xs) ⟨y,(List.mem_cons.1 hy).resolve_left fun e => hx (e ▸ hp),hp⟩
     refine ⟨i + 1,by rw [List.length_cons]; omega,?_,h2⟩
     have hn : ¬ ((i : Int) < 0) := by omega
     simp [idxI,hx,h1,hn]
set_option maxHeartbeats 1000000 in
theorem index_spec (xs : List Int) (v : Int) (fl : Bool) : Spec Tryz.prog 116 [.vec (nums xs) fl,.val (.int .i64 v)] (· = .val (.int .i64 (idxI (fun x => v == x) xs))) := by
 have hnl := nums_length xs
 refine spec_intro ok116 (Nat.le_of_ble_eq_true rfl) fun C hC => ?_
 refine aw_len (k := 0) rfl fun hmax => ?_
 have hlm : xs.length≤maxVec := by rw [← hnl]; exact hmax
 (refine go ?_;repeat' (apply B<;>intro hb<;>try cases hb))
 refine aw_loopE (fun i => i≤xs.length∧(xs.take i).any (fun x => v == x) = false) (fun i => xs.length - i) (fun i => [(0,.vec (nums xs) fl),(1,.val (.int .i64 v)),(7,.val (.int .i64 (xs.length : Int))),(8,.val (.int .i64 (i : Int)))]) 0 ⟨Nat.zero_le _,rfl⟩ ⟨rfl,rfl,by rw [← hnl]; rfl,rfl,trivial⟩ ?_
 rintro i ⟨hi,hno⟩
 have hinc : IntKind.i64.wrap ((i : Int) + 1) = ((i + 1 : Nat) : Int) := IntWalk.i64_in _ ⟨by omega,by simp only [maxVec] at hlm; omega⟩
 iterate 2 (first|refine st ?_|(apply B<;>intro hb<;>try cases hb))
 refine opsK_bool rfl rfl rfl (fun hb=>?_) (fun hb=>?_)
 · have hil : i < xs.length := by have := of_decide_eq_true hb; omega
   clear hb
   (refine go ?_;repeat' (apply B<;>intro hb<;>try cases hb))
   refine opsK_of (E_iaddr (xs := xs) (g := fun x => [.val (.int .i64 x)]) rfl rfl i rfl hil rfl) rfl rfl ?_
   iterate 1 (first|refine st ?_|(apply B<;>intro hb<;>try cases hb))
   refine opsK_bool rfl rfl rfl (fun hx => ?_) (fun hx => ?_)
   · (refine go ?_;repeat' (apply B<;>intro hb<;>try cases hb))
     exact ret_ok rfl trivial (by rw [idxI_at hil hno hx])
   · (refine go ?_;repeat' (apply B<;>intro hb<;>try cases hb))
     exact ⟨i + 1,⟨by omega,any_take hil hno hx⟩,by omega,rfl,rfl,⟨rfl,rfl,rfl,by show some _ = some _; rw [hinc],trivial⟩⟩
 · have hil : i = xs.length := by have := of_decide_eq_false hb; omega
   subst hil
   rw [List.take_length] at hno
   (refine go ?_;repeat' (apply B<;>intro hb<;>try cases hb))
   exact ret_ok rfl trivial (by rw [idxI_none hno]; rfl)
theorem tab_nums (f : Nat→Int) : tab (intR f) = nums ((List.range 64).map f) := by rw [tab,nums,List.map_map]; rfl
theorem tabI_set {f : Nat→Int} {i : Nat} (v : Int) (hi : i < 64) : (tab (intR f)).set i (setAt ((tab (intR f)).getD i []) 0 [.val (.int .i64 v)]) = tab (intR fun j => if j = i then v else f j) := by
 rw [tab_get hi,show setAt (intR f i) 0 [.val (.int .i64 v)] = [.val (.int .i64 v)] from rfl,tab_set _ hi]
 refine tab_congr fun j _ => ?_
 show (if j = i then [PV.val (.int .i64 v)] else intR f j) = [PV.val (.int .i64 (if j = i then v else f j))]
 by_cases hj : j = i
 · rw [if_pos hj,if_pos hj]
 · rw [if_neg hj,if_neg hj]; rfl
theorem tab_int {f g : Nat→Int} (h : ∀ j,j < 64→f j = g j) : tab (intR f) = tab (intR g) := tab_congr fun j hj=>by show [PV.val (.int .i64 (f j))] = [PV.val (.int .i64 (g j))]; rw [h j hj]
def ordB (l : List Pr) (fp : Bool) (a b s : PV) : Bx := ⟨5,[[.val (.int .i64 64),.vec (l.map prC) fp,a,b,s]]⟩
theorem prs_pure (l : List Pr) : pureLL (l.map prC) := pureLL_enc prC_pure l
set_option maxHeartbeats 4000000 in
theorem sortO_spec (l : List Pr) (fp : Bool) (hl : Small l) (hacy : Acy l) (hlen : l.length≤1000000) :
 PSpec Tryz.prog 97 (ordB l fp (.vec [] true) (.vec [] true) (.vec [] true)) [] fun r b' => r = .val (.bool true)∧∃ S,Topo l S∧S.length = 64∧b' = ordB l fp (.vec [] true) (.vec [] true) (.vec (nums (intsN S)) false) := by
 have hpl : ∀ D,innLL D (l.map prC) := fun D => innLL_mono (fun _ h => h.elim) _ (prs_pure l)
 have hnl : (l.map prC).length = l.length := by simp
 have hti : ∀ (f : Nat→Int) D,innLL D (tab (intR f)) := fun f D => innLL_mono (fun _ h => h.elim) _ (tab_pure (intR_pure f))
 refine pspec_intro ok97 (Nat.le_of_ble_eq_true rfl) fun C hC => ?_
 iterate 2 (first|refine st ?_|(apply B<;>intro hb<;>try cases hb))
 refine opsK_sub (subA_cellNil (id := 0) (i0 := 0) (j0 := 4) rfl (Nat.le_of_ble_eq_true rfl) (Nat.le_of_ble_eq_true rfl) rfl 1 (by decide) (by decide)) ?_
 (refine go ?_;repeat' (apply B<;>intro hb<;>try cases hb))
 refine aw_loopH hC (fun i => i≤l.length) (fun i => l.length - i) 3 (fun i => [(0,.ptr 0 0 0),(3,.own 2),(17,.vec (l.map prC) fp),(18,.val (.int .i64 l.length)),(19,.val (.int .i64 (i : Int)))])
  (fun i => [(0,ordB l fp (.vec [] true) (.vec [] true) (.own 1)),(1,⟨1,[]⟩),(2,⟨1,tab (intR fun j => (cntP (l.take i) j : Nat))⟩)]) (by omega) 0 (Nat.zero_le _)
  ⟨⟨rfl,show (0 : Nat) < 3 by decide⟩,⟨rfl,show (2 : Nat) < 3 by decide⟩,⟨rfl,hpl _⟩,⟨by rw [← hnl]; rfl,trivial⟩,⟨rfl,trivial⟩,trivial⟩
  ⟨⟨by decide,rfl,⟨⟨trivial,hpl _,trivial,trivial,show (1 : Nat) < 3 by decide,trivial⟩,trivial⟩⟩,⟨by decide,rfl,trivial⟩,⟨by decide,by show some (Bx.mk 1 (List.replicate 64 (zpv [Value.int .i64 0]))) = _; rw [tab_rep]; rfl,hti _ _⟩,trivial⟩ ?_
 intro i hi
 have hinc : IntKind.i64.wrap ((i : Int) + 1) = ((i + 1 : Nat) : Int) := IntWalk.i64_in _ ⟨by omega,by omega⟩
 iterate 2 (first|refine st ?_|(apply B<;>intro hb<;>try cases hb))
 refine opsK_bool rfl rfl rfl (fun hb=>?_) (fun hb=>?_)
 · have hil : i < l.length := by have := of_decide_eq_true hb; omega
   have hp := hl _ (List.getElem_mem hil)
   have hst := fun j => cntP_step hil j
   have hcl := cntP_le (l.take i) l[i].2
   rw [List.length_take] at hcl
   clear hb
   (refine go ?_;repeat' (apply B<;>intro hb<;>try cases hb))
   refine opsK_of (E_iaddr (xs := l) (g := prC) rfl rfl i rfl hil rfl) rfl rfl ?_
   generalize l[i] = p at hp hst hcl ⊢
   (refine go ?_;repeat' (apply B<;>intro hb<;>try cases hb))
   refine opsK_of (E_iaddrO rfl rfl rfl p.2 rfl (by rw [tab_len]; exact hp.2) rfl) rfl rfl ?_
   refine opsK_of (E_load (i := p.2) rfl rfl (by rw [tab_len]; exact hp.2) (by rw [tab_get hp.2]; rfl)) rfl rfl ?_
   (refine go ?_;repeat' (apply B<;>intro hb<;>try cases hb))
   refine opsK_of (E_iaddrO rfl rfl rfl p.2 rfl (by rw [tab_len]; exact hp.2) rfl) rfl rfl ?_
   refine opsK_of (E_store (i := p.2) rfl rfl rfl rfl rfl (by rw [tab_len]; exact hp.2) (Nat.le_refl _)) rfl rfl ?_
   (refine go ?_;repeat' (apply B<;>intro hb<;>try cases hb))
   have hadd : IntKind.i64.wrap (((cntP (l.take i) p.2 : Nat) : Int) + 1) = ((cntP (l.take i) p.2 + 1 : Nat) : Int) := IntWalk.i64_in _ ⟨by omega,by omega⟩
   refine ⟨i + 1,by omega,by omega,⟨⟨rfl,show (0 : Nat) < 3 by decide⟩,⟨rfl,show (2 : Nat) < 3 by decide⟩,⟨rfl,hpl _⟩,⟨rfl,trivial⟩,⟨by show some _ = some _; rw [hinc],trivial⟩,trivial⟩,
    ⟨⟨by decide,rfl,⟨⟨trivial,hpl _,trivial,trivial,show (1 : Nat) < 3 by decide,trivial⟩,trivial⟩⟩,⟨by decide,rfl,trivial⟩,⟨by decide,?_,hti _ _⟩,trivial⟩⟩
   show some (Bx.mk 1 ((tab (intR fun j => (cntP (l.take i) j : Nat))).set p.2 (setAt ((tab (intR fun j => (cntP (l.take i) j : Nat))).getD p.2 []) 0 [.val (.int .i64 (IntKind.i64.wrap (((cntP (l.take i) p.2 : Nat) : Int) + 1)))]))) = some _
   rw [tabI_set _ hp.2,hadd]
   refine congrArg (fun t => some (Bx.mk 1 t)) (tab_int fun j _ => ?_)
   show (if j = p.2 then ((cntP (l.take i) p.2 + 1 : Nat) : Int) else ((cntP (l.take i) j : Nat) : Int)) = ((cntP (l.take (i + 1)) j : Nat) : Int)
   rw [hst j]
   by_cases hj : j = p.2
   · rw [if_pos hj,if_pos hj,hj]
   · rw [if_neg hj,if_neg hj]
 · have hil : i = l.length := by have := of_decide_eq_false hb; omega
   subst hil
   rw [List.take_length]
   clear hb
   (refine go ?_;repeat' (apply B<;>intro hb<;>try cases hb))
   refine aw_loopR hC (fun S : List Nat => Topo l S) (fun S => 64 - S.length) 3 (fun S => [(0,.ptr 0 0 0),(3,.own 2)])
    (fun S => [(0,ordB l fp (.vec [] true) (.vec [] true) (.own 1)),(1,⟨1,nums (intsN S)⟩),(2,⟨1,tab (intR (leftA l S))⟩)]) (by decide) [] (Topo.nil l) (fun i=>i) (fun _ _=>rfl) injOn_id
    ⟨⟨_,rfl,.ptr (ρ := fun i => i) 0 0 0 (by decide)⟩,⟨_,rfl,.own (ρ := fun i => i) 2 (by decide)⟩,trivial⟩
    ⟨⟨by decide, _, rfl, RenB.single ⟨.pure _ trivial, .pure _ (prs_pure l), .pure _ trivial, .pure _ trivial, .own (ρ := fun i => i) 1 (by decide), trivial⟩ rfl⟩, ⟨by decide, _, rfl, .same _ trivial⟩,
      ⟨by decide,_,rfl,by rw [show leftA l [] = fun j => ((cntP l j : Nat) : Int) from funext (cntP_end l)]; exact .same _ (tab_pure (intR_pure _))⟩,trivial⟩ ?_
   intro S hT
   have hSl := hT.len
   have hSn : (nums (intsN S)).length = S.length := by simp [nums,intsN]
   have hap : ∀ (l : List Nat) D,innLL D (nums (intsN l)) := fun l D => nums_inn _ D
   (repeat'(first|refine at_dst 40 ?_|refine at_dstD 40 ?_|refine st ?_|(apply B<;>intro hb<;>try cases hb)))<;>try refine At.mk ?_
   refine dK_bool rfl rfl rfl (fun hb=>?_) (fun hb=>?_)
   · have hlt : S.length < 64 := by
      have h2 := of_decide_eq_true hb
      rw [hSn] at h2
      omega
     clear hb
     (refine go ?_;repeat' (apply B<;>intro hb<;>try cases hb))
     obtain ⟨j0,hj0,hjn,hjp⟩ := kahn hl hacy hT hlt
     obtain ⟨k,hk,hidx,hpk⟩ := idx_first (p := fun x => (0 : Int) == x) (xs := (List.range 64).map (leftA l S)) ⟨leftA l S j0,List.mem_map.2 ⟨j0,List.mem_range.2 hj0,rfl⟩,by rw [leftA_zero.2 ⟨hjn,hjp⟩]; rfl⟩
     have hk64 : k < 64 := by simpa using hk
     have hz : leftA l S k = 0 := by
      have := eq_of_beq hpk
      rw [List.getElem_map,List.getElem_range] at this
      exact this.symm
     obtain ⟨hkS,hkp⟩ := leftA_zero.1 hz
     refine opsK_ro (i := 0) (k := 2) (index_spec ((List.range 64).map (leftA l S)) 0 false) rfl rfl rfl rfl (by show [PV.vec (tab (intR (leftA l S))) false,PV.val (.int .i64 0)] = _; rw [tab_nums]) (tab_pure (intR_pure _)) ⟨nums_pure _,trivial,trivial⟩ ?_
     rw [hidx]
     have hT' := hT.snoc hkS hk64 hkp
     (refine go ?_;repeat' (apply B<;>intro hb<;>try cases hb))
     · refine opsK_of (E_iaddrO rfl rfl rfl k rfl (by rw [tab_len]; exact hk64) rfl) rfl rfl ?_
       refine opsK_of (E_store (i := k) rfl rfl rfl rfl rfl (by rw [tab_len]; exact hk64) (Nat.le_refl _)) rfl rfl ?_
       have e0 : (tab (intR (leftA l S))).set k (setAt ((tab (intR (leftA l S))).getD k []) 0 [.val (.int .i64 (-1))]) = tab (intR (leftB l S k 0)) := by
        rw [tabI_set _ hk64]
        exact tab_int fun j _ => (leftB_zero l S k j).symm
       (refine go ?_;repeat' (apply B<;>intro hb<;>try cases hb))
       refine opsK_new (E_append (k := 1) (m := [[.val (.int .i64 (k : Int))]]) (fl := true) (b := ⟨1,nums (intsN S)⟩) rfl rfl rfl (fun r hr=>by rw [List.mem_singleton] at hr; subst hr; rfl) rfl (by
        show ((nums (intsN S)).length + 1) * 8≤_
        rw [hSn];omega)) rfl rfl ?_
       (refine go ?_;repeat' (apply B<;>intro hb<;>try cases hb))
       have hSk : nums (intsN S) ++ [[PV.val (.int .i64 (k : Int))]] = nums (intsN (S ++ [k])) := by simp [nums,intsN]
       refine aw_loopH hC (fun i => i≤l.length) (fun i => l.length - i) 14 (fun i => [(0,.ptr 0 0 0),(3,.own 2),(6,.val (.int .i64 (k : Int))),(61,.vec (l.map prC) fp),(62,.val (.int .i64 l.length)),(63,.val (.int .i64 (i : Int)))])
        (fun i => [(0,ordB l fp (.vec [] true) (.vec [] true) (.own 13)),(13,⟨1,nums (intsN (S ++ [k]))⟩),(2,⟨1,tab (intR (leftB l S k i))⟩)]) (by decide) 0 (Nat.zero_le _)
        ⟨⟨rfl,show (0 : Nat) < 14 by decide⟩,⟨rfl,show (2 : Nat) < 14 by decide⟩,⟨rfl,trivial⟩,⟨rfl,hpl _⟩,⟨by rw [← hnl]; rfl,trivial⟩,⟨rfl,trivial⟩,trivial⟩
        ⟨⟨by decide,rfl,⟨⟨trivial,hpl _,trivial,trivial,show (13 : Nat) < 14 by decide,trivial⟩,trivial⟩⟩,⟨by decide,by rw [← hSk]; rfl,hap _ _⟩,⟨by decide,by rw [← e0]; rfl,hti _ _⟩,trivial⟩ ?_
       intro i hi
       have hinc : IntKind.i64.wrap ((i : Int) + 1) = ((i + 1 : Nat) : Int) := IntWalk.i64_in _ ⟨by omega,by omega⟩
       iterate 2 (first|refine st ?_|(apply B<;>intro hb<;>try cases hb))
       refine opsK_bool rfl rfl rfl (fun hb=>?_) (fun hb=>?_)
       · have hil : i < l.length := by have := of_decide_eq_true hb; omega
         have hp := hl _ (List.getElem_mem hil)
         have hst := fun j => leftB_step hil j hT hkS hkp
         clear hb
         (refine go ?_;repeat' (apply B<;>intro hb<;>try cases hb))
         refine opsK_of (E_iaddr (xs := l) (g := prC) rfl rfl i rfl hil rfl) rfl rfl ?_
         generalize l[i] = p at hp hst ⊢
         have hbl := leftB_le l S k i p.2
         (refine go ?_;repeat' (apply B<;>intro hb<;>try cases hb))
         · have hpk1 : p.1 = k := by have := eq_of_beq hb; exact Int.ofNat_inj.1 this
           clear hb
           refine opsK_of (E_iaddrO rfl rfl rfl p.2 rfl (by rw [tab_len]; exact hp.2) rfl) rfl rfl ?_
           refine opsK_of (E_load (i := p.2) rfl rfl (by rw [tab_len]; exact hp.2) (by rw [tab_get hp.2]; rfl)) rfl rfl ?_
           (refine go ?_;repeat' (apply B<;>intro hb<;>try cases hb))
           refine opsK_of (E_iaddrO rfl rfl rfl p.2 rfl (by rw [tab_len]; exact hp.2) rfl) rfl rfl ?_
           refine opsK_of (E_store (i := p.2) rfl rfl rfl rfl rfl (by rw [tab_len]; exact hp.2) (Nat.le_refl _)) rfl rfl ?_
           (refine go ?_;repeat' (apply B<;>intro hb<;>try cases hb))
           have hsub : IntKind.i64.wrap (leftB l S k i p.2 - 1) = leftB l S k i p.2 - 1 := IntWalk.i64_in _ ⟨by omega,by omega⟩
           refine ⟨i + 1,by omega,by omega,⟨⟨rfl,show (0 : Nat) < 14 by decide⟩,⟨rfl,show (2 : Nat) < 14 by decide⟩,⟨rfl,trivial⟩,⟨rfl,hpl _⟩,⟨rfl,trivial⟩,⟨by show some _ = some _; rw [hinc],trivial⟩,trivial⟩,
            ⟨⟨by decide,rfl,⟨⟨trivial,hpl _,trivial,trivial,show (13 : Nat) < 14 by decide,trivial⟩,trivial⟩⟩,⟨by decide,rfl,hap _ _⟩,⟨by decide,?_,hti _ _⟩,trivial⟩⟩
           show some (Bx.mk 1 ((tab (intR (leftB l S k i))).set p.2 (setAt ((tab (intR (leftB l S k i))).getD p.2 []) 0 [.val (.int .i64 (IntKind.i64.wrap (leftB l S k i p.2 - 1)))]))) = some _
           rw [tabI_set _ hp.2,hsub]
           refine congrArg (fun t => some (Bx.mk 1 t)) (tab_int fun j _ => ?_)
           show (if j = p.2 then leftB l S k i p.2 - 1 else leftB l S k i j) = leftB l S k (i + 1) j
           rw [hst j]
           by_cases hj : j = p.2
           · rw [if_pos hj,if_pos ⟨hpk1,hj⟩,hj]
           · rw [if_neg hj,if_neg fun h => hj h.2]
         · have hpk1 : ¬ p.1 = k := fun h => by rw [h] at hb; simp at hb
           clear hb
           refine ⟨i + 1,by omega,by omega,⟨⟨rfl,show (0 : Nat) < 14 by decide⟩,⟨rfl,show (2 : Nat) < 14 by decide⟩,⟨rfl,trivial⟩,⟨rfl,hpl _⟩,⟨rfl,trivial⟩,⟨by show some _ = some _; rw [hinc],trivial⟩,trivial⟩,
            ⟨⟨by decide,rfl,⟨⟨trivial,hpl _,trivial,trivial,show (13 : Nat) < 14 by decide,trivial⟩,trivial⟩⟩,⟨by decide,rfl,hap _ _⟩,⟨by decide,?_,hti _ _⟩,trivial⟩⟩
           show some (Bx.mk 1 (tab (intR (leftB l S k i)))) = some _
           refine congrArg (fun t => some (Bx.mk 1 t)) (tab_int fun j _ => ?_)
           rw [hst j,if_neg fun h => hpk1 h.1]
       · have hil : i = l.length := by have := of_decide_eq_false hb; omega
         subst hil
         clear hb
         (refine go ?_;repeat' (apply B<;>intro hb<;>try cases hb))
         refine ⟨S ++ [k],mv 1 13,hT',by rw [List.length_append,List.length_singleton]; omega,mv_low (Nat.le_refl 1),injOn_of rfl,
          ⟨⟨_,rfl,.ptr (ρ := mv 1 13) 0 0 0 (by decide)⟩,⟨_,rfl,.own (ρ := mv 1 13) 2 (by decide)⟩,trivial⟩,
          ⟨⟨by decide,_,rfl,RenB.single ⟨.pure _ trivial,.pure _ (prs_pure l),.pure _ trivial,.pure _ trivial,.own (ρ := mv 1 13) 1 (by decide),trivial⟩ rfl⟩,⟨by decide,_,rfl,.same _ (nums_pure _)⟩,
          ⟨by decide,_,rfl,?_⟩,trivial⟩⟩
         rw [show tab (intR (leftB l S k l.length)) = tab (intR (leftA l (S ++ [k]))) from tab_int fun j _ => leftB_end l S k j]
         exact .same _ (tab_pure (intR_pure _))
   · have h64 : S.length = 64 := by
      have h2 := of_decide_eq_false hb
      rw [hSn] at h2
      omega
     clear hb
     (repeat'(first|refine at_dst 2 ?_|refine at_dstD 2 ?_|refine st ?_|(apply B<;>intro hb<;>try cases hb)))<;>try refine At.mk ?_
     refine opsK_sub (subA_freezeCell (ob := 0) (id := 1) (i0 := 0) (j0 := 4) rfl rfl (by decide) (nums_pure _) (Nat.le_of_ble_eq_true rfl) (Nat.le_of_ble_eq_true rfl) rfl) ?_
     (refine go ?_;repeat' (apply B<;>intro hb<;>try cases hb))
     exact ⟨_,_,rfl,.inl rfl,_,rfl,trivial,⟨⟨trivial,prs_pure l,trivial,trivial,nums_pure _,trivial⟩,trivial⟩,rfl,S,hT,h64,rfl⟩
end Go.Proofs.YtcoehdmpjflmlaaGreatDoor

namespace Go.Proofs.YtcoehdmpjflmlaaGreatDoor
open Go.RowKit
set_option linter.unusedVariables false
set_option linter.unusedSimpArgs false

section
variable {P : Program} {C : Ctx} {e : Env} {h : Heap}

theorem mv_at (k k' : Nat) : mv k k' k = k' := by
 unfold mv
 rw [show Nat.beq k k = true from Nat.beq_refl k]; rfl
theorem mv_ne {k k' i : Nat} (hi : i≠k) : mv k k' i = i := by
 have e1 : Nat.beq i k = false := Bool.eq_false_iff.2 fun hb => hi (Nat.eq_of_beq_eq_true hb)
 unfold mv
 rw [e1]; rfl
theorem sub_tabPush {h0 : Heap} {D n0 : Nat} (hD : D < n0) {g : Nat→Bx} {j0 new n' : Nat} (hj : j0 < 64) (hnew : n0 + 64≤new) {r : Bx} (hr : pureLL r.elems) (hg : ∀ j,pureLL (g j).elems) {e' : Env} (he : ∀ k p,e' k = some p→∃ p0,e k = some p0∧RenP (mv (n0 + j0) new) (fun i => i < n0 + 64) p0 p)
 (hb : ∀ k b,h0 k = some b→k≠D→k < n0∧RenB (mv (n0 + j0) new) (fun i => i < n0 + 64) b b) {m : Nat} (hdom : C.dom m) (hm : m≤n0) :
 Sub C n' e ((((tabH h0 D n0 (fun j => .own (n0 + j)) 64 g).del (n0 + j0)).upd new r).upd D ⟨1,((List.range 64).map fun j => [PV.own (n0 + j)]).set j0 [.own new]⟩) (n0 + 64) e' (tabH h0 D n0 (fun j => .own (n0 + j)) 64 fun j => if j = j0 then r else g j) := by
 have hcase : ∀ k b,tabH h0 D n0 (fun j => .own (n0 + j)) 64 (fun j => if j = j0 then r else g j) k = some b→k < n0 + 64 := fun k b hk => by
  rcases tabH_cases hD hk with ⟨rfl,_⟩ | ⟨j,hj,rfl,_⟩ | ⟨h1,h2,h3⟩
  · omega
  · omega
  · have := (hb k b h3 h1).1; omega
 refine sub_renF (mv (n0 + j0) new) he (fun k b hk => ⟨hcase k b hk,?_⟩) (fun k k' b b' hk hk' hh => ?_) hdom (by omega) (fun i hi => mv_ne (by omega))
 · rcases tabH_cases hD hk with ⟨rfl, rfl⟩ | ⟨j, hj2, rfl, rfl⟩ | ⟨h1, h2, h3⟩
   · rw [mv_ne (by omega), Heap.upd_same]
     refine ⟨_,rfl,.gen _ _ Nat.zero_lt_one rfl (by simp) (fun i hi => ?_) fun i q hi hq => ?_⟩
     · have hi' : i < 64 := by simpa using hi
       rw [range_set _ hj,range_get hi',range_get hi']
       split <;> rfl
     · have hi' : i < 64 := by simpa using hi
       have hq0 : q = 0 := Nat.lt_one_iff.1 hq
       subst hq0
       rw [range_set _ hj,range_get hi',range_get hi']
       by_cases hij : i = j0
       · subst hij
         rw [if_pos rfl]
         show RenP _ _ (.own new) (.own (n0 + i))
         have := RenP.own (ρ := mv (n0 + i) new) (D := fun x => x < n0 + 64) (n0 + i) (by omega)
         rw [mv_at] at this
         exact this
       · rw [if_neg hij]
         show RenP _ _ (.own (n0 + i)) (.own (n0 + i))
         have := RenP.own (ρ := mv (n0 + j0) new) (D := fun x => x < n0 + 64) (n0 + i) (by omega)
         rw [mv_ne (by omega)] at this
         exact this
   · by_cases hjj : j = j0
     · subst hjj
       rw [mv_at,Heap.upd_ne _ _ (by omega),Heap.upd_same,if_pos rfl]
       exact ⟨r,rfl,.same r hr⟩
     · rw [mv_ne (by omega), Heap.upd_ne _ _ (by omega), Heap.upd_ne _ _ (by omega), Heap.del_ne _ (by omega), tabH_row _ hD _ _ hj2, if_neg hjj]
       exact ⟨g j,rfl,.same _ (hg j)⟩
   · have h4 := hb k b h3 h1
     rw [mv_ne (by omega),Heap.upd_ne _ _ h1,Heap.upd_ne _ _ (by omega),Heap.del_ne _ (by omega),tabH_low _ _ _ h1 h2]
     exact ⟨b,h3,h4.2⟩
 · have l1 := hcase k b hk
   have l2 := hcase k' b' hk'
   by_cases e1 : k = n0 + j0
   · by_cases e2 : k' = n0 + j0
     · rw [e1,e2]
     · rw [e1,mv_at,mv_ne e2] at hh; omega
   · by_cases e2 : k' = n0 + j0
     · rw [e2,mv_at,mv_ne e1] at hh; omega
     · rw [mv_ne e1,mv_ne e2] at hh; exact hh

def frzTo (n0 i : Nat) (g : Nat→Bx) (j : Nat) : PV := if j < i then .vec (g j).elems false else .own (n0 + j)
theorem tabH_frz {h0 : Heap} {D n0 i : Nat} (hD : D < n0) (h0n : ∀ k,n0≤k→k < n0 + 64→h0 k = none) (g : Nat→Bx) (hi : i < 64) :
 ((tabH h0 D (n0 + i) (frzTo n0 i g) (64 - i) (fun q => g (i + q))).del (n0 + i)).upd D ⟨1, ((List.range 64).map fun j => [frzTo n0 i g j]).set i ((((List.range 64).map fun j => [frzTo n0 i g j]).getD i []).set 0 (.vec (g i).elems false))⟩
   = tabH h0 D (n0 + (i + 1)) (frzTo n0 (i + 1) g) (64 - (i + 1)) (fun q => g (i + 1 + q)) := by
 funext k
 rw [range_get hi,range_set _ hi]
 by_cases h2 : k = D
 · subst h2
   rw [Heap.upd_same,tabH_tab]
   refine congrArg (fun l => some (Bx.mk 1 l)) (List.map_congr_left fun j hj => ?_)
   unfold frzTo
   by_cases hji : j = i
   · subst hji; rw [if_pos rfl,if_pos (Nat.lt_succ_self _)]; rfl
   · rw [if_neg hji]
     by_cases hlt : j < i
     · rw [if_pos hlt,if_pos (by omega)]
     · rw [if_neg hlt,if_neg (by omega)]
 · rw [Heap.upd_ne _ _ h2]
   by_cases h1 : k = n0 + i
   · subst h1
     rw [Heap.del_same,tabH_low _ _ _ h2 (by omega),h0n _ (by omega) (by omega)]
   · rw [Heap.del_ne _ h1]
     by_cases h3 : n0 + (i + 1)≤k∧k < n0 + 64
     · obtain ⟨q, rfl⟩ : ∃ q, k = n0 + (i + 1) + q := ⟨k - (n0 + (i + 1)), by omega⟩
       rw [tabH_row _ (by omega) _ _ (by omega : q < 64 - (i + 1)),show n0 + (i + 1) + q = n0 + i + (q + 1) by omega,tabH_row _ (by omega) _ _ (by omega : q + 1 < 64 - i)]
       rw [show i + (q + 1) = i + 1 + q by omega]
     · rw [tabH_low _ _ _ h2 (by omega),tabH_low _ _ _ h2 (by omega)]
theorem sub_tabFreeze {h0 : Heap} {D n0 n k : Nat} (hD : D < n0) (h0n : ∀ k,n0≤k→k < n0 + 64→h0 k = none) (hk : e k = some (.own D)) {g : Nat→Bx} (hg : ∀ j,pureLL (g j).elems) :
 Sub C n e (tabH h0 D n0 (fun j => .own (n0 + j)) 64 g) n (e.upd k (.vec ((List.range 64).map fun j => [.vec (g j).elems false]) false)) (h0.del D) := by
 have key : ∀ i,i≤64→Sub C n e (tabH h0 D n0 (fun j => .own (n0 + j)) 64 g) n e (tabH h0 D (n0 + i) (frzTo n0 i g) (64 - i) (fun q => g (i + q))) := by
  intro i
  induction i with
  | zero =>
    intro _
    have e1 : tabH h0 D (n0 + 0) (frzTo n0 0 g) (64 - 0) (fun q => g (0 + q)) = tabH h0 D n0 (fun j => .own (n0 + j)) 64 g := by
     have e2 : (fun q => g (0 + q)) = g := funext fun q=>by rw [Nat.zero_add]
     rw [e2]
     rfl
    rw [e1]
    exact sub_refl
  | succ i ih =>
    intro hi
    have hi' : i < 64 := by omega
    refine sub_trans (ih (by omega)) ?_
    rw [← tabH_frz hD h0n g hi']
    have hrow := tabH_row h0 (D := D) (n := n0 + i) (by omega) (frzTo n0 i g) (K := 64 - i) (fun q => g (i + q)) (j := 0) (by omega)
    refine sub_freezeCell (ob := D) (id := n0 + i) (i0 := i) (j0 := 0) (bo := ⟨1,(List.range 64).map fun j => [frzTo n0 i g j]⟩) (b := g i) (tabH_tab _ _ _ _ _ _) hrow (by omega) (hg i) (by simpa using hi') (by rw [range_get hi']; exact Nat.zero_lt_one) ?_
    rw [range_get hi']
    show frzTo n0 i g i = _
    unfold frzTo
    rw [if_neg (Nat.lt_irrefl i)]
 have last := key 64 (Nat.le_refl _)
 have htab : tabH h0 D (n0 + 64) (frzTo n0 64 g) (64 - 64) (fun q => g (64 + q)) D = some ⟨1,(List.range 64).map fun j => [PV.vec (g j).elems false]⟩ := by
  rw [tabH_tab]
  refine congrArg (fun l => some (Bx.mk 1 l)) (List.map_congr_left fun j hj => ?_)
  unfold frzTo
  rw [if_pos (List.mem_range.1 hj)]
 have hpl : pureLL ((List.range 64).map fun j => [PV.vec (g j).elems false]) := by
  refine (innLL_iff _ _).2 fun r hr => ?_
  obtain ⟨j,_,rfl⟩ := List.mem_map.1 hr
  exact ⟨hg j,trivial⟩
 have fz := sub_freeze (C := C) (n := n) hk htab hpl
 have e3 : (tabH h0 D (n0 + 64) (frzTo n0 64 g) (64 - 64) (fun q => g (64 + q))).del D = h0.del D := by
  funext q
  by_cases hq : q = D
  · subst hq; rw [Heap.del_same,Heap.del_same]
  · rw [Heap.del_ne _ hq,Heap.del_ne _ hq,tabH_low _ _ _ hq (by omega)]
 rw [e3] at fz
 exact sub_trans last fz
end
end Go.Proofs.YtcoehdmpjflmlaaGreatDoor

namespace Go.Proofs.YtcoehdmpjflmlaaGreatDoor
open Go.RowKit
set_option linter.unusedVariables false
attribute [local irreducible] aw opsK dK

def dirN (l : List Pr) (j : Nat) : List Nat := (l.filter fun p => p.2 == j).map (·.1)
theorem dirN_take {l : List Pr} {i : Nat} (hi : i < l.length) (j : Nat) : dirN (l.take (i + 1)) j = if j = l[i].2 then dirN (l.take i) j ++ [l[i].1] else dirN (l.take i) j := by
 have e : l.take (i + 1) = l.take i ++ [l[i]] := by rw [List.take_add_one,List.getElem?_eq_getElem hi]; rfl
 unfold dirN
 rw [e,List.filter_append]
 by_cases h : j = l[i].2
 · rw [if_pos h,List.filter_cons_of_pos (by simp [h])]; simp
 · rw [if_neg h,List.filter_cons_of_neg (by simp [Ne.symm h])]; simp
theorem dirN_mem {l : List Pr} {a j : Nat} : a∈dirN l j ↔ (a,j)∈l := by
 unfold dirN
 rw [List.mem_map]
 constructor
 · rintro ⟨p, hp, rfl⟩
   obtain ⟨h1,h2⟩ := List.mem_filter.1 hp
   have := eq_of_beq h2
   rw [← this]; exact h1
 · intro h
   exact ⟨(a,j),List.mem_filter.2 ⟨h,by simp⟩,rfl⟩
theorem dirN_len (l : List Pr) (j : Nat) : (dirN l j).length≤l.length := by
 unfold dirN
 rw [List.length_map]
 exact List.length_filter_le _ _
def dirR (l : List Pr) (j : Nat) : Bx := ⟨1,nums (intsN (dirN l j))⟩
theorem dirR_pure (l : List Pr) (j : Nat) : pureLL (dirR l j).elems := nums_pure _
def setR (f : Nat→Nat) (j : Nat) : List PV := [.vec (words (digs (f j))) false]
theorem setR_pure (f : Nat→Nat) (j : Nat) : pureL (setR f j) := ⟨words_pure _,trivial⟩
theorem acc_key {k m n it mask : Nat} {un : List Nat} (h1 : k < n) (h2 : m.testBit it = true) : okId ⟨none,[(k,m)],un,none⟩ n it mask k = true := by
 have e1 : Nat.blt k n = true := Eq.mpr Nat.blt_eq h1
 simp [okId,resv,grpB,grpOf,e1,h2]
theorem acc_ne {k k' m n it mask : Nat} {un : List Nat} (h1 : k < n) (h2 : k≠k') : okId ⟨none,[(k',m)],un,none⟩ n it mask k = true := by
 have e1 : Nat.blt k n = true := Eq.mpr Nat.blt_eq h1
 have e2 : Nat.beq k k' = false := Bool.eq_false_iff.2 fun hb => h2 (Nat.eq_of_beq_eq_true hb)
 simp only [okId,resv,grpB,grpOf,e1,e2]
 rfl
theorem acc_w {k m n it iso : Nat} {un : List Nat} (h : m &&& un.getD it 0 = 0) : okW ⟨none,[(k,m)],un,none⟩ n it iso k = true := by
 have e1 : Nat.beq k k = true := Nat.beq_refl k
 have e2 : apartB ⟨none,[(k,m)],un,none⟩ it k = true := by
  unfold apartB grpOf
  rw [e1]
  show Nat.beq (m &&& un.getD it 0) 0 = true
  rw [h]; rfl
 unfold okW
 rw [e2,Bool.or_true]
theorem unOk_any {q m : Nat} (q' : Nat) {un : List Nat} {l : List DItem} : unOk ⟨none,[(q,m)],un,none⟩ l = unOk ⟨none,[(q',m)],un,none⟩ l := rfl
theorem accA {z : Rsv} {zz : List Value} {b : Nat} {s x : Operand} {e : Env} {n it mask iso k : Nat} (hs : ev e s = some (.own k)) (h1 : okId z n it mask k = true) (h2 : okW z n it iso k = true) : accOk z (.append zz b s x) e n it mask iso = true := by
 simp [accOk,hs,h1,h2]
theorem accI {z : Rsv} {b : Nat} {s x : Operand} {e : Env} {n it mask iso k : Nat} (hs : ev e s = some (.own k)) (h1 : okId z n it mask k = true) : accOk z (.iaddr b s x) e n it mask iso = true := by
 simp [accOk,hs,okPtr,h1]
theorem accL {z : Rsv} {g : Bool} {b : Nat} {s : Operand} {e : Env} {n it mask iso k i off : Nat} (hs : ev e s = some (.ptr k i off)) (h1 : okId z n it mask k = true) : accOk z (.load g b s) e n it mask iso = true := by
 simp [accOk,hs,okPtr,h1]
theorem accS {z : Rsv} {b : Nat} {s v : Operand} {e : Env} {n it mask iso k i off : Nat} (hs : ev e s = some (.ptr k i off)) (h1 : okId z n it mask k = true) (h2 : iso.testBit 0 = true) : accOk z (.store b s v) e n it mask iso = true := by
 simp [accOk,hs,okPtr,okWP,okW,h1,h2]

def baseR (l : List Pr) (fp : Bool) (S : List Nat) : Heap := heapL [(0,ordB l fp (.own 7) (.own 12) (.vec (nums (intsN S)) false)),(7,⟨1,List.replicate 64 [.vec [] true]⟩),(12,⟨1,List.replicate 64 [.vec [] true]⟩),(19,⟨1,List.replicate 64 [.vec [] true]⟩)]
noncomputable def aS (l : List Pr) (rs : List Nat) : Nat := rs.foldl (fun o a => (o ||| abv l a) ||| 2 ^ a) 0
theorem aS_snoc (l : List Pr) (rs : List Nat) (a : Nat) : aS l (rs ++ [a]) = (aS l rs ||| abv l a) ||| 2 ^ a := by simp [aS,List.foldl_append]
theorem aS_bits (l : List Pr) (b : Nat) : ∀ (rs : List Nat) (o : Nat),(rs.foldl (fun o a => (o ||| abv l a) ||| 2 ^ a) o).testBit b = true ↔ o.testBit b = true ∨ ∃ a∈rs,(abv l a).testBit b = true ∨ b = a
 | [],o=>by simp
 | a :: rs, o => by
   rw [List.foldl_cons,aS_bits l b rs,Nat.testBit_or,Nat.testBit_or,Bool.or_eq_true,Bool.or_eq_true,Nat.testBit_two_pow,decide_eq_true_iff]
   constructor
   · rintro (((h | h) | h) | ⟨x, hx, h⟩)
     · exact .inl h
     · exact .inr ⟨a,List.mem_cons_self ..,.inl h⟩
     · exact .inr ⟨a,List.mem_cons_self ..,.inr h.symm⟩
     · exact .inr ⟨x,List.mem_cons_of_mem _ hx,h⟩
   · rintro (h | ⟨x, hx, h⟩)
     · exact .inl (.inl (.inl h))
     · rcases List.mem_cons.1 hx with rfl | hx
       · rcases h with h | h
         · exact .inl (.inl (.inr h))
         · exact .inl (.inr h.symm)
       · exact .inr ⟨x,hx,h⟩
theorem aS_lt (l : List Pr) : ∀ (rs : List Nat) (o : Nat),(∀ a∈rs,a < 64)→o < 18446744073709551616→rs.foldl (fun o a => (o ||| abv l a) ||| 2 ^ a) o < 18446744073709551616
 | [],o,_,ho => ho
 | a :: rs, o, h, ho => by
   rw [List.foldl_cons]
   exact aS_lt l rs _ (fun x hx => h x (List.mem_cons_of_mem _ hx)) (or_lt (or_lt ho (abv_64 l a)) (pow_lt64 (h a (List.mem_cons_self ..))))
theorem dirN_lt {l : List Pr} (hl : Small l) {a j : Nat} (h : a∈dirN l j) : a < 64 := (hl _ (dirN_mem.1 h)).1
theorem aS_all {l : List Pr} (hl : Small l) (b : Nat) : aS l (dirN l b) = abv l b := by
 refine eq64 (aS_lt l _ 0 (fun a ha => dirN_lt hl ha) (by decide)) (abv_64 l b) fun i hi => ?_
 rw [Bool.eq_iff_iff,abv_bit hl,up_iff]
 unfold aS
 rw [aS_bits]
 constructor
 · rintro (h | ⟨a, ha, h⟩)
   · simp at h
   · exact ⟨a,dirN_mem.1 ha,h.elim (fun h => .inr ((abv_bit hl i a).1 h)) .inl⟩
 · rintro ⟨c, hc, h⟩
   exact .inr ⟨c,dirN_mem.2 hc,h.elim .inr fun h => .inl ((abv_bit hl i c).2 h)⟩
noncomputable def abvT (l : List Pr) (S : List Nat) (t j : Nat) : Nat := if j∈S.take t then abv l j else 0
open Classical in
noncomputable def belT (l : List Pr) (S : List Nat) (t j : Nat) : Nat := ofP (fun b => decide (b∈S.take t∧Up l j b)) 64
theorem belT_64 (l : List Pr) (S : List Nat) (t j : Nat) : belT l S t j < 18446744073709551616 := ofP_64 _
theorem belT_bit (l : List Pr) (S : List Nat) (t j b : Nat) : (belT l S t j).testBit b = true ↔ b < 64∧b∈S.take t∧Up l j b := by
 unfold belT
 rw [ofP_bit]
 simp only [Bool.and_eq_true,decide_eq_true_eq]
theorem take_snoc {S : List Nat} {t : Nat} (ht : t < S.length) : S.take (t + 1) = S.take t ++ [S[t]] := by rw [List.take_add_one,List.getElem?_eq_getElem ht]; rfl
theorem abvT_step {l : List Pr} {S : List Nat} {t : Nat} (ht : t < S.length) (j : Nat) : abvT l S (t + 1) j = if j = S[t] then abv l S[t] else abvT l S t j := by
 unfold abvT
 rw [take_snoc ht]
 by_cases h : j = S[t]
 · rw [if_pos (List.mem_append.2 (.inr (List.mem_singleton.2 h))),if_pos h,h]
 · rw [if_neg h]
   by_cases h2 : j∈S.take t
   · rw [if_pos (List.mem_append_left _ h2),if_pos h2]
   · rw [if_neg (fun hh => (List.mem_append.1 hh).elim h2 fun h3 => h (List.mem_singleton.1 h3)),if_neg h2]
theorem nodup_at {S : List Nat} (hn : S.Nodup) {t : Nat} (ht : t < S.length) : S[t] ∉ S.take t := by
 intro h
 obtain ⟨i,hi,he⟩ := List.getElem_of_mem h
 rw [List.length_take] at hi
 rw [List.getElem_take] at he
 exact (List.pairwise_iff_getElem.1 hn) i t (by omega) ht (by omega) he
theorem abvT_new {l : List Pr} {S : List Nat} (hn : S.Nodup) {t : Nat} (ht : t < S.length) : abvT l S t S[t] = 0 := if_neg (nodup_at hn ht)
theorem abvT_old {l : List Pr} {S : List Nat} {t a : Nat} (h : a∈S.take t) : abvT l S t a = abv l a := if_pos h
theorem belT_step {l : List Pr} (hl : Small l) {S : List Nat} {t : Nat} (ht : t < S.length) (h64 : S[t] < 64) (j : Nat) : belT l S (t + 1) j = if j∈mem (abv l S[t]) then belT l S t j ||| 2 ^ S[t] else belT l S t j := by
 have hm : j∈mem (abv l S[t]) ↔ Up l j S[t] := by rw [mem_iff (abv_64 l _),abv_bit hl]
 refine eq64 (belT_64 ..) (by split; exact or_lt (belT_64 ..) (pow_lt64 h64); exact belT_64 ..) fun b hb => ?_
 rw [Bool.eq_iff_iff,belT_bit,take_snoc ht]
 by_cases h : Up l j S[t]
 · rw [if_pos (hm.2 h), Nat.testBit_or, Bool.or_eq_true, belT_bit, Nat.testBit_two_pow, decide_eq_true_iff, List.mem_append, List.mem_singleton]
   constructor
   · rintro ⟨h1, h2 | h2, h3⟩
     · exact .inl ⟨h1,h2,h3⟩
     · exact .inr h2.symm
   · rintro (⟨h1, h2, h3⟩ | h2)
     · exact ⟨h1,.inl h2,h3⟩
     · subst h2; exact ⟨hb,.inr rfl,h⟩
 · rw [if_neg fun hh => h (hm.1 hh), belT_bit, List.mem_append, List.mem_singleton]
   constructor
   · rintro ⟨h1, h2 | h2, h3⟩
     · exact ⟨h1,h2,h3⟩
     · subst h2; exact absurd h3 h
   · rintro ⟨h1,h2,h3⟩; exact ⟨h1,.inl h2,h3⟩
theorem abvT_end {l : List Pr} {S : List Nat} (hS : Topo l S) (h64 : S.length = 64) {j : Nat} (hj : j < 64) : abvT l S 64 j = abv l j := by
 unfold abvT
 rw [← h64,List.take_length,if_pos (hS.all h64 hj)]
theorem belT_end {l : List Pr} (hl : Small l) {S : List Nat} (hS : Topo l S) (h64 : S.length = 64) (j : Nat) : belT l S 64 j = bel l j := by
 refine eq64 (belT_64 ..) (bel_64 ..) fun b hb => ?_
 rw [Bool.eq_iff_iff,belT_bit,bel_bit hl,← h64,List.take_length]
 exact ⟨fun h => h.2.2,fun h => ⟨by omega,hS.all h64 hb,h⟩⟩
theorem set_tab {f g : Nat→Nat} (h : ∀ j,j < 64→f j = g j) : tab (setR f) = tab (setR g) := tab_congr fun j hj=>by show [PV.vec (words (digs (f j))) false] = [PV.vec (words (digs (g j))) false]; rw [h j hj]
theorem setR_upd {f : Nat→Nat} {i v : Nat} (hi : i < 64) : (tab (setR f)).set i (setAt ((tab (setR f)).getD i []) 0 [.vec (words (digs v)) false]) = tab (setR fun j => if j = i then v else f j) := by
 rw [tab_get hi,show setAt (setR f i) 0 [.vec (words (digs v)) false] = [.vec (words (digs v)) false] from rfl,tab_set _ hi]
 refine tab_congr fun j _ => ?_
 show (if j = i then [PV.vec (words (digs v)) false] else setR f j) = [PV.vec (words (digs (if j = i then v else f j))) false]
 by_cases hj : j = i
 · rw [if_pos hj,if_pos hj]
 · rw [if_neg hj,if_neg hj]; rfl
theorem belT_zero (l : List Pr) (S : List Nat) (j : Nat) : belT l S 0 j = 0 := by
 refine eq64 (belT_64 ..) (by decide) fun b hb => ?_
 rw [Bool.eq_iff_iff,belT_bit]
 simp

set_option maxHeartbeats 4000000 in
theorem relate_spec (l : List Pr) (fp : Bool) (hl : Small l) (hlen : l.length≤1000000) (S : List Nat) (hS : Topo l S) (h64 : S.length = 64) :
 PSpec Tryz.prog 98 (ordB l fp (.vec [] true) (.vec [] true) (.vec (nums (intsN S)) false)) [] fun r b' => r = .tup []∧b' = ordB l fp (.vec (tab (setR (abv l))) false) (.vec (tab (setR (bel l))) false) (.vec (nums (intsN S)) false) := by
 have hpl : ∀ D,innLL D (l.map prC) := fun D => innLL_mono (fun _ h => h.elim) _ (prs_pure l)
 have hnl : (l.map prC).length = l.length := by simp
 have hti : ∀ (f : Nat→Nat) D,innLL D (tab (setR f)) := fun f D => innLL_mono (fun _ h => h.elim) _ (tab_pure (setR_pure f))
 have hap : ∀ (l : List Nat) D,innLL D (nums (intsN l)) := fun l D => nums_inn _ D
 have hSn : (nums (intsN S)).length = S.length := by simp [nums,intsN]
 refine pspec_intro ok98 (Nat.le_of_ble_eq_true rfl) fun C hC => ?_
 refine aw_seq ?_
 refine aw_region ?_
 refine opsK_ofAlt rfl rfl rfl ?_
 refine opsK_done ?_
 refine aw_seq ?_
 refine aw_drawU [] [(0,148512)] [262143,262143,262143,262143,262143,262143,262143,262143,262143,262143,262143,262143,262143,262143,2050,262143,262143,0] (by kernel_rfl) ?_
 (refine go ?_;repeat' (apply B<;>intro hb<;>try cases hb))
 refine aw_keep hC (n' := 20) [(1,.cp [.ptr 0 0 0]),(2,.own 19),(34,.vec (l.map prC) fp),(35,.val (.int .i64 l.length)),(36,.val (.int .i64 ((0 : Nat) : Int)))]
  [(0,ordB l fp (.own 7) (.own 12) (.vec (nums (intsN S)) false)),(7,⟨1,List.replicate 64 [.vec [] true]⟩),(12,⟨1,List.replicate 64 [.vec [] true]⟩),(19,⟨1,List.replicate 64 [.vec [] true]⟩)] (by decide)
  ⟨⟨rfl,show (0 : Nat) < 20 by decide,trivial⟩,⟨rfl,show (19 : Nat) < 20 by decide⟩,⟨rfl,hpl _⟩,⟨by rw [← hnl]; rfl,trivial⟩,⟨rfl,trivial⟩,trivial⟩ ?_ ?_
 · exact ⟨⟨by decide,rfl,⟨⟨trivial,hpl _,show (7 : Nat) < 20 by decide,show (12 : Nat) < 20 by decide,hap _ _,trivial⟩,trivial⟩⟩,⟨by decide,rfl,pureLL_of rfl |> innLL_mono (fun _ h => h.elim) _⟩,⟨by decide,rfl,pureLL_of rfl |> innLL_mono (fun _ h => h.elim) _⟩,⟨by decide,rfl,pureLL_of rfl |> innLL_mono (fun _ h => h.elim) _⟩,trivial⟩
 refine aw_sub (sub_tabNil (n := 20) (D := 19) (by decide) rfl 1 (by decide)) ?_
 show aw _ C _ _ 84 _ (tabH (baseR l fp S) 19 20 (fun j => .own (20 + j)) 64 (dirR (l.take 0)))
 have hbs : ∀ k b,baseR l fp S k = some b→k≠19→(k = 0∧b = ordB l fp (.own 7) (.own 12) (.vec (nums (intsN S)) false)) ∨ ((k = 7 ∨ k = 12)∧b = ⟨1,List.replicate 64 [.vec [] true]⟩) := by
  intro k b hk h19
  have := heapL_some hk
  simp only [List.mem_cons,Prod.mk.injEq,List.not_mem_nil,or_false] at this
  rcases this with h | h | h | h
  · exact .inl h
  · exact .inr ⟨.inl h.1,h.2⟩
  · exact .inr ⟨.inr h.1,h.2⟩
  · exact absurd h.1 h19
 have hren : ∀ k0 k',20≤k0→∀ k b,baseR l fp S k = some b→k≠19→k < 20∧RenB (mv k0 k') (fun i => i < 20 + 64) b b := by
  intro k0 k' hk0 k b hk h19
  have o7 := RenP.own (ρ := mv k0 k') (D := fun i => i < 20 + 64) 7 (by omega)
  have o12 := RenP.own (ρ := mv k0 k') (D := fun i => i < 20 + 64) 12 (by omega)
  rw [mv_ne (by omega)] at o7 o12
  rcases hbs k b hk h19 with ⟨rfl,rfl⟩ | ⟨h,rfl⟩
  · exact ⟨by omega,RenB.single ⟨.pure _ trivial,.pure _ (prs_pure l),o7,o12,.pure _ (nums_pure _),trivial⟩ rfl⟩
  · exact ⟨by omega,.same _ (pureLL_of rfl)⟩
 refine aw_loop (fun i => i≤l.length) (fun i => l.length - i) (fun _ => 84) (fun i => envL [(1,.cp [.ptr 0 0 0]),(2,.own 19),(34,.vec (l.map prC) fp),(35,.val (.int .i64 l.length)),(36,.val (.int .i64 (i : Int)))]) (fun i => tabH (baseR l fp S) 19 20 (fun j => .own (20 + j)) 64 (dirR (l.take i))) 0 (Nat.zero_le _) sub_refl ?_
 intro i hi
 have hinc : IntKind.i64.wrap ((i : Int) + 1) = ((i + 1 : Nat) : Int) := IntWalk.i64_in _ ⟨by omega,by omega⟩
 (repeat'(first|refine at_dst 37 ?_|refine at_dstD 37 ?_|refine st ?_|(apply B<;>intro hb<;>try cases hb)))<;>try refine At.mk ?_
 refine opsK_bool rfl rfl rfl (fun hb=>?_) (fun hb=>?_)
 · have hil : i < l.length := by have := of_decide_eq_true hb; omega
   have hp := hl _ (List.getElem_mem hil)
   have hst := fun j => dirN_take hil j
   have hdl := dirN_len (l.take i) l[i].2
   rw [List.length_take] at hdl
   clear hb
   (refine go ?_;repeat' (apply B<;>intro hb<;>try cases hb))
   refine opsK_of (E_iaddr (xs := l) (g := prC) rfl rfl i rfl hil rfl) rfl rfl ?_
   generalize l[i] = p at hp hst hdl ⊢
   iterate 4 (first|refine st ?_|(apply B<;>intro hb<;>try cases hb))
   refine aw_sub (sub_freezeBox (k := 4) (id := 84) (esz := 2) (l := prC p) rfl rfl) ?_
   refine aw_sub (sub_heap (h' := tabH (baseR l fp S) 19 20 (fun j => .own (20 + j)) 64 (dirR (l.take i))) fun k b hk => ?_) ?_
   · have hne : k ≠ 84 := fun h => by
      rw [h,show tabH (baseR l fp S) 19 20 (fun j => PV.own (20 + j)) 64 (dirR (l.take i)) 84 = none from rfl] at hk
      cases hk
     rw [Heap.del_ne _ hne,Heap.upd_ne _ _ hne,Heap.upd_ne _ _ hne]
     exact hk
   refine aw_drawU [] [(20 + p.2,2048)] [16383,16383,16383,16383,16383,16383,16383,16383,16383,16383,16383,4,16383,16383] ((unOk_any 0).trans (by kernel_rfl)) ?_
   have hT19 : ∀ g,tabH (baseR l fp S) 19 20 (fun j => PV.own (20 + j)) 64 g 19 = some ⟨1,(List.range 64).map fun j => [PV.own (20 + j)]⟩ := fun g => tabH_tab _ _ _ _ _ _
   have hlen64 : ∀ f : Nat→List PV,((List.range 64).map f).length = 64 := fun f=>by simp
   (repeat'(first|refine at_dst 46 ?_|refine at_dstD 46 ?_|refine st ?_|(apply B<;>intro hb<;>try cases hb)))<;>try refine At.mk ?_
   refine dK_of (E_iaddrO rfl rfl (hT19 _) p.2 rfl (by rw [hlen64]; exact hp.2) rfl) (accI rfl (acc_ne (by omega) (by omega))) rfl ?_
   refine dK_of (E_load (p := .own (20 + p.2)) (i := p.2) rfl (hT19 _) (by rw [hlen64]; exact hp.2) (by rw [range_get hp.2]; rfl)) (accL rfl (acc_ne (by omega) (by omega))) rfl ?_
   (repeat'(first|refine at_dst 51 ?_|refine at_dstD 51 ?_|refine st ?_|(apply B<;>intro hb<;>try cases hb)))<;>try refine At.mk ?_
   refine dK_of (E_append (k := 20 + p.2) (m := [[.val (.int .i64 (p.1 : Int))]]) (fl := true) (b := dirR (l.take i) p.2) rfl rfl (tabH_row _ (by decide) _ _ hp.2) (fun r hr=>by rw [List.mem_singleton] at hr; subst hr; rfl) rfl (by
    show ((nums (intsN (dirN (l.take i) p.2))).length + 1) * 8≤_
    have : (nums (intsN (dirN (l.take i) p.2))).length = (dirN (l.take i) p.2).length := by simp [nums,intsN]
    omega)) (accA rfl (acc_key (by show _ < 85;omega) rfl) (acc_w rfl)) rfl ?_
   have hT19b : ∀ (g : Nat→Bx) (b : Bx),((tabH (baseR l fp S) 19 20 (fun j => PV.own (20 + j)) 64 g).del (20 + p.2)).upd 96 b 19 = some ⟨1,(List.range 64).map fun j => [PV.own (20 + j)]⟩ := fun g b => by
    rw [Heap.upd_ne _ _ (by decide),Heap.del_ne _ (by omega)]; exact hT19 g
   refine dK_of (E_iaddrO rfl rfl (hT19b _ _) p.2 rfl (by rw [hlen64]; exact hp.2) rfl) (accI rfl (acc_ne (by show _ < 85;omega) (by omega))) rfl ?_
   refine dK_of (E_store (i := p.2) rfl rfl (hT19b _ _) rfl rfl (by rw [hlen64]; exact hp.2) (Nat.le_refl _)) (accS rfl (acc_ne (by show _ < 85;omega) (by omega)) rfl) rfl ?_
   refine dK_done ?_
   have es : setAt (((List.range 64).map fun j => [PV.own (20 + j)]).getD p.2 []) 0 (PV.own 96).cells = [.own 96] := by rw [range_get hp.2]; rfl
   have hfun : (fun j => if j = p.2 then (⟨1,(dirR (l.take i) p.2).elems ++ [[.val (.int .i64 (p.1 : Int))]]⟩ : Bx) else dirR (l.take i) j) = dirR (l.take (i + 1)) := by
    funext j
    unfold dirR
    rw [hst j]
    by_cases hj : j = p.2
    · rw [if_pos hj, if_pos hj, hj]
      simp [nums,intsN]
    · rw [if_neg hj,if_neg hj]
   have o19 := RenP.own (ρ := mv (20 + p.2) 96) (D := fun i => i < 20 + 64) 19 (by omega)
   rw [mv_ne (by omega)] at o19
   have hrp : pureLL ((dirR (l.take i) p.2).elems ++ [[PV.val (.int .i64 (p.1 : Int))]]) := by
    have : (dirR (l.take i) p.2).elems ++ [[PV.val (.int .i64 (p.1 : Int))]] = nums (intsN (dirN (l.take i) p.2 ++ [p.1])) := by simp [dirR,nums,intsN]
    rw [this]; exact nums_pure _
   have hsub := fun (e : Env) (he : EnvQ (mv (20 + p.2) 96) e (20 + 64) [(1,.cp [.ptr 0 0 0]),(2,.own 19),(34,.vec (l.map prC) fp),(35,.val (.int .i64 l.length)),(36,.val (.int .i64 (i : Int)))]) =>
    sub_tabPush (C := C) (h0 := baseR l fp S) (D := 19) (n0 := 20) (n' := 99) (e := e) (by decide) (g := dirR (l.take i)) (j0 := p.2) (new := 96) hp.2 (by decide) (r := ⟨1,(dirR (l.take i) p.2).elems ++ [[.val (.int .i64 (p.1 : Int))]]⟩) hrp (dirR_pure _)
     (e' := envL [(1,.cp [.ptr 0 0 0]),(2,.own 19),(34,.vec (l.map prC) fp),(35,.val (.int .i64 l.length)),(36,.val (.int .i64 (i : Int)))]) (fun k q hk => he.mem _ (envL_some hk)) (hren (20 + p.2) 96 (by omega)) hC (by decide)
   rw [hfun] at hsub
   simp only [← es] at hsub
   refine aw_sub (hsub _ ⟨⟨_,rfl,.same _ ⟨⟨by omega,mv_ne (by omega)⟩,trivial⟩⟩,⟨_,rfl,o19⟩,⟨_,rfl,.pure _ (prs_pure l)⟩,⟨_,rfl,.pure _ trivial⟩,⟨_,rfl,.pure _ trivial⟩,trivial⟩) ?_
   (refine go ?_;repeat' (apply B<;>intro hb<;>try cases hb))
   exact ⟨i + 1,by omega,by omega,sub_env ⟨rfl,rfl,rfl,rfl,by show some _ = some _; rw [hinc],trivial⟩⟩
 · have hil : i = l.length := by have := of_decide_eq_false hb; omega
   subst hil
   rw [List.take_length]
   clear hb
   (repeat'(first|refine at_dst 54 ?_|refine at_dstD 54 ?_|refine st ?_|(apply B<;>intro hb<;>try cases hb)))<;>try refine At.mk ?_
   have h0n : ∀ k,20≤k→k < 20 + 64→baseR l fp S k = none := fun k h1 h2 => by
    cases hk : baseR l fp S k with
    | none => rfl
    | some b => rcases hbs k b hk (by omega) with ⟨h,_⟩ | ⟨h,_⟩ <;> omega
   refine opsK_sub (fun C => sub_tabFreeze (D := 19) (k := 2) (by decide) h0n rfl (dirR_pure l)) ?_
   (refine go ?_;repeat' (apply B<;>intro hb<;>try cases hb))
   have hdp : (PV.vec ((List.range 64).map fun j => [.vec (nums (intsN (dirN l j))) false]) false).pure := by
    refine (innLL_iff _ _).2 fun r hr => ?_
    obtain ⟨j,_,rfl⟩ := List.mem_map.1 hr
    exact ⟨nums_pure _,trivial⟩
   have hdi : ∀ D,(PV.vec ((List.range 64).map fun j => [.vec (nums (intsN (dirN l j))) false]) false).inn D := fun D => PV.pure.inn hdp D
   have hob : ∀ n,12 < n→innLL (· < n) (ordB l fp (.own 7) (.own 12) (.vec (nums (intsN S)) false)).elems := fun n hn => ⟨⟨trivial,hpl _,show (7 : Nat) < n by omega,show (12 : Nat) < n from hn,hap _ _,trivial⟩,trivial⟩
   have hlow : RenB (fun i=>i) (fun i => i < 84) ⟨1,List.replicate 64 [.vec [] true]⟩ ⟨1,tab fun _ => [.vec [] false]⟩ := by
    have er : ∀ i,i < 64→(List.replicate 64 [PV.vec [] true]).getD i [] = [PV.vec [] true] := fun i hi=>by rw [List.getD_eq_getElem?_getD,List.getElem?_replicate,if_pos hi]; rfl
    refine .gen _ _ Nat.zero_lt_one rfl (by rw [tab_len]; simp) (fun i hi => ?_) fun i q hi hq => ?_
    · rw [tab_len] at hi
      rw [tab_get hi,er i hi]; rfl
    · rw [tab_len] at hi
      have hq0 : q = 0 := Nat.lt_one_iff.1 hq
      subst hq0
      rw [tab_get hi,er i hi]
      exact .low (.vec [] true) trivial
   refine aw_sub (sub_list (n' := 84) (L := [(1,.cp [.ptr 0 0 0]),(2,.vec ((List.range 64).map fun j => [.vec (nums (intsN (dirN l j))) false]) false),(57,.vec (nums (intsN S)) false),(58,.val (.int .i64 64)),(59,.val (.int .i64 ((0 : Nat) : Int)))])
    (HL := [(0,ordB l fp (.own 7) (.own 12) (.vec (nums (intsN S)) false)),(7,⟨1,tab fun _ => [.vec [] false]⟩),(12,⟨1,tab fun _ => [.vec [] false]⟩)]) ?_ ?_ hC (by decide)) ?_
   · exact EnvQ.mem (L := [(1, .cp [.ptr 0 0 0]), (2, .vec ((List.range 64).map fun j => [.vec (nums (intsN (dirN l j))) false]) false), (57, .vec (nums (intsN S)) false), (58, .val (.int .i64 64)), (59, .val (.int .i64 ((0 : Nat) : Int)))])
      ⟨⟨_,rfl,.same _ ⟨⟨by decide,rfl⟩,trivial⟩⟩,⟨_,rfl,.pure _ hdp⟩,⟨_,rfl,.pure _ (nums_pure _)⟩,⟨_,by rw [show (64 : Int) = ((nums (intsN S)).length : Nat) by rw [hSn,h64]; rfl]; rfl,.pure _ trivial⟩,⟨_,rfl,.pure _ trivial⟩,trivial⟩
   · exact HeapQ.mem (L := [(0, ordB l fp (.own 7) (.own 12) (.vec (nums (intsN S)) false)), (7, ⟨1, tab fun _ => [.vec [] false]⟩), (12, ⟨1, tab fun _ => [.vec [] false]⟩)])
      ⟨⟨by decide,_,rfl,RenB.single (ρ := fun i => i) (l0 := [.val (.int .i64 64),.vec (l.map prC) fp,.own 7,.own 12,.vec (nums (intsN S)) false]) (l := [.val (.int .i64 64),.vec (l.map prC) fp,.own 7,.own 12,.vec (nums (intsN S)) false]) (show RenLs _ _ [_,_,_,_,_] [_,_,_,_,_] from ⟨.pure _ trivial,.pure _ (prs_pure l),.own (ρ := fun i => i) 7 (by decide),.own (ρ := fun i => i) 12 (by decide),.pure _ (nums_pure _),trivial⟩) rfl⟩,⟨by decide,_,rfl,hlow⟩,⟨by decide,_,rfl,hlow⟩,trivial⟩
   have hren0 : RenB (fun i=>i) (fun i => i < 84) (ordB l fp (.own 7) (.own 12) (.vec (nums (intsN S)) false)) (ordB l fp (.own 7) (.own 12) (.vec (nums (intsN S)) false)) :=
    RenB.single (ρ := fun i => i) (l0 := [.val (.int .i64 64),.vec (l.map prC) fp,.own 7,.own 12,.vec (nums (intsN S)) false]) (l := [.val (.int .i64 64),.vec (l.map prC) fp,.own 7,.own 12,.vec (nums (intsN S)) false]) (show RenLs _ _ [_,_,_,_,_] [_,_,_,_,_] from ⟨.pure _ trivial,.pure _ (prs_pure l),.own (ρ := fun i => i) 7 (by decide),.own (ρ := fun i => i) 12 (by decide),.pure _ (nums_pure _),trivial⟩) rfl
   have hz0 : ∀ f : Nat→Nat,(∀ j,f j = 0)→(tab fun _ => [PV.vec [] false]) = tab (setR f) := fun f hf => tab_congr fun j _ => by
    show [PV.vec [] false] = [PV.vec (words (digs (f j))) false]
    rw [hf,digs_zero]; rfl
   refine aw_loopH hC (fun t => t≤64) (fun t => 64 - t) 84 (fun t => [(1,.cp [.ptr 0 0 0]),(2,.vec ((List.range 64).map fun j => [.vec (nums (intsN (dirN l j))) false]) false),(57,.vec (nums (intsN S)) false),(58,.val (.int .i64 64)),(59,.val (.int .i64 (t : Int)))])
    (fun t => [(0,ordB l fp (.own 7) (.own 12) (.vec (nums (intsN S)) false)),(7,⟨1,tab (setR (abvT l S t))⟩),(12,⟨1,tab (setR (belT l S t))⟩)]) (by decide) 0 (by decide)
    ⟨⟨rfl,show (0 : Nat) < 84 by decide,trivial⟩,⟨rfl,hdi _⟩,⟨rfl,hap _ _⟩,⟨rfl,trivial⟩,⟨rfl,trivial⟩,trivial⟩
    ⟨⟨by decide,rfl,hob _ (by decide)⟩,⟨by decide,by rw [← hz0 _ fun j => show abvT l S 0 j = 0 from if_neg (by simp)]; rfl,hti _ _⟩,⟨by decide,by rw [← hz0 _ (belT_zero l S)]; rfl,hti _ _⟩,trivial⟩ ?_
   intro t ht
   have htinc : IntKind.i64.wrap ((t : Int) + 1) = ((t + 1 : Nat) : Int) := IntWalk.i64_in _ ⟨by omega,by omega⟩
   (repeat'(first|refine at_dst 60 ?_|refine at_dstD 60 ?_|refine st ?_|(apply B<;>intro hb<;>try cases hb)))<;>try refine At.mk ?_
   refine opsK_bool rfl rfl rfl (fun hb=>?_) (fun hb=>?_)
   · have htl : t < S.length := by have := of_decide_eq_true hb; omega
     have hb64 := hS.lt _ (List.getElem_mem htl)
     have hpred := hS.pred t htl
     have hnew := abvT_new (l := l) hS.nodup htl
     have hbS := nodup_at hS.nodup htl
     have hastep := fun j => abvT_step (l := l) htl j
     have hbstep := fun j => belT_step hl htl hb64 j
     have hgetS : (intsN S)[t]'(by simpa [intsN] using htl) = ((S[t] : Nat) : Int) := by simp [intsN]
     clear hb
     (refine go ?_;repeat' (apply B<;>intro hb<;>try cases hb))
     refine opsK_of (E_iaddr (xs := intsN S) (g := fun x => [.val (.int .i64 x)]) rfl rfl t rfl (by simpa [intsN] using htl) rfl) rfl rfl ?_
     rw [hgetS]
     generalize S[t] = b at hb64 hpred hnew hbS hastep hbstep ⊢
     iterate 4 (first|refine st ?_|(apply B<;>intro hb<;>try cases hb))
     refine aw_sub (sub_freezeBox (k := 6) (id := 84) (esz := 1) (l := [.val (.int .i64 (b : Int))]) rfl rfl) ?_
     (refine go ?_;repeat' (apply B<;>intro hb<;>try cases hb))
     refine opsK_of (E_iaddr (xs := List.range 64) (g := fun j => [.vec (nums (intsN (dirN l j))) false]) rfl rfl b rfl (by simpa using hb64) rfl) rfl rfl ?_
     rw [List.getElem_range]
     (refine go ?_;repeat' (apply B<;>intro hb<;>try cases hb))
     have hnd : (nums (intsN (dirN l b))).length = (dirN l b).length := by simp [nums,intsN]
     have hdlen := dirN_len l b
     refine aw_loopH hC (fun s => s≤(dirN l b).length) (fun s => (dirN l b).length - s) 85 (fun s => [(1,.cp [.ptr 0 0 0]),(2,.vec ((List.range 64).map fun j => [.vec (nums (intsN (dirN l j))) false]) false),(6,.cp [.val (.int .i64 (b : Int))]),(57,.vec (nums (intsN S)) false),(58,.val (.int .i64 64)),(59,.val (.int .i64 (t : Int))),(66,.vec (nums (intsN (dirN l b))) false),(67,.val (.int .i64 (dirN l b).length)),(68,.val (.int .i64 (s : Int)))])
      (fun s => [(0,ordB l fp (.own 7) (.own 12) (.vec (nums (intsN S)) false)),(7,⟨1,tab (setR fun j => if j = b then aS l ((dirN l b).take s) else abvT l S t j)⟩),(12,⟨1,tab (setR (belT l S t))⟩)]) (by decide) 0 (Nat.zero_le _)
      ⟨⟨rfl,show (0 : Nat) < 85 by decide,trivial⟩,⟨rfl,hdi _⟩,⟨rfl,trivial,trivial⟩,⟨rfl,hap _ _⟩,⟨rfl,trivial⟩,⟨rfl,trivial⟩,⟨rfl,hap _ _⟩,⟨by rw [← hnd]; rfl,trivial⟩,⟨rfl,trivial⟩,trivial⟩
      ⟨⟨by decide,rfl,hob _ (by decide)⟩,⟨by decide,by rw [set_tab (f := fun j => if j = b then aS l ((dirN l b).take 0) else abvT l S t j) (g := abvT l S t) fun j _=>by by_cases hj : j = b; (rw [if_pos hj,hj,hnew]; rfl); rw [if_neg hj]]; rfl,hti _ _⟩,⟨by decide,rfl,hti _ _⟩,trivial⟩ ?_
     intro s hs
     have hsinc : IntKind.i64.wrap ((s : Int) + 1) = ((s + 1 : Nat) : Int) := IntWalk.i64_in _ ⟨by omega,by omega⟩
     (repeat'(first|refine at_dst 69 ?_|refine at_dstD 69 ?_|refine st ?_|(apply B<;>intro hb<;>try cases hb)))<;>try refine At.mk ?_
     refine opsK_bool rfl rfl rfl (fun hb=>?_) (fun hb=>?_)
     · have hsl : s < (dirN l b).length := by have := of_decide_eq_true hb; omega
       have htk := take_snoc hsl
       have hga : (intsN (dirN l b))[s]'(by simpa [intsN] using hsl) = (((dirN l b)[s] : Nat) : Int) := by simp [intsN]
       have hma : (dirN l b)[s]∈dirN l b := List.getElem_mem hsl
       have hcur : aS l ((dirN l b).take s) < 18446744073709551616 := aS_lt l _ 0 (fun a ha => dirN_lt hl (List.mem_of_mem_take ha)) (by decide)
       clear hb
       (refine go ?_;repeat' (apply B<;>intro hb<;>try cases hb))
       refine opsK_of (E_iaddr (xs := intsN (dirN l b)) (g := fun x => [.val (.int .i64 x)]) rfl rfl s rfl (by simpa [intsN] using hsl) rfl) rfl rfl ?_
       rw [hga]
       generalize (dirN l b)[s] = a at htk hma ⊢
       have ha64 := dirN_lt hl hma
       have haS := hpred a (dirN_mem.1 hma)
       have hab : a≠b := fun h => hbS (h ▸ haS)
       have hor := or_lt hcur (abv_64 l a)
       have hwn : withN (aS l ((dirN l b).take s) ||| abv l a) (a : Int) = aS l ((dirN l b).take (s + 1)) := by
        rw [htk,aS_snoc,withN,if_pos ⟨by omega,by omega⟩]; rfl
       (repeat'(first|refine at_dst 82 ?_|refine at_dstD 82 ?_|refine st ?_|(apply B<;>intro hb<;>try cases hb)))<;>try refine At.mk ?_
       refine dK_of (E_iaddrO rfl rfl rfl b rfl (by rw [tab_len]; exact hb64) rfl) rfl rfl ?_
       refine dK_of (E_load (p := setN (aS l ((dirN l b).take s))) (i := b) rfl rfl (by rw [tab_len]; exact hb64) (by rw [tab_get hb64]; show some (setN (if b = b then _ else _)) = _; rw [if_pos rfl])) rfl rfl ?_
       (repeat'(first|refine at_dst 89 ?_|refine at_dstD 89 ?_|refine st ?_|(apply B<;>intro hb<;>try cases hb)))<;>try refine At.mk ?_
       refine dK_of (E_iaddrO rfl rfl rfl a rfl (by rw [tab_len]; exact ha64) rfl) rfl rfl ?_
       refine dK_of (E_load (p := setN (abv l a)) (i := a) rfl rfl (by rw [tab_len]; exact ha64) (by rw [tab_get ha64]; show some (setN (if a = b then _ else abvT l S t a)) = _; rw [if_neg hab,abvT_old haS])) rfl rfl ?_
       refine dK_eq (orS_spec _ (abv l a) hcur (abv_64 l a)) rfl rfl rfl ⟨setN_pure _,setN_pure _,trivial⟩ ?_
       (repeat'(first|refine at_dst 93 ?_|refine at_dstD 93 ?_|refine st ?_|(apply B<;>intro hb<;>try cases hb)))<;>try refine At.mk ?_
       refine dK_eq (with_spec _ (Nat.le_trans (digs_short hor) (by decide)) (a : Int)) rfl rfl rfl ⟨setN_pure _,trivial,trivial⟩ ?_
       rw [hwn]
       refine dK_of (E_iaddrO rfl rfl rfl b rfl (by rw [tab_len]; exact hb64) rfl) rfl rfl ?_
       refine dK_of (E_store (i := b) rfl rfl rfl rfl rfl (by rw [tab_len]; exact hb64) (Nat.le_refl _)) rfl rfl ?_
       (refine go ?_;repeat' (apply B<;>intro hb<;>try cases hb))
       refine ⟨s + 1,by omega,by omega,⟨⟨rfl,show (0 : Nat) < 85 by decide,trivial⟩,⟨rfl,hdi _⟩,⟨rfl,trivial,trivial⟩,⟨rfl,hap _ _⟩,⟨rfl,trivial⟩,⟨rfl,trivial⟩,⟨rfl,hap _ _⟩,⟨rfl,trivial⟩,⟨by show some _ = some _; rw [hsinc],trivial⟩,trivial⟩,
        ⟨⟨by decide,rfl,hob _ (by decide)⟩,⟨by decide,?_,hti _ _⟩,⟨by decide,rfl,hti _ _⟩,trivial⟩⟩
       show some (Bx.mk 1 ((tab (setR fun j => if j = b then aS l ((dirN l b).take s) else abvT l S t j)).set b (setAt ((tab (setR fun j => if j = b then aS l ((dirN l b).take s) else abvT l S t j)).getD b []) 0 [.vec (words (digs (aS l ((dirN l b).take (s + 1))))) false]))) = some _
       rw [setR_upd hb64]
       refine congrArg (fun x => some (Bx.mk 1 x)) (set_tab fun j _ => ?_)
       by_cases hj : j = b
       · rw [if_pos hj,if_pos hj]
       · rw [if_neg hj,if_neg hj,if_neg hj]
     · have hsl : s = (dirN l b).length := by have := of_decide_eq_false hb; omega
       subst hsl
       clear hb
       rw [List.take_length,aS_all hl b]
       (repeat'(first|refine at_dst 101 ?_|refine at_dstD 101 ?_|refine st ?_|(apply B<;>intro hb<;>try cases hb)))<;>try refine At.mk ?_
       refine dK_of (E_iaddrO rfl rfl rfl b rfl (by rw [tab_len]; exact hb64) rfl) rfl rfl ?_
       refine dK_of (E_load (p := setN (abv l b)) (i := b) rfl rfl (by rw [tab_len]; exact hb64) (by rw [tab_get hb64]; show some (setN (if b = b then _ else _)) = _; rw [if_pos rfl])) rfl rfl ?_
       refine dK_eq (allfn_spec (abv l b)) rfl rfl rfl ⟨setN_pure _,trivial⟩ ?_
       (refine go ?_;repeat' (apply B<;>intro hb<;>try cases hb))
       refine aw_range (X := List Nat) hC (caps := [.cp [.vec (words (digs (abv l b))) false]]) [(1,.cp [.ptr 0 0 0]),(2,.vec ((List.range 64).map fun j => [.vec (nums (intsN (dirN l j))) false]) false),(6,.cp [.val (.int .i64 (b : Int))]),(57,.vec (nums (intsN S)) false),(58,.val (.int .i64 64)),(59,.val (.int .i64 (t : Int))),(103,.fn 80 [.cp [.vec (words (digs (abv l b))) false]])]
        (fun z => [(0,ordB l fp (.own 7) (.own 12) (.vec (nums (intsN S)) false)),(7,⟨1,tab (setR fun j => if j = b then abv l b else abvT l S t j)⟩),(12,⟨1,tab (setR fun j => if j∈z then belT l S t j ||| 2 ^ b else belT l S t j)⟩)]) rfl ⟨⟨words_pure _,trivial⟩,trivial⟩ (all_iter (abv l b) (abv_64 l b)) (fun _ => rfl)
        (fun ex pre z => ex = .normal∧z = pre.map (·.val)) 84 (by decide) [] ⟨rfl,rfl⟩
        (sub_keep hC (by decide) ⟨⟨rfl, show (0 : Nat) < 84 by decide, trivial⟩, ⟨rfl, hdi _⟩, ⟨rfl, trivial, trivial⟩, ⟨rfl, hap _ _⟩, ⟨rfl, trivial⟩, ⟨rfl, trivial⟩, ⟨rfl, ⟨words_inn _ _, trivial⟩, trivial⟩, trivial⟩
          ⟨⟨by decide,rfl,hob _ (by decide)⟩,⟨by decide,rfl,hti _ _⟩,⟨by decide,by rw [set_tab (f := fun j => if j∈([] : List Nat) then belT l S t j ||| 2 ^ b else belT l S t j) (g := belT l S t) fun j _ => if_neg (by simp)]; rfl,hti _ _⟩,trivial⟩)
        (fun z q hq=>by simp at hq; rcases hq with rfl | rfl | rfl <;> exact Nat.zero_lt_succ _) _ (fun x => rfl) ?_ ?_ ?_
       · rintro C2 hC2 pre x z ⟨-, hz⟩ hlen
         have ha64 := mem_lt x.2
         generalize hf : (fun j => if j∈z then belT l S t j ||| 2 ^ b else belT l S t j) = f
         have hf64 : ∀ j,f j < 18446744073709551616 := fun j => by
          rw [← hf]
          dsimp only
          split
          · exact or_lt (belT_64 ..) (pow_lt64 hb64)
          · exact belT_64 ..
         have hwn : withN (f x.val) (b : Int) = f x.val ||| 2 ^ b := by rw [withN,if_pos ⟨by omega,by omega⟩]; rfl
         (repeat'(first|refine at_dst 115 ?_|refine at_dstD 115 ?_|refine st ?_|(apply B<;>intro hb<;>try cases hb)))<;>try refine At.mk ?_
         refine dK_of (E_iaddrO rfl rfl rfl x.val rfl (by rw [tab_len]; exact ha64) rfl) rfl rfl ?_
         refine dK_of (E_load (p := setN (f x.val)) (i := x.val) rfl rfl (by rw [tab_len]; exact ha64) (by rw [tab_get ha64]; rfl)) rfl rfl ?_
         (repeat'(first|refine at_dst 118 ?_|refine at_dstD 118 ?_|refine st ?_|(apply B<;>intro hb<;>try cases hb)))<;>try refine At.mk ?_
         refine dK_eq (with_spec _ (Nat.le_trans (digs_short (hf64 _)) (by decide)) (b : Int)) rfl rfl rfl ⟨setN_pure _,trivial,trivial⟩ ?_
         rw [hwn]
         refine dK_of (E_iaddrO rfl rfl rfl x.val rfl (by rw [tab_len]; exact ha64) rfl) rfl rfl ?_
         refine dK_of (E_store (i := x.val) rfl rfl rfl rfl rfl (by rw [tab_len]; exact ha64) (Nat.le_refl _)) rfl rfl ?_
         (refine go ?_;repeat' (apply B<;>intro hb<;>try cases hb))
         refine ⟨.inl rfl,z ++ [x.val],fun i => i,⟨rfl,by rw [hz,List.map_append]; rfl⟩,fun i hi => rfl,injOn_id,
          ⟨⟨_,rfl,.same _ ⟨⟨by decide,rfl⟩,trivial⟩⟩,⟨_,rfl,.pure _ hdp⟩,⟨_,rfl,.pure _ ⟨trivial,trivial⟩⟩,⟨_,rfl,.pure _ (nums_pure _)⟩,⟨_,rfl,.pure _ trivial⟩,⟨_,rfl,.pure _ trivial⟩,⟨_,rfl,.pure _ ⟨⟨words_pure _,trivial⟩,trivial⟩⟩,trivial⟩,
          ⟨⟨by decide,_,rfl,hren0⟩,⟨by decide,_,rfl,.same _ (tab_pure (setR_pure _))⟩,⟨by decide,_,rfl,?_⟩,trivial⟩⟩
         show RenB _ _ ⟨1,(tab (setR f)).set x.val (setAt ((tab (setR f)).getD x.val []) 0 [.vec (words (digs (f x.val ||| 2 ^ b))) false])⟩ ⟨1,tab (setR fun j => if j∈z ++ [x.val] then belT l S t j ||| 2 ^ b else belT l S t j)⟩
         rw [setR_upd ha64,set_tab (g := fun j => if j∈z ++ [x.val] then belT l S t j ||| 2 ^ b else belT l S t j)]
         · exact .same _ (tab_pure (setR_pure _))
         · intro j _
           rw [← hf]
           dsimp only
           by_cases hj : j = x.val
           · rw [if_pos hj, if_pos (List.mem_append.2 (.inr (List.mem_singleton.2 hj))), hj]
             by_cases hx : x.val∈z
             · rw [if_pos hx,Nat.or_assoc,Nat.or_self]
             · rw [if_neg hx]
           · rw [if_neg hj]
             by_cases hx : j∈z
             · rw [if_pos hx,if_pos (List.mem_append.2 (.inl hx))]
             · rw [if_neg hx,if_neg fun h => (List.mem_append.1 h).elim hx fun h => hj (List.mem_singleton.1 h)]
       · rintro xs z hxs ⟨-, rfl⟩
         rw [hxs]
         (refine go ?_;repeat' (apply B<;>intro hb<;>try cases hb))
         refine ⟨t + 1,by omega,by omega,⟨⟨rfl,show (0 : Nat) < 84 by decide,trivial⟩,⟨rfl,hdi _⟩,⟨rfl,hap _ _⟩,⟨rfl,trivial⟩,⟨by show some _ = some _; rw [htinc],trivial⟩,trivial⟩,
          ⟨⟨by decide,rfl,hob _ (by decide)⟩,⟨by decide,by rw [set_tab (f := abvT l S (t + 1)) (g := fun j => if j = b then abv l b else abvT l S t j) fun j _ => hastep j]; rfl,hti _ _⟩,⟨by decide,by rw [set_tab (f := belT l S (t + 1)) (g := fun j => if j∈mem (abv l b) then belT l S t j ||| 2 ^ b else belT l S t j) fun j _ => hbstep j]; rfl,hti _ _⟩,trivial⟩⟩
       · rintro ex pre z - ⟨rfl,_⟩ (h | ⟨id,h⟩) <;> cases h
   · have htl : t = 64 := by have := of_decide_eq_false hb; omega
     subst htl
     clear hb
     refine opsK_done ?_
     rw [set_tab (f := abvT l S 64) (g := abv l) fun j hj => abvT_end hS h64 hj,set_tab (f := belT l S 64) (g := bel l) fun j _ => belT_end hl hS h64 j]
     refine aw_sub (sub_freezeCell (ob := 0) (id := 7) (i0 := 0) (j0 := 2) rfl rfl (by decide) (tab_pure (setR_pure _)) (Nat.le_of_ble_eq_true rfl) (Nat.le_of_ble_eq_true rfl) rfl) ?_
     refine aw_sub (sub_freezeCell (ob := 0) (id := 12) (i0 := 0) (j0 := 3) rfl rfl (by decide) (tab_pure (setR_pure _)) (Nat.le_of_ble_eq_true rfl) (Nat.le_of_ble_eq_true rfl) rfl) ?_
     (refine go ?_;repeat' (apply B<;>intro hb<;>try cases hb))
     exact ⟨_,_,rfl,.inl rfl,_,rfl,trivial,⟨⟨trivial,prs_pure l,tab_pure (setR_pure _),tab_pure (setR_pure _),nums_pure _,trivial⟩,trivial⟩,rfl,rfl⟩
end Go.Proofs.YtcoehdmpjflmlaaGreatDoor

namespace Go.Proofs.YtcoehdmpjflmlaaGreatDoor
open Go.Shelf
def sortPair_ren : Go.Shelf.Ren := ⟨fun | 6 => 93 | 15 => 115 | 14 => 114 | 28 => 130 | 29 => 131 | 20 => 122 | 21 => 123 | 22 => 124 | 23 => 125 | 24 => 126 | 25 => 127 | 26 => 128 | 27 => 129 | 46 => 133 | 47 => 134 | 48 => 135 | 49 => 136 | 50 => 137 | 57 => 138 | n => n,fun | 22 => 33 | 24 => 65 | 25 => 166 | 3 => 3 | 39 => 160 | 0 => 0 | 53 => 193 | 55 => 22 | 4 => 4 | 46 => 187 | 45 => 186 | 50 => 51 | 5 => 5 | 9 => 9 | 66 => 196 | 70 => 200 | 76 => 202 | 77 => 174 | n => n,fun | n => n⟩
theorem sortPair : Go.Proofs.SlLaysF0.n6 Tryz.prog sortPair_ren := {
 mixed := by kernel_rfl
 f6 := ⟨Tryz.f93.name,by decide,Tryz.func93.trans (congrArg some (by kernel_rfl))⟩
 f14 := ⟨Tryz.f114.name,by decide,Tryz.func114.trans (congrArg some (by kernel_rfl))⟩
 f15 := Tryz.func115.trans (congrArg some (by kernel_rfl))
 f20 := ⟨Tryz.f122.name,by decide,Tryz.func122.trans (congrArg some (by kernel_rfl))⟩
 f21 := ⟨Tryz.f123.name,by decide,Tryz.func123.trans (congrArg some (by kernel_rfl))⟩
 f22 := ⟨Tryz.f124.name,by decide,Tryz.func124.trans (congrArg some (by kernel_rfl))⟩
 f23 := ⟨Tryz.f125.name,by decide,Tryz.func125.trans (congrArg some (by kernel_rfl))⟩
 f24 := ⟨Tryz.f126.name,by decide,Tryz.func126.trans (congrArg some (by kernel_rfl))⟩
 f25 := ⟨Tryz.f127.name,by decide,Tryz.func127.trans (congrArg some (by kernel_rfl))⟩
 f26 := ⟨Tryz.f128.name,by decide,Tryz.func128.trans (congrArg some (by kernel_rfl))⟩
 f27 := ⟨Tryz.f129.name,by decide,Tryz.func129.trans (congrArg some (by kernel_rfl))⟩
 f28 := Tryz.func130.trans (congrArg some (by kernel_rfl))
 f29 := Tryz.func131.trans (congrArg some (by kernel_rfl))
 f46 := ⟨Tryz.f133.name,by decide,Tryz.func133.trans (congrArg some (by kernel_rfl))⟩
 f47 := Tryz.func134.trans (congrArg some (by kernel_rfl))
 f48 := Tryz.func135.trans (congrArg some (by kernel_rfl))
 f49 := ⟨Tryz.f136.name,by decide,Tryz.func136.trans (congrArg some (by kernel_rfl))⟩
 f50 := ⟨Tryz.f137.name,by decide,Tryz.func137.trans (congrArg some (by kernel_rfl))⟩
 f57 := ⟨Tryz.f138.name,by decide,Tryz.func138.trans (congrArg some (by kernel_rfl))⟩
 t0 := Tryz.underlying0
 a0 := Tryz.isAgg0
 z0 := Tryz.sizeOf0
 v0 := Tryz.zeroValue0
 t3 := Tryz.underlying3
 a3 := Tryz.isAgg3
 z3 := Tryz.sizeOf3
 v3 := Tryz.zeroValue3
 t4 := Tryz.underlying4
 a4 := Tryz.isAgg4
 z4 := Tryz.sizeOf4
 v4 := Tryz.zeroValue4
 t5 := Tryz.underlying5
 a5 := Tryz.isAgg5
 z5 := Tryz.sizeOf5
 v5 := Tryz.zeroValue5
 t9 := Tryz.underlying9
 a9 := Tryz.isAgg9
 z9 := Tryz.sizeOf9
 v9 := Tryz.zeroValue9
 t22 := Tryz.underlying33
 a22 := Tryz.isAgg33
 z22 := Tryz.sizeOf33
 v22 := Tryz.zeroValue33
 t25 := Tryz.underlying166
 a25 := Tryz.isAgg166
 z25 := Tryz.sizeOf166
 v25 := Tryz.zeroValue166
 t39 := Tryz.underlying160
 a39 := Tryz.isAgg160
 z39 := Tryz.sizeOf160
 v39 := Tryz.zeroValue160
 t45 := Tryz.underlying186
 a45 := Tryz.isAgg186
 z45 := Tryz.sizeOf186
 v45 := Tryz.zeroValue186
 t46 := Tryz.underlying187
 a46 := Tryz.isAgg187
 z46 := Tryz.sizeOf187
 v46 := Tryz.zeroValue187
 t50 := Tryz.underlying51
 a50 := Tryz.isAgg51
 z50 := Tryz.sizeOf51
 v50 := Tryz.zeroValue51
 t53 := Tryz.underlying193
 a53 := Tryz.isAgg193
 z53 := Tryz.sizeOf193
 v53 := Tryz.zeroValue193
 t55 := Tryz.underlying22
 a55 := Tryz.isAgg22
 z55 := Tryz.sizeOf22
 v55 := Tryz.zeroValue22
 t66 := Tryz.underlying196
 a66 := Tryz.isAgg196
 z66 := Tryz.sizeOf196
 v66 := Tryz.zeroValue196
 t70 := Tryz.underlying200
 a70 := Tryz.isAgg200
 z70 := Tryz.sizeOf200
 v70 := Tryz.zeroValue200
 t76 := Tryz.underlying202
 a76 := Tryz.isAgg202
 z76 := Tryz.sizeOf202
 v76 := Tryz.zeroValue202
 t77 := Tryz.underlying174
 a77 := Tryz.isAgg174
 z77 := Tryz.sizeOf174
 v77 := Tryz.zeroValue174 }
theorem sortPair_agg : ∀ w,(isAgg (sortPair_ren.t 24)).run Tryz.prog w = .ok true w := Tryz.isAgg65
theorem sortPair_size : ∀ w,(Go.sizeOf (sortPair_ren.t 24)).run Tryz.prog w = .ok 2 w := Tryz.sizeOf65
end Go.Proofs.YtcoehdmpjflmlaaGreatDoor

namespace Go.Proofs.YtcoehdmpjflmlaaGreatDoor
open Go.RowKit
set_option linter.unusedVariables false
attribute [local irreducible] aw opsK dK

theorem prs_len (l : List Pr) : (l.map prC).length = l.length := by simp
set_option maxHeartbeats 1000000 in
theorem cloneP_own (xs : List Pr) (fl : Bool) (hlen : xs.length≤1000000) : NSpec Tryz.prog 75 [.vec (xs.map prC) fl] .own ⟨2,xs.map prC⟩ := by
 refine nspec_intro ok75 (Nat.le_of_ble_eq_true rfl) fun C hC => ?_
 have fin : ∀ (x : Pr) (xs : List Pr),(∀ c∈(x :: xs).map prC,c.length = 2) := fun x xs c hc=>by obtain ⟨y,_,rfl⟩ := List.mem_map.1 hc; rfl
 cases xs with
 | nil =>
   (refine go ?_;repeat' (apply B<;>intro hb<;>try cases hb))
   refine opsK_isnil (.inl ⟨_,_,rfl⟩) rfl fun b => ?_
   cases b
   · repeat' (first | refine opsK_sub (subA_ownNil (k := 5) rfl 2 (by decide)) ?_ | (first|refine st ?_|(apply B<;>intro hb<;>try cases hb)))
     exact ⟨_,_,rfl,.inl rfl,_,rfl,rfl⟩
   · iterate 6 (first|refine st ?_|(apply B<;>intro hb<;>try cases hb))
     refine aw_sub (subA_ownNil (k := 2) rfl 2 (by decide) _) ?_
     (refine go ?_;repeat' (apply B<;>intro hb<;>try cases hb))
     exact ⟨_,_,rfl,.inl rfl,_,rfl,rfl⟩
 | cons x xs =>
   repeat' (first | refine opsK_sub (subA_ownNil (k := 5) rfl 2 (by decide)) ?_ | (first|refine st ?_|(apply B<;>intro hb<;>try cases hb)))
   refine opsK_new (E_append (k := 0) (m := (x :: xs).map prC) (fl := fl) rfl rfl rfl (fin x xs) rfl (by
    show (([] : List (List PV)).length + ((x :: xs).map prC).length) * 16≤_
    rw [List.length_map,List.length_nil];omega)) rfl rfl ?_
   (refine go ?_;repeat' (apply B<;>intro hb<;>try cases hb))
   exact ⟨_,_,rfl,.inl rfl,_,rfl,by rw [List.nil_append]; rfl⟩
def pB (p x : Pr) : Bool := ((p.1 : Int) == (x.1 : Int)) && (((p.2 : Int) == (x.2 : Int)) && true)
theorem pB_iff (p x : Pr) : pB p x = true ↔ p = x := by
 unfold pB
 rw [Bool.and_true,Bool.and_eq_true,beq_iff_eq,beq_iff_eq,Int.ofNat_inj,Int.ofNat_inj]
 exact ⟨fun h => Prod.ext h.1 h.2,fun h=>by rw [h]; exact ⟨rfl,rfl⟩⟩
theorem any_pB {xs : List Pr} {p : Pr} : xs.any (pB p) = decide (p∈xs) := by
 rw [Bool.eq_iff_iff,List.any_eq_true,decide_eq_true_iff]
 constructor
 · rintro ⟨x, hx, h⟩
   rw [(pB_iff p x).1 h]; exact hx
 · intro h
   exact ⟨p,h,(pB_iff p p).2 rfl⟩
set_option maxHeartbeats 1000000 in
theorem indexP_spec (xs : List Pr) (p : Pr) (fl : Bool) : Spec Tryz.prog 77 [.vec (xs.map prC) fl,.agg (prC p)] (· = .val (.int .i64 (idxI (pB p) xs))) := by
 have hnl := prs_len xs
 refine spec_intro ok77 (Nat.le_of_ble_eq_true rfl) fun C hC => ?_
 refine aw_len (k := 0) rfl fun hmax => ?_
 have hlm : xs.length≤maxVec := by rw [← hnl]; exact hmax
 refine aw_seq ?_
 refine aw_region ?_
 refine opsK_ofAlt rfl rfl rfl ?_
 (refine go ?_;repeat' (apply B<;>intro hb<;>try cases hb))
 have hpi : ∀ D,innLL D (xs.map prC) := fun D => innLL_mono (fun _ h => h.elim) _ (prs_pure xs)
 have hpc : ∀ D,innL D (prC p) := fun D => innL_mono (fun _ h => h.elim) _ (prC_pure p)
 refine aw_loopH hC (fun i => i≤xs.length∧(xs.take i).any (pB p) = false) (fun i => xs.length - i) 0 (fun i => [(0,.vec (xs.map prC) fl),(3,.cp (prC p)),(7,.val (.int .i64 (xs.length : Int))),(8,.val (.int .i64 (i : Int)))]) (fun _=>[]) (Nat.zero_le _) 0 ⟨Nat.zero_le _,rfl⟩ ⟨⟨rfl,hpi _⟩,⟨rfl,hpc _⟩,⟨by rw [← hnl]; rfl,trivial⟩,⟨rfl,trivial⟩,trivial⟩ trivial ?_
 rintro i ⟨hi,hno⟩
 have hinc : IntKind.i64.wrap ((i : Int) + 1) = ((i + 1 : Nat) : Int) := IntWalk.i64_in _ ⟨by omega,by simp only [maxVec] at hlm; omega⟩
 (repeat'(first|refine at_dst 9 ?_|refine at_dstD 9 ?_|refine st ?_|(apply B<;>intro hb<;>try cases hb)))<;>try refine At.mk ?_
 refine opsK_bool rfl rfl rfl (fun hb=>?_) (fun hb=>?_)
 · have hil : i < xs.length := by have := of_decide_eq_true hb; omega
   clear hb
   (repeat'(first|refine at_dst 14 ?_|refine at_dstD 14 ?_|refine st ?_|(apply B<;>intro hb<;>try cases hb)))<;>try refine At.mk ?_
   refine dK_of (E_iaddr (xs := xs) (g := prC) rfl rfl i rfl hil rfl) rfl rfl ?_
   (repeat'(first|refine at_dst 16 ?_|refine at_dstD 16 ?_|refine st ?_|(apply B<;>intro hb<;>try cases hb)))<;>try refine At.mk ?_
   refine dK_bool (b := pB p xs[i]) rfl rfl rfl (fun hx => ?_) (fun hx => ?_)
   · (refine go ?_;repeat' (apply B<;>intro hb<;>try cases hb))
     exact ret_ok rfl trivial (by rw [idxI_at hil hno hx])
   · (refine go ?_;repeat' (apply B<;>intro hb<;>try cases hb))
     exact ⟨i + 1,⟨by omega,any_take hil hno hx⟩,by omega,⟨⟨rfl,hpi _⟩,⟨rfl,hpc _⟩,⟨rfl,trivial⟩,⟨by show some _ = some _; rw [hinc],trivial⟩,trivial⟩,trivial⟩
 · have hil : i = xs.length := by have := of_decide_eq_false hb; omega
   subst hil
   rw [List.take_length] at hno
   (refine go ?_;repeat' (apply B<;>intro hb<;>try cases hb))
   exact ret_ok rfl trivial (by rw [idxI_none hno]; rfl)
theorem containsP_spec (xs : List Pr) (p : Pr) (fl : Bool) : Spec Tryz.prog 99 [.vec (xs.map prC) fl,.agg (prC p)] (· = .val (.bool (decide (p∈xs)))) := by
 refine spec_intro ok99 (Nat.le_of_ble_eq_true rfl) fun C hC => ?_
 refine aw_seq ?_
 refine aw_region ?_
 refine opsK_ofAlt rfl rfl rfl ?_
 (refine go ?_;repeat' (apply B<;>intro hb<;>try cases hb))
 refine opsK_eq (indexP_spec xs p fl) rfl rfl rfl ⟨prs_pure xs,prC_pure p,trivial⟩ rfl ?_
 refine opsK_of (E_boolEq rfl ((idxI_any (p := pB p) (xs := xs)).trans any_pB)) rfl rfl ?_
 (refine go ?_;repeat' (apply B<;>intro hb<;>try cases hb))
 all_goals exact ret_ok rfl trivial (by rw [hb])
theorem E_clip {esz n : Nat} {e : Env} {h : Heap} {x hi mx : Operand} {l : List (List PV)} {fl : Bool} (hx : ev e x = some (.vec l fl)) (h1 : intAt (ev e hi) = some (l.length : Int)) (h2 : intAt (ev e mx) = some (l.length : Int)) (hl : ∀ c∈l,c.length = esz) : dEval (.slc esz x none (some hi) (some mx)) e h n = some (.vec l true,h) := by
 simp only [dEval,hx,bndAt,h1,h2]
 rw [if_pos ⟨⟨by omega,by omega,by omega,by omega⟩,hl⟩]
 simp
theorem clipP_spec (xs : List Pr) (fl : Bool) : Spec Tryz.prog 95 [.vec (xs.map prC) fl] (· = .vec (xs.map prC) true) := by
 refine spec_intro ok95 (Nat.le_of_ble_eq_true rfl) fun C hC => ?_
 (repeat'(first|refine at_dst 8 ?_|refine at_dstD 8 ?_|refine st ?_|(apply B<;>intro hb<;>try cases hb)))<;>try refine At.mk ?_
 refine opsK_of (E_clip rfl rfl rfl (fun c hc=>by obtain ⟨y,_,rfl⟩ := List.mem_map.1 hc; rfl)) rfl rfl ?_
 (refine go ?_;repeat' (apply B<;>intro hb<;>try cases hb))
 exact ret_ok rfl (prs_pure xs) rfl
set_option maxHeartbeats 1000000 in
theorem compactP_spec (xs : List Pr) (fl : Bool) (hne : ∀ i (h : i + 1 < xs.length),xs[i]≠xs[i + 1]) : Spec Tryz.prog 96 [.vec (xs.map prC) fl] (· = .vec (xs.map prC) fl) := by
 have hnl := prs_len xs
 refine spec_intro ok96 (Nat.le_of_ble_eq_true rfl) fun C hC => ?_
 refine aw_len (k := 0) rfl fun hmax => ?_
 have hlm : xs.length≤maxVec := by rw [← hnl]; exact hmax
 (refine go ?_;repeat' (apply B<;>intro hb<;>try cases hb))
 · exact ret_ok rfl (prs_pure xs) rfl
 · rw [hnl] at hb
   have h2 : 2≤xs.length := by have := of_decide_eq_false hb; omega
   clear hb
   have hpi : ∀ D,innLL D (xs.map prC) := fun D => innLL_mono (fun _ h => h.elim) _ (prs_pure xs)
   refine aw_loopH hC (fun k => 1≤k∧k≤xs.length) (fun k => xs.length - k) 0 (fun k => [(0,.vec (xs.map prC) fl),(3,.val (.int .i64 (k : Int)))]) (fun _=>[]) (Nat.zero_le _) 1 ⟨Nat.le_refl _,by omega⟩ ⟨⟨rfl,hpi _⟩,⟨rfl,trivial⟩,trivial⟩ trivial ?_
   rintro k ⟨hk1,hk⟩
   have hinc : IntKind.i64.wrap ((k : Int) + 1) = ((k + 1 : Nat) : Int) := IntWalk.i64_in _ ⟨by omega,by simp only [maxVec] at hlm; omega⟩
   have hdec : IntKind.i64.wrap ((k : Int) - 1) = ((k - 1 : Nat) : Int) := (IntWalk.i64_in _ ⟨by omega,by simp only [maxVec] at hlm; omega⟩).trans (by omega)
   (repeat'(first|refine at_dst 13 ?_|refine at_dstD 13 ?_|refine st ?_|(apply B<;>intro hb<;>try cases hb)))<;>try refine At.mk ?_
   refine opsK_bool rfl rfl rfl (fun hb=>?_) (fun hb=>?_)
   · rw [hnl] at hb
     have hil : k < xs.length := by have := of_decide_eq_true hb; omega
     clear hb
     (repeat'(first|refine at_dst 18 ?_|refine at_dstD 18 ?_|refine st ?_|(apply B<;>intro hb<;>try cases hb)))<;>try refine At.mk ?_
     refine dK_of (E_iaddr (xs := xs) (g := prC) rfl rfl k rfl hil rfl) rfl rfl ?_
     (repeat'(first|refine at_dst 22 ?_|refine at_dstD 22 ?_|refine st ?_|(apply B<;>intro hb<;>try cases hb)))<;>try refine At.mk ?_
     refine dK_of (E_int rfl hdec) rfl rfl ?_
     refine dK_of (E_iaddr (xs := xs) (g := prC) rfl rfl (k - 1) rfl (by omega) rfl) rfl rfl ?_
     (repeat'(first|refine at_dst 25 ?_|refine at_dstD 25 ?_|refine st ?_|(apply B<;>intro hb<;>try cases hb)))<;>try refine At.mk ?_
     refine dK_bool (b := pB xs[k] xs[k - 1]) rfl rfl rfl (fun hx => ?_) (fun hx => ?_)
     · refine absurd ((pB_iff _ _).1 hx).symm ?_
       have := hne (k - 1) (by omega)
       simpa only [show k - 1 + 1 = k by omega] using this
     · (refine go ?_;repeat' (apply B<;>intro hb<;>try cases hb))
       exact ⟨k + 1,⟨by omega,by omega⟩,by omega,⟨⟨rfl,hpi _⟩,⟨by show some _ = some _; rw [hinc],trivial⟩,trivial⟩,trivial⟩
   · (refine go ?_;repeat' (apply B<;>intro hb<;>try cases hb))
     exact ret_ok rfl (prs_pure xs) rfl
def cmpP (p q : Pr) : Int := if p.1 = q.1 then (p.2 : Int) - q.2 else (p.1 : Int) - q.1
theorem compareP_spec (p q : Pr) (hp : p.1 < 64∧p.2 < 64) (hq : q.1 < 64∧q.2 < 64) : Spec Tryz.prog 94 [.agg (prC p),.agg (prC q)] (· = .val (.int .i64 (cmpP p q))) := by
 refine spec_intro ok94 (Nat.le_of_ble_eq_true rfl) fun C hC => ?_
 have h1 : IntKind.i64.wrap ((p.1 : Int) - q.1) = (p.1 : Int) - q.1 := IntWalk.i64_in _ ⟨by omega,by omega⟩
 have h2 : IntKind.i64.wrap ((p.2 : Int) - q.2) = (p.2 : Int) - q.2 := IntWalk.i64_in _ ⟨by omega,by omega⟩
 refine aw_seq ?_
 refine aw_region ?_
 refine opsK_ofAlt rfl rfl rfl ?_
 refine opsK_ofAlt rfl rfl rfl ?_
 (refine go ?_;repeat' (apply B<;>intro hb<;>try cases hb))
 · have h3 : ¬ p.1 = q.1 := fun h => by rw [h] at hb; simp at hb
   exact ret_ok rfl trivial (by rw [h1,cmpP,if_neg h3])
 · have h3 : p.1 = q.1 := Int.ofNat_inj.1 (by simpa using hb)
   exact ret_ok rfl trivial (by rw [h2,cmpP,if_pos h3])
abbrev Pr64 := { p : Pr // p.1 < 64∧p.2 < 64 }
theorem all64P {xs : List Pr} (h : Small xs) : ∃ l : List Pr64,l.map (·.1) = xs := by
 induction xs with
 | nil => exact ⟨[],rfl⟩
 | cons c xs ih =>
   obtain ⟨l,hl⟩ := ih fun d hd => h d (List.mem_cons_of_mem _ hd)
   exact ⟨⟨c,h c (List.mem_cons_self ..)⟩ :: l,by rw [List.map_cons,hl]⟩
def keyP (p : Pr) : Nat := 64 * p.1 + p.2
theorem sortP_ispec {n ob : Nat} {h : Heap} (xs : List Pr) (hx : Small xs) (hh : h ob = some ⟨2,xs.map prC⟩) :
 ISpec Tryz.prog 93 n [.own ob,.fn 94 []] h fun n' r h' => n' = n∧r = .tup []∧∃ ys : List Pr,ys.Perm xs∧ys.Pairwise (fun a b => keyP a≤keyP b)∧h' = h.upd ob ⟨2,ys.map prC⟩ := by
 obtain ⟨l,rfl⟩ := all64P hx
 have e : ∀ l : List Pr64,(l.map (·.1)).map prC = l.map fun c : Pr64 => prC c.1 := fun l=>by rw [List.map_map]; rfl
 rw [e] at hh
 have hs := sort_ispec (P := Tryz.prog) (ρ := sortPair_ren) (n := n) sortPair ⟨_,Tryz.func93,by kernel_rfl,by kernel_rfl⟩ 2 (by decide) sortPair_agg sortPair_size (fun c : Pr64 => prC c.1) (fun c => rfl) (fun c => prC_pure c.1) (fun c : Pr64 => keyP c.1) (fun a b : Pr64 => cmpP a.1 b.1) (fun a b => by
  have h1 := a.2; have h2 := b.2
  unfold cmpP keyP
  split <;> omega) 94 [] trivial (fun a b => compareP_spec a.1 b.1 a.2 b.2) l hh
 refine hs.mono ?_
 rintro n' r h' ⟨h1,h2,ys,h3,h4,h5⟩
 refine ⟨h1,h2,ys.map (·.1),h3.map _,?_,by rw [e]; exact h5⟩
 exact List.pairwise_map.2 h4
end Go.Proofs.YtcoehdmpjflmlaaGreatDoor

namespace Go.Proofs.YtcoehdmpjflmlaaGreatDoor
open Go.RowKit
set_option linter.unusedVariables false
attribute [local irreducible] aw opsK dK

def SortedP (l : List Pr) : Prop := l.Pairwise fun p q => p.1 < q.1 ∨ p.1 = q.1∧p.2 < q.2
noncomputable def ordC (l : List Pr) (S : List Nat) : List PV := [.val (.int .i64 64),.vec (l.map prC) true,.vec (tab (setR (abv l))) false,.vec (tab (setR (bel l))) false,.vec (nums (intsN S)) false]
theorem ordC_pure (l : List Pr) (S : List Nat) : pureL (ordC l S) := ⟨trivial,prs_pure l,tab_pure (setR_pure _),tab_pure (setR_pure _),nums_pure _,trivial⟩
def IsOrd (l : List Pr) (r : PV) : Prop := ∃ S,r = .cp (ordC l S)
theorem sorted_strict {l : List Pr} (hl : Small l) (hn : l.Nodup) (hs : l.Pairwise fun a b => keyP a≤keyP b) : SortedP l := by
 have h := hs.and hn
 refine List.Pairwise.imp_of_mem (fun {p q} hp hq h => ?_) h
 have h1 := hl p hp
 have h2 := hl q hq
 obtain ⟨h3,h4⟩ := h
 unfold keyP at h3
 have h5 : ¬ (p.1 = q.1∧p.2 = q.2) := fun h => h4 (Prod.ext h.1 h.2)
 omega
theorem sorted_ne {l : List Pr} (hs : SortedP l) : ∀ i (h : i + 1 < l.length),l[i]≠l[i + 1] := fun i h he => by
 have := (List.pairwise_iff_getElem.1 hs) i (i + 1) (by omega) h (by omega)
 rw [he] at this
 omega
theorem Acy.perm {l m : List Pr} (h : Acy l) (hp : m.Perm l) : Acy m := h.sub fun p hpm => hp.mem_iff.1 hpm
theorem Small.perm {l m : List Pr} (h : Small l) (hp : m.Perm l) : Small m := fun p hpm => h p (hp.mem_iff.1 hpm)
set_option maxHeartbeats 4000000 in
theorem newO_spec (l : List Pr) (fl : Bool) (hl : Small l) (hn : l.Nodup) (hacy : Acy l) (hlen : l.length≤1000000) : Spec Tryz.prog 66 [.val (.int .i64 64),.vec (l.map prC) fl] fun r => ∃ l' o,l'.Perm l∧SortedP l'∧IsOrd l' o∧r = .tup [o,.val (.int .i64 0)] := by
 have hnl := prs_len l
 have hpl : ∀ D,innLL D (l.map prC) := fun D => innLL_mono (fun _ h => h.elim) _ (prs_pure l)
 refine spec_intro ok66 (Nat.le_of_ble_eq_true rfl) fun C hC => ?_
 (refine go ?_;repeat' (apply B<;>intro hb<;>try cases hb))
 refine aw_loopH hC (fun i => i≤l.length) (fun i => l.length - i) 0 (fun i => [(0,.val (.int .i64 64)),(1,.vec (l.map prC) fl),(16,.vec (l.map prC) fl),(17,.val (.int .i64 l.length)),(18,.val (.int .i64 (i : Int)))]) (fun _=>[]) (Nat.zero_le _) 0 (Nat.zero_le _)
  ⟨⟨rfl,trivial⟩,⟨rfl,hpl _⟩,⟨rfl,hpl _⟩,⟨by rw [← hnl]; rfl,trivial⟩,⟨rfl,trivial⟩,trivial⟩ trivial ?_
 intro i hi
 have hinc : IntKind.i64.wrap ((i : Int) + 1) = ((i + 1 : Nat) : Int) := IntWalk.i64_in _ ⟨by omega,by omega⟩
 (repeat'(first|refine at_dst 19 ?_|refine at_dstD 19 ?_|refine st ?_|(apply B<;>intro hb<;>try cases hb)))<;>try refine At.mk ?_
 refine opsK_bool rfl rfl rfl (fun hb=>?_) (fun hb=>?_)
 · have hil : i < l.length := by have := of_decide_eq_true hb; omega
   have hp := hl _ (List.getElem_mem hil)
   clear hb
   (refine go ?_;repeat' (apply B<;>intro hb<;>try cases hb))
   refine opsK_of (E_iaddr (xs := l) (g := prC) rfl rfl i rfl hil rfl) rfl rfl ?_
   generalize l[i] = p at hp ⊢
   (refine go ?_;repeat' (apply B<;>intro hb<;>try cases hb))
   · refine absurd (of_decide_eq_true hb) ?_
     split <;> omega
   · rename_i hb2
     refine absurd (of_decide_eq_true hb) ?_
     split <;> omega
   · exact ⟨i + 1,by omega,by omega,⟨⟨rfl,trivial⟩,⟨rfl,hpl _⟩,⟨rfl,hpl _⟩,⟨rfl,trivial⟩,⟨by show some _ = some _; rw [hinc],trivial⟩,trivial⟩,trivial⟩
 · have hil : i = l.length := by have := of_decide_eq_false hb; omega
   subst hil
   clear hb
   repeat' (first | refine opsK_sub (subA_ownNil (k := 38) rfl 2 (by decide)) ?_ | (first|refine st ?_|(apply B<;>intro hb<;>try cases hb)))
   refine opsK_new (E_append (k := 0) (m := l.map prC) (fl := fl) (b := ⟨2,[]⟩) rfl rfl rfl (fun c hc=>by obtain ⟨y,_,rfl⟩ := List.mem_map.1 hc; rfl) rfl (by
    show (0 + (l.map prC).length) * 16≤_
    rw [hnl];omega)) rfl rfl ?_
   (refine go ?_;repeat' (apply B<;>intro hb<;>try cases hb))
   refine opsK_heap rfl rfl (sortP_ispec (n := _) (ob := 1) l hl rfl) ?_
   rintro n' r h' ⟨rfl,rfl,ys,hys1,hys2,rfl⟩
   have hyl := hl.perm hys1
   have hso := sorted_strict hyl (hys1.nodup_iff.2 hn) hys2
   have hylen : ys.length≤1000000 := by rw [hys1.length_eq]; exact hlen
   (repeat'(first|refine at_dst 43 ?_|refine at_dstD 43 ?_|refine st ?_|(apply B<;>intro hb<;>try cases hb)))<;>try refine At.mk ?_
   refine opsK_sub (subA_freeze (k := 8) (id := 1) rfl rfl (prs_pure ys)) ?_
   (refine go ?_;repeat' (apply B<;>intro hb<;>try cases hb))
   refine opsK_eq (compactP_spec ys false (sorted_ne hso)) rfl rfl rfl ⟨prs_pure ys,trivial⟩ rfl ?_
   refine opsK_eq (clipP_spec ys false) rfl rfl rfl ⟨prs_pure ys,trivial⟩ rfl ?_
   (refine go ?_;repeat' (apply B<;>intro hb<;>try cases hb))
   refine opsK_ptr (sortO_spec ys true hyl (hacy.perm hys1) hylen) rfl rfl rfl rfl ⟨⟨trivial,prs_pure ys,trivial,trivial,trivial,trivial⟩,trivial⟩ trivial ?_
   rintro r b' - - ⟨rfl,S,hT,h64,rfl⟩
   (refine go ?_;repeat' (apply B<;>intro hb<;>try cases hb))
   refine opsK_ptr (relate_spec ys true hyl hylen S hT h64) rfl rfl rfl rfl ⟨⟨trivial,prs_pure ys,trivial,trivial,nums_pure _,trivial⟩,trivial⟩ trivial ?_
   rintro r b' - - ⟨rfl,rfl⟩
   (repeat'(first|refine at_dst 54 ?_|refine at_dstD 54 ?_|refine st ?_|(apply B<;>intro hb<;>try cases hb)))<;>try refine At.mk ?_
   refine opsK_sub (subA_freezeBox (k := 9) (l := ordC ys S) rfl rfl (ordC_pure ys S)) ?_
   (refine go ?_;repeat' (apply B<;>intro hb<;>try cases hb))
   exact ret_ok rfl ⟨ordC_pure ys S,trivial,trivial⟩ ⟨ys,_,hys1,hso,⟨S,rfl⟩,rfl⟩
theorem inO_spec (l : List Pr) (S : List Nat) (a : Int) : Spec Tryz.prog 73 [.cp (ordC l S),.val (.int .i64 a)] (· = .val (.bool (decide (0≤a) && decide (a < 64)))) := by
 refine spec_intro ok73 (Nat.le_of_ble_eq_true rfl) fun C hC => ?_
 (refine go ?_;repeat' (apply B<;>intro hb<;>try cases hb))
 · have h1 := of_decide_eq_true hb
   rename_i hb2
   exact ret_ok rfl trivial (by simp_all)
 · exact ret_ok rfl trivial (by simp_all)
 · exact ret_ok rfl trivial (by simp_all;omega)
theorem pairsO_own (l : List Pr) (S : List Nat) (hlen : l.length≤1000000) : NSpec Tryz.prog 44 [.cp (ordC l S)] .own ⟨2,l.map prC⟩ := by
 refine nspec_intro ok44 (Nat.le_of_ble_eq_true rfl) fun C hC => ?_
 (refine go ?_;repeat' (apply B<;>intro hb<;>try cases hb))
 refine opsK_own (cloneP_own l true hlen) mk_own (by exact prs_pure l) rfl rfl ⟨prs_pure l,trivial⟩ ?_
 (refine go ?_;repeat' (apply B<;>intro hb<;>try cases hb))
 exact ⟨_,_,rfl,.inl rfl,_,rfl,rfl⟩
theorem pairsO_spec (l : List Pr) (S : List Nat) (hlen : l.length≤1000000) : Spec Tryz.prog 44 [.cp (ordC l S)] (· = .vec (l.map prC) false) :=
 (pairsO_own l S hlen).spec (prs_pure l) (fun _ => .own) (prs_pure l)
theorem belowO_spec (l : List Pr) (S : List Nat) (a : Int) : Spec Tryz.prog 41 [.cp (ordC l S),.val (.int .i64 a)] (· = setN (if 0≤a∧a < 64 then bel l a.toNat else 0)) := by
 refine spec_intro ok41 (Nat.le_of_ble_eq_true rfl) fun C hC => ?_
 (refine go ?_;repeat' (apply B<;>intro hb<;>try cases hb))
 refine opsK_eq (inO_spec l S a) rfl rfl rfl ⟨ordC_pure l S,trivial,trivial⟩ rfl ?_
 by_cases h : 0≤a∧a < 64
 · rw [if_pos h, decide_eq_true h.1, decide_eq_true h.2]
   obtain ⟨k,rfl⟩ : ∃ k : Nat,a = (k : Int) := ⟨a.toNat,by omega⟩
   have hk : k < 64 := by omega
   have hkl : k < (List.range 64).length := by simpa using hk
   (repeat'(first|refine at_dst 15 ?_|refine at_dstD 15 ?_|refine st ?_|(apply B<;>intro hb<;>try cases hb)))<;>try refine At.mk ?_
   refine opsK_of (E_iaddr (xs := List.range 64) (g := setR (bel l)) rfl rfl k rfl hkl rfl) rfl rfl ?_
   rw [List.getElem_range]
   (refine go ?_;repeat' (apply B<;>intro hb<;>try cases hb))
   exact ret_ok rfl (setN_pure _) rfl
 · rw [if_neg h]
   have h2 : (decide (0≤a) && decide (a < 64)) = false := by
    rw [Bool.and_eq_false_iff]
    by_cases h1 : 0≤a
    · exact .inr (decide_eq_false fun h3 => h ⟨h1,h3⟩)
    · exact .inl (decide_eq_false h1)
   rw [h2]
   (refine go ?_;repeat' (apply B<;>intro hb<;>try cases hb))
   refine ret_low rfl (setN_pure 0 |> fun h=>by rw [setN_zero] at h; exact h) ?_
   rw [setN_zero]; rfl
theorem aboveO_spec (l : List Pr) (S : List Nat) (a : Int) : Spec Tryz.prog 79 [.cp (ordC l S),.val (.int .i64 a)] (· = setN (if 0≤a∧a < 64 then abv l a.toNat else 0)) := by
 refine spec_intro ok79 (Nat.le_of_ble_eq_true rfl) fun C hC => ?_
 (refine go ?_;repeat' (apply B<;>intro hb<;>try cases hb))
 refine opsK_eq (inO_spec l S a) rfl rfl rfl ⟨ordC_pure l S,trivial,trivial⟩ rfl ?_
 by_cases h : 0≤a∧a < 64
 · rw [if_pos h, decide_eq_true h.1, decide_eq_true h.2]
   obtain ⟨k,rfl⟩ : ∃ k : Nat,a = (k : Int) := ⟨a.toNat,by omega⟩
   have hk : k < 64 := by omega
   have hkl : k < (List.range 64).length := by simpa using hk
   (repeat'(first|refine at_dst 15 ?_|refine at_dstD 15 ?_|refine st ?_|(apply B<;>intro hb<;>try cases hb)))<;>try refine At.mk ?_
   refine opsK_of (E_iaddr (xs := List.range 64) (g := setR (abv l)) rfl rfl k rfl hkl rfl) rfl rfl ?_
   rw [List.getElem_range]
   (refine go ?_;repeat' (apply B<;>intro hb<;>try cases hb))
   exact ret_ok rfl (setN_pure _) rfl
 · rw [if_neg h]
   have h2 : (decide (0≤a) && decide (a < 64)) = false := by
    rw [Bool.and_eq_false_iff]
    by_cases h1 : 0≤a
    · exact .inr (decide_eq_false fun h3 => h ⟨h1,h3⟩)
    · exact .inl (decide_eq_false h1)
   rw [h2]
   (refine go ?_;repeat' (apply B<;>intro hb<;>try cases hb))
   refine ret_low rfl (setN_pure 0 |> fun h=>by rw [setN_zero] at h; exact h) ?_
   rw [setN_zero]; rfl
theorem lessO_spec (l : List Pr) (hl : Small l) (S : List Nat) (a b : Nat) (ha : a < 64) (hb : b < 64) : Spec Tryz.prog 51 [.cp (ordC l S),.val (.int .i64 (a : Int)),.val (.int .i64 (b : Int))] (· = .val (.bool ((abv l a).testBit b))) := by
 refine spec_intro ok51 (Nat.le_of_ble_eq_true rfl) fun C hC => ?_
 have h1 := aboveO_spec l S (a : Int)
 rw [if_pos ⟨by omega,by omega⟩] at h1
 have h2 := hasS_spec (abv l a) (abv_64 l a) (b : Int)
 rw [decide_eq_true (show (0 : Int)≤b by omega),Bool.true_and] at h2
 (refine go ?_;repeat' (apply B<;>intro hb<;>try cases hb))
 refine opsK_eq h1 rfl rfl rfl ⟨ordC_pure l S,trivial,trivial⟩ rfl ?_
 (refine go ?_;repeat' (apply B<;>intro hb<;>try cases hb))
 refine opsK_eq h2 rfl rfl rfl ⟨setN_pure _,trivial,trivial⟩ rfl ?_
 (refine go ?_;repeat' (apply B<;>intro hb<;>try cases hb))
 all_goals exact ret_ok rfl trivial (by rw [show (abv l a).testBit b = _ from hb])
set_option maxHeartbeats 1000000 in
theorem withO_spec (l : List Pr) (S : List Nat) (a b : Nat) (ha : a < 64) (hb : b < 64) (hl : Small l) (hn : l.Nodup) (hno : (a,b) ∉ l) (hacy : Acy (l ++ [(a,b)])) (hlen : l.length≤100000) : Spec Tryz.prog 67 [.cp (ordC l S),.val (.int .i64 (a : Int)),.val (.int .i64 (b : Int))] fun r => ∃ l' o,l'.Perm (l ++ [(a,b)])∧SortedP l'∧IsOrd l' o∧r = .tup [o,.val (.int .i64 0)] := by
 have hi : ∀ c : Nat,c < 64→Spec Tryz.prog 73 [.cp (ordC l S),.val (.int .i64 (c : Int))] (· = .val (.bool true)) := fun c hc => by
  have := inO_spec l S (c : Int)
  rwa [decide_eq_true (show (0 : Int)≤c by omega),decide_eq_true (show (c : Int) < 64 by omega)] at this
 have hcon := containsP_spec l (a,b) true
 rw [decide_eq_false hno] at hcon
 have hl2 : Small (l ++ [(a,b)]) := fun p hp => (List.mem_append.1 hp).elim (hl p) fun h=>by rw [List.mem_singleton] at h; subst h; exact ⟨ha,hb⟩
 have hn2 : (l ++ [(a,b)]).Nodup := by
  rw [List.nodup_append]
  exact ⟨hn,by simp,fun x hx y hy e=>by rw [List.mem_singleton] at hy; subst hy; subst e; exact hno hx⟩
 refine spec_intro ok67 (Nat.le_of_ble_eq_true rfl) fun C hC => ?_
 (refine go ?_;repeat' (apply B<;>intro hb<;>try cases hb))
 refine opsK_eq (hi a ha) rfl rfl rfl ⟨ordC_pure l S,trivial,trivial⟩ rfl ?_
 (refine go ?_;repeat' (apply B<;>intro hb<;>try cases hb))
 refine opsK_eq (hi b hb) rfl rfl rfl ⟨ordC_pure l S,trivial,trivial⟩ rfl ?_
 (refine go ?_;repeat' (apply B<;>intro hb<;>try cases hb))
 refine opsK_eq hcon rfl rfl rfl ⟨prs_pure l,prC_pure _,trivial⟩ rfl ?_
 repeat' (first | refine aw_draw [10] ?_ | (first|refine st ?_|(apply B<;>intro hb<;>try cases hb)))
 refine dK_callN (pairsO_own l S (by omega)) mk_own (by exact prs_pure l) rfl rfl rfl ⟨ordC_pure l S,trivial⟩ ?_
 (repeat'(first|refine at_dst 38 ?_|refine at_dstD 38 ?_|refine st ?_|(apply B<;>intro hb<;>try cases hb)))<;>try refine At.mk ?_
 have hap : (l.map prC) ++ [prC (a,b)] = (l ++ [(a,b)]).map prC := by rw [List.map_append]; rfl
 refine dK_appF (k := 5) (m := [prC (a,b)]) (fl := true) (b := ⟨2,l.map prC⟩) rfl rfl rfl (fun c hc=>by rw [List.mem_singleton] at hc; subst hc; rfl) rfl (by
  show ((l.map prC).length + 1) * 16≤_
  rw [prs_len];omega) (by show pureLL (l.map prC ++ [prC (a,b)]); rw [hap]; exact prs_pure _) rfl rfl ?_
 show dK _ _ _ _ (Env.upd _ 38 (.vec (l.map prC ++ [prC (a,b)]) false)) _ _
 rw [hap]
 have hnew := newO_spec (l ++ [(a,b)]) false hl2 hn2 hacy (by rw [List.length_append,List.length_singleton];omega)
 refine dK_call rfl rfl (.inl rfl) hnew ⟨trivial,prs_pure _,trivial⟩ ?_
 rintro r ⟨l',o,h1,h2,⟨S',rfl⟩,rfl⟩
 (refine go ?_;repeat' (apply B<;>intro hb<;>try cases hb))
 exact ret_ok rfl ⟨ordC_pure l' S',trivial,trivial⟩ ⟨l',_,h1,h2,⟨S',rfl⟩,rfl⟩
end Go.Proofs.YtcoehdmpjflmlaaGreatDoor

namespace Go.Proofs.YtcoehdmpjflmlaaGreatDoor
open Go.RowKit
set_option linter.unusedVariables false
attribute [local irreducible] aw opsK dK

theorem shl_u64 (i : Nat) (h : i < 64) : IntKind.u64.wrap (1 * 2 ^ (min ((i : Nat) : Int).toNat IntKind.u64.bits)) = ((2 ^ i : Nat) : Int) := by
 rw [show min ((i : Nat) : Int).toNat IntKind.u64.bits = i by show min i 64 = i; omega,Int.one_mul]
 have h2 := pow_lt64 h
 have e : ((2 : Int) ^ i) = ((2 ^ i : Nat) : Int) := by rw [Int.natCast_pow]; rfl
 rw [e]
 exact IntWalk.u64_in _ ⟨Int.natCast_nonneg _,Int.ofNat_le.2 (show _≤18446744073709551615 by omega)⟩
theorem roleR_spec (a : Int) : Spec Tryz.prog 45 [.val (.int .i64 a)] (· = .val (.bool (decide (1≤a) && decide (a≤63)))) := by
 refine spec_intro ok45 (Nat.le_of_ble_eq_true rfl) fun C hC => ?_
 (refine go ?_;repeat' (apply B<;>intro hb<;>try cases hb))
 all_goals exact ret_ok rfl trivial (by simp_all <;> omega)
theorem roleR_yes (a : Nat) (h1 : 1≤a) (h2 : a < 64) : Spec Tryz.prog 45 [.val (.int .i64 (a : Int))] (· = .val (.bool true)) := by
 have := roleR_spec (a : Int)
 rwa [decide_eq_true (show (1 : Int)≤a by omega),decide_eq_true (show (a : Int)≤63 by omega)] at this
set_option maxHeartbeats 2000000 in
theorem juniorsR_spec (l : List Pr) (fl : Bool) (hl : Small l) (r : Nat) (hr1 : 1≤r) (hr : r < 64) : Spec Tryz.prog 46 [.vec (l.map prC) fl,.val (.int .i64 (r : Int))] (· = .val (.int .u64 (jun l r : Nat))) := by
 have hnl := prs_len l
 have hpl : ∀ D,innLL D (l.map prC) := fun D => innLL_mono (fun _ h => h.elim) _ (prs_pure l)
 refine spec_intro ok46 (Nat.le_of_ble_eq_true rfl) fun C hC => ?_
 refine aw_len (k := 0) rfl fun hmax => ?_
 have hlm : l.length≤maxVec := by rw [← hnl]; exact hmax
 (refine go ?_;repeat' (apply B<;>intro hb<;>try cases hb))
 refine opsK_eq (roleR_yes r hr1 hr) rfl rfl rfl ⟨trivial,trivial⟩ rfl ?_
 (repeat'(first|refine at_dst 13 ?_|refine at_dstD 13 ?_|refine st ?_|(apply B<;>intro hb<;>try cases hb)))<;>try refine At.mk ?_
 refine opsK_of (E_shl rfl rfl (by omega) (shl_u64 r hr)) rfl rfl ?_
 (refine go ?_;repeat' (apply B<;>intro hb<;>try cases hb))
 refine aw_loopH hC (fun s => Reach l r s) (fun s => 18446744073709551616 - s) 0 (fun s => [(0,.vec (l.map prC) fl),(5,.val (.int .u64 (s : Int)))]) (fun _=>[]) (Nat.zero_le _) (2 ^ r) (Reach.init hr) ⟨⟨rfl,hpl _⟩,⟨rfl,trivial⟩,trivial⟩ trivial ?_
 intro s hs
 have hs64 := hs.lt
 (refine go ?_;repeat' (apply B<;>intro hb<;>try cases hb))
 refine aw_loopH hC (fun i => i≤l.length) (fun i => l.length - i) 0 (fun i => [(0,.vec (l.map prC) fl),(5,.val (.int .u64 (s : Int))),(6,.val (.int .u64 ((l.take i).foldl (fun n x => if s.testBit x.1 = true then n ||| 2 ^ x.2 else n) s : Nat))),(15,.vec (l.map prC) fl),(16,.val (.int .i64 l.length)),(17,.val (.int .i64 (i : Int)))]) (fun _=>[]) (Nat.zero_le _) 0 (Nat.zero_le _)
  ⟨⟨rfl,hpl _⟩,⟨rfl,trivial⟩,⟨rfl,trivial⟩,⟨rfl,hpl _⟩,⟨by rw [← hnl]; rfl,trivial⟩,⟨rfl,trivial⟩,trivial⟩ trivial ?_
 intro i hi
 have hinc : IntKind.i64.wrap ((i : Int) + 1) = ((i + 1 : Nat) : Int) := IntWalk.i64_in _ ⟨by omega,by simp only [maxVec] at hlm; omega⟩
 have hcur := stepTo_64 (l := l.take i) (fun p hp => hl p (List.mem_of_mem_take hp)) s s hs64
 (repeat'(first|refine at_dst 18 ?_|refine at_dstD 18 ?_|refine st ?_|(apply B<;>intro hb<;>try cases hb)))<;>try refine At.mk ?_
 refine opsK_bool rfl rfl rfl (fun hb=>?_) (fun hb=>?_)
 · have hil : i < l.length := by have := of_decide_eq_true hb; omega
   have hp := hl _ (List.getElem_mem hil)
   have htk := stepJ_take hil s s
   clear hb
   generalize (l.take i).foldl (fun n x => if s.testBit x.1 = true then n ||| 2 ^ x.2 else n) s = cur at hcur htk ⊢
   (refine go ?_;repeat' (apply B<;>intro hb<;>try cases hb))
   refine opsK_of (E_iaddr (xs := l) (g := prC) rfl rfl i rfl hil rfl) rfl rfl ?_
   generalize l[i] = p at hp htk ⊢
   (refine go ?_;repeat' (apply B<;>intro hb<;>try cases hb))
   · rw [shr_u64 s p.1 hp.1, rem2_u64 s p.1, bit_eq s p.1] at hb
     rw [if_pos hb] at htk
     clear hb
     have hor : bits .or .u64 (cur : Int) (IntKind.u64.wrap (1 * 2 ^ (min ((p.2 : Nat) : Int).toNat IntKind.u64.bits))) = ((cur ||| 2 ^ p.2 : Nat) : Int) := by
      rw [shl_u64 p.2 hp.2]; exact bits_or_u64_nat cur (2 ^ p.2) hcur (pow_lt64 hp.2)
     exact ⟨i + 1,by omega,by omega,⟨⟨rfl,hpl _⟩,⟨rfl,trivial⟩,⟨by rw [htk,← hor]; rfl,trivial⟩,⟨rfl,hpl _⟩,⟨rfl,trivial⟩,⟨by show some _ = some _; rw [hinc],trivial⟩,trivial⟩,trivial⟩
   · rw [shr_u64 s p.1 hp.1, rem2_u64 s p.1, bit_eq s p.1] at hb
     rw [if_neg (by rw [hb]; decide)] at htk
     exact ⟨i + 1,by omega,by omega,⟨⟨rfl,hpl _⟩,⟨rfl,trivial⟩,⟨by rw [htk]; rfl,trivial⟩,⟨rfl,hpl _⟩,⟨rfl,trivial⟩,⟨by show some _ = some _; rw [hinc],trivial⟩,trivial⟩,trivial⟩
 · have hil : i = l.length := by have := of_decide_eq_false hb; omega
   subst hil
   rw [List.take_length]
   rw [List.take_length] at hcur
   clear hb
   have hst := hs.step hl
   have hst64 := hst.lt
   (refine go ?_;repeat' (apply B<;>intro hb<;>try cases hb))
   · have he : stepJ l s = s := by
      have := eq_of_beq hb
      exact Int.ofNat_inj.1 this
     rw [← hs.done hl hr he]
     exact ret_ok rfl trivial rfl
   · have he : stepJ l s ≠ s := fun h => by
      rw [show l.foldl (fun n x => if s.testBit x.1 = true then n ||| 2 ^ x.2 else n) s = s from h] at hb
      simp at hb
     have hg := stepJ_grows l s he
     exact ⟨stepJ l s,hst,by omega,⟨⟨rfl,hpl _⟩,⟨rfl,trivial⟩,trivial⟩,trivial⟩
theorem impliesR_spec (l : List Pr) (fl : Bool) (hl : Small l) (r s : Nat) (hr1 : 1≤r) (hr : r < 64) (hs1 : 1≤s) (hs : s < 64) : Spec Tryz.prog 15 [.vec (l.map prC) fl,.val (.int .i64 (r : Int)),.val (.int .i64 (s : Int))] (· = .val (.bool ((jun l r).testBit s))) := by
 refine spec_intro ok15 (Nat.le_of_ble_eq_true rfl) fun C hC => ?_
 (refine go ?_;repeat' (apply B<;>intro hb<;>try cases hb))
 refine opsK_eq (roleR_yes s hs1 hs) rfl rfl rfl ⟨trivial,trivial⟩ rfl ?_
 (refine go ?_;repeat' (apply B<;>intro hb<;>try cases hb))
 refine opsK_eq (juniorsR_spec l fl hl r hr1 hr) rfl rfl rfl ⟨prs_pure l,trivial,trivial⟩ rfl ?_
 (refine go ?_;repeat' (apply B<;>intro hb<;>try cases hb))
 all_goals
  rw [shr_u64 _ s hs,rem2_u64 _ s,bit_eq _ s] at hb
  exact ret_ok rfl trivial (by rw [hb])
theorem take_snocG {α : Type} {S : List α} {t : Nat} (ht : t < S.length) : S.take (t + 1) = S.take t ++ [S[t]] := by rw [List.take_add_one,List.getElem?_eq_getElem ht]; rfl
set_option maxHeartbeats 1000000 in
theorem hasR_spec (l : List Pr) (fl : Bool) (a b : Nat) : Spec Tryz.prog 111 [.vec (l.map prC) fl,.val (.int .i64 (a : Int)),.val (.int .i64 (b : Int))] (· = .val (.bool (decide ((a,b)∈l)))) := by
 have hnl := prs_len l
 have hpl : ∀ D,innLL D (l.map prC) := fun D => innLL_mono (fun _ h => h.elim) _ (prs_pure l)
 refine spec_intro ok111 (Nat.le_of_ble_eq_true rfl) fun C hC => ?_
 refine aw_len (k := 0) rfl fun hmax => ?_
 have hlm : l.length≤maxVec := by rw [← hnl]; exact hmax
 (refine go ?_;repeat' (apply B<;>intro hb<;>try cases hb))
 refine aw_loopH hC (fun i => i≤l.length∧(a,b) ∉ l.take i) (fun i => l.length - i) 0 (fun i => [(1,.val (.int .i64 (a : Int))),(2,.val (.int .i64 (b : Int))),(9,.vec (l.map prC) fl),(10,.val (.int .i64 l.length)),(11,.val (.int .i64 (i : Int)))]) (fun _=>[]) (Nat.zero_le _) 0 ⟨Nat.zero_le _,by simp⟩
  ⟨⟨rfl,trivial⟩,⟨rfl,trivial⟩,⟨rfl,hpl _⟩,⟨by rw [← hnl]; rfl,trivial⟩,⟨rfl,trivial⟩,trivial⟩ trivial ?_
 rintro i ⟨hi,hno⟩
 have hinc : IntKind.i64.wrap ((i : Int) + 1) = ((i + 1 : Nat) : Int) := IntWalk.i64_in _ ⟨by omega,by simp only [maxVec] at hlm; omega⟩
 (repeat'(first|refine at_dst 12 ?_|refine at_dstD 12 ?_|refine st ?_|(apply B<;>intro hb<;>try cases hb)))<;>try refine At.mk ?_
 refine opsK_bool rfl rfl rfl (fun hb=>?_) (fun hb=>?_)
 · have hil : i < l.length := by have := of_decide_eq_true hb; omega
   have htk := take_snocG hil
   have hmem := List.getElem_mem hil
   clear hb
   (refine go ?_;repeat' (apply B<;>intro hb<;>try cases hb))
   refine opsK_of (E_iaddr (xs := l) (g := prC) rfl rfl i rfl hil rfl) rfl rfl ?_
   generalize l[i] = p at htk hmem ⊢
   have hnext : ¬ (a,b) = p→(a,b) ∉ l.take (i + 1) := fun h hh => by
    rw [htk] at hh
    rcases List.mem_append.1 hh with hh | hh
    · exact hno hh
    · exact h (List.mem_singleton.1 hh)
   (refine go ?_;repeat' (apply B<;>intro hb<;>try cases hb))
   · rename_i hb2
     have h1 : p.1 = a := Int.ofNat_inj.1 (by simpa using hb2)
     have h2 : p.2 = b := Int.ofNat_inj.1 (by simpa using hb)
     refine ret_ok rfl trivial ?_
     rw [decide_eq_true]
     rw [← h1,← h2]; exact hmem
   · have h2 : ¬ p.2 = b := fun h => by rw [h] at hb; simp at hb
     exact ⟨i + 1,⟨by omega,hnext fun h => h2 (by rw [← h])⟩,by omega,⟨⟨rfl,trivial⟩,⟨rfl,trivial⟩,⟨rfl,hpl _⟩,⟨rfl,trivial⟩,⟨by show some _ = some _; rw [hinc],trivial⟩,trivial⟩,trivial⟩
   · have h2 : ¬ p.1 = a := fun h => by rw [h] at hb; simp at hb
     exact ⟨i + 1,⟨by omega,hnext fun h => h2 (by rw [← h])⟩,by omega,⟨⟨rfl,trivial⟩,⟨rfl,trivial⟩,⟨rfl,hpl _⟩,⟨rfl,trivial⟩,⟨by show some _ = some _; rw [hinc],trivial⟩,trivial⟩,trivial⟩
 · have hil : i = l.length := by have := of_decide_eq_false hb; omega
   subst hil
   rw [List.take_length] at hno
   clear hb
   (refine go ?_;repeat' (apply B<;>intro hb<;>try cases hb))
   exact ret_ok rfl trivial (by rw [decide_eq_false hno])
end Go.Proofs.YtcoehdmpjflmlaaGreatDoor

namespace Go.Proofs.YtcoehdmpjflmlaaGreatDoor
open Go.RowKit
set_option linter.unusedVariables false
attribute [local irreducible] aw opsK dK

def ltP (p q : Pr) : Prop := p.1 < q.1 ∨ p.1 = q.1∧p.2 < q.2
instance (p q : Pr) : Decidable (ltP p q) := inferInstanceAs (Decidable (_ ∨ _))
def Linked (l : List Pr) (p : Pr) (l' : List Pr) : Prop := l' = l ∨ (p ∉ l∧∃ i,i≤l.length∧(∀ q∈l.take i,ltP q p)∧(∀ q,l[i]? = some q→¬ ltP q p)∧l' = l.take i ++ p :: l.drop i)
theorem Linked.sorted {l : List Pr} {p : Pr} {l' : List Pr} (h : Linked l p l') (hs : SortedP l) : SortedP l' := by
 rcases h with rfl | ⟨hp,i,hi,h1,h2,rfl⟩
 · exact hs
 · have hd : SortedP (l.take i) ∧ SortedP (l.drop i) ∧ ∀ a ∈ l.take i, ∀ b ∈ l.drop i, ltP a b := by
    have := hs
    unfold SortedP at this
    rw [← List.take_append_drop i l,List.pairwise_append] at this
    exact this
   obtain ⟨d1,d2,d3⟩ := hd
   have h3 : ∀ q∈l.drop i,ltP p q := by
    cases hdr : l.drop i with
    | nil => intro q hq; cases hq
    | cons x r =>
      have hx : l[i]? = some x := by
       have := congrArg List.head? hdr
       rw [List.head?_drop] at this
       exact this
      have hne : x≠p := fun e => hp (by rw [← e]; exact List.mem_of_getElem? hx)
      have hpx : ltP p x := by
       have h4 := h2 x hx
       have h5 : ¬ (x.1 = p.1∧x.2 = p.2) := fun h => hne (Prod.ext h.1 h.2)
       unfold ltP at h4 ⊢
       omega
      intro q hq
      rcases List.mem_cons.1 hq with rfl | hq
      · exact hpx
      · rw [hdr] at d2
        have h6 : ltP x q := (List.pairwise_cons.1 d2).1 q hq
        unfold ltP at hpx h6 ⊢
        omega
   show List.Pairwise _ _
   rw [List.pairwise_append]
   refine ⟨d1,List.pairwise_cons.2 ⟨h3,d2⟩,fun a ha b hb => ?_⟩
   rcases List.mem_cons.1 hb with rfl | hb
   · exact h1 a ha
   · exact d3 a ha b hb
theorem Linked.mem {l : List Pr} {p : Pr} {l' : List Pr} (h : Linked l p l') : ∀ q∈l',q∈l ∨ q = p := by
 rcases h with rfl | ⟨hp,i,hi,h1,h2,rfl⟩
 · exact fun q hq => .inl hq
 · intro q hq
   rcases List.mem_append.1 hq with hq | hq
   · exact .inl (List.mem_of_mem_take hq)
   · rcases List.mem_cons.1 hq with rfl | hq
     · exact .inr rfl
     · exact .inl (List.mem_of_mem_drop hq)
theorem Linked.len {l : List Pr} {p : Pr} {l' : List Pr} (h : Linked l p l') : l'.length≤l.length + 1 := by
 rcases h with rfl | ⟨hp,i,hi,h1,h2,rfl⟩
 · omega
 · rw [List.length_append,List.length_cons,List.length_take,List.length_drop]; omega
set_option maxHeartbeats 4000000 in
theorem linkR_spec (l : List Pr) (fl : Bool) (hl : Small l) (a b : Nat) (ha : 1≤a∧a < 64) (hb0 : 1≤b∧b < 64) (hab : a≠b) (hlen : l.length≤100000) : Spec Tryz.prog 91 [.vec (l.map prC) fl,.val (.int .i64 (a : Int)),.val (.int .i64 (b : Int))] fun r => ∃ l' fl' e,Linked l (a,b) l'∧r = .tup [.vec (l'.map prC) fl',.val (.int .i64 e)] := by
 have hnl := prs_len l
 have hpl : ∀ D,innLL D (l.map prC) := fun D => innLL_mono (fun _ h => h.elim) _ (prs_pure l)
 have hne : ((a : Int) == (b : Int)) = false := by rw [beq_eq_false_iff_ne]; omega
 refine spec_intro ok91 (Nat.le_of_ble_eq_true rfl) fun C hC => ?_
 (refine go ?_;repeat' (apply B<;>intro hb<;>try cases hb))
 refine opsK_eq (roleR_yes a ha.1 ha.2) rfl rfl rfl ⟨trivial,trivial⟩ rfl ?_
 (refine go ?_;repeat' (apply B<;>intro hb<;>try cases hb))
 refine opsK_eq (roleR_yes b hb0.1 hb0.2) rfl rfl rfl ⟨trivial,trivial⟩ rfl ?_
 (repeat'(first|refine at_dst 20 ?_|refine at_dstD 20 ?_|refine st ?_|(apply B<;>intro hb<;>try cases hb)))<;>try refine At.mk ?_
 refine opsK_on rfl ?_
 refine opsK_of (E_boolEq rfl hne) rfl rfl ?_
 (refine go ?_;repeat' (apply B<;>intro hb<;>try cases hb))
 refine opsK_eq (hasR_spec l fl a b) rfl rfl rfl ⟨prs_pure l,trivial,trivial,trivial⟩ rfl ?_
 by_cases hin : (a,b)∈l
 · rw [decide_eq_true hin]
   (refine go ?_;repeat' (apply B<;>intro hb<;>try cases hb))
   exact ret_ok rfl ⟨prs_pure l,trivial,trivial⟩ ⟨l,fl,5,.inl rfl,rfl⟩
 rw [decide_eq_false hin]
 (refine go ?_;repeat' (apply B<;>intro hb<;>try cases hb))
 refine opsK_eq (impliesR_spec l fl hl b a hb0.1 hb0.2 ha.1 ha.2) rfl rfl rfl ⟨prs_pure l,trivial,trivial,trivial⟩ rfl ?_
 generalize (jun l b).testBit a = v
 cases v
 case true =>
  (refine go ?_;repeat' (apply B<;>intro hb<;>try cases hb))
  exact ret_ok rfl ⟨prs_pure l,trivial,trivial⟩ ⟨l,fl,16,.inl rfl,rfl⟩
 (repeat'(first|refine at_dst 8 ?_|refine at_dstD 8 ?_|refine st ?_|(apply B<;>intro hb<;>try cases hb)))<;>try refine At.mk ?_
 refine opsK_of rfl rfl rfl ?_
 refine opsK_done ?_
 refine aw_cutX (X := Nat) hC (fun i => i≤l.length∧(∀ q∈l.take i,ltP q (a,b))∧(∀ q,l[i]? = some q→¬ ltP q (a,b))) 0 (fun i => [(0,.vec (l.map prC) fl),(1,.val (.int .i64 (a : Int))),(2,.val (.int .i64 (b : Int))),(8,.val (.int .i64 (i : Int)))]) (fun _=>[]) (Nat.zero_le _) ?_ ?_
 · (refine go ?_;repeat' (apply B<;>intro hb<;>try cases hb))
   refine aw_loopH hC (fun i => i≤l.length∧∀ q∈l.take i,ltP q (a,b)) (fun i => l.length - i) 0 (fun i => [(0,.vec (l.map prC) fl),(1,.val (.int .i64 (a : Int))),(2,.val (.int .i64 (b : Int))),(8,.val (.int .i64 (i : Int)))]) (fun _=>[]) (Nat.zero_le _) 0 ⟨Nat.zero_le _,by simp⟩ ⟨⟨rfl,hpl _⟩,⟨rfl,trivial⟩,⟨rfl,trivial⟩,⟨rfl,trivial⟩,trivial⟩ trivial ?_
   rintro i ⟨hi,hlt⟩
   have hinc : IntKind.i64.wrap ((i : Int) + 1) = ((i + 1 : Nat) : Int) := IntWalk.i64_in _ ⟨by omega,by omega⟩
   (repeat'(first|refine at_dst 36 ?_|refine at_dstD 36 ?_|refine st ?_|(apply B<;>intro hb<;>try cases hb)))<;>try refine At.mk ?_
   refine opsK_bool rfl rfl rfl (fun hb=>?_) (fun hb=>?_)
   · rw [hnl] at hb
     have hil : i < l.length := by have := of_decide_eq_true hb; omega
     have htk := take_snocG hil
     have hget : l[i]? = some l[i] := List.getElem?_eq_getElem hil
     clear hb
     (repeat'(first|refine at_dst 40 ?_|refine at_dstD 40 ?_|refine st ?_|(apply B<;>intro hb<;>try cases hb)))<;>try refine At.mk ?_
     refine opsK_on rfl ?_
     refine opsK_of (E_iaddr (xs := l) (g := prC) rfl rfl i rfl hil rfl) rfl rfl ?_
     have ei : ∀ {e : Env} {h : Heap} {x j : Operand} {n : Nat},ev e x = some (.vec (l.map prC) fl)→ev e j = some (.val (.int .i64 (i : Int)))→dEval (.iaddr 2 x j) e h n = some (.cp (prC l[i]),h) := fun h1 h2 => E_iaddr (xs := l) (g := prC) h1 h2 i rfl hil rfl
     generalize l[i] = p at htk hget ei ⊢
     have stop : ¬ ltP p (a,b)→∀ q,l[i]? = some q→¬ ltP q (a,b) := fun h q hq=>by rw [hget] at hq; cases hq; exact h
     have more : ltP p (a,b)→∀ q∈l.take (i + 1),ltP q (a,b) := fun h q hq => by
      rw [htk] at hq
      rcases List.mem_append.1 hq with hq | hq
      · exact hlt q hq
      · rw [List.mem_singleton] at hq; subst hq; exact h
     (repeat'(first|refine at_dst 44 ?_|refine at_dstD 44 ?_|refine st ?_|(apply B<;>intro hb<;>try cases hb)))<;>try refine At.mk ?_
     refine opsK_on rfl ?_
     refine opsK_bool rfl rfl rfl (fun hb=>?_) (fun hb=>?_)
     · have h1 : p.1 < a := by have := of_decide_eq_true hb; omega
       (refine go ?_;repeat' (apply B<;>intro hb<;>try cases hb))
       exact ⟨i + 1,⟨by omega,more (.inl h1)⟩,by omega,⟨⟨rfl,hpl _⟩,⟨rfl,trivial⟩,⟨rfl,trivial⟩,⟨by show some _ = some _; rw [hinc],trivial⟩,trivial⟩,trivial⟩
     · have h1 : ¬ p.1 < a := by have := of_decide_eq_false hb; omega
       (repeat'(first|refine at_dst 48 ?_|refine at_dstD 48 ?_|refine st ?_|(apply B<;>intro hb<;>try cases hb)))<;>try refine At.mk ?_
       refine opsK_on rfl ?_
       refine opsK_of (ei rfl rfl) rfl rfl ?_
       (repeat'(first|refine at_dst 52 ?_|refine at_dstD 52 ?_|refine st ?_|(apply B<;>intro hb<;>try cases hb)))<;>try refine At.mk ?_
       refine opsK_on rfl ?_
       refine opsK_bool rfl rfl rfl (fun hb=>?_) (fun hb=>?_)
       · have h2 : p.1 = a := Int.ofNat_inj.1 (eq_of_beq hb)
         (repeat'(first|refine at_dst 56 ?_|refine at_dstD 56 ?_|refine st ?_|(apply B<;>intro hb<;>try cases hb)))<;>try refine At.mk ?_
         refine opsK_on rfl ?_
         refine opsK_of (ei rfl rfl) rfl rfl ?_
         (repeat'(first|refine at_dst 60 ?_|refine at_dstD 60 ?_|refine st ?_|(apply B<;>intro hb<;>try cases hb)))<;>try refine At.mk ?_
         refine opsK_on rfl ?_
         refine opsK_bool rfl rfl rfl (fun hb=>?_) (fun hb=>?_)
         · have h3 : p.2 < b := by have := of_decide_eq_true hb; omega
           (refine go ?_;repeat' (apply B<;>intro hb<;>try cases hb))
           exact ⟨i + 1,⟨by omega,more (.inr ⟨h2,h3⟩)⟩,by omega,⟨⟨rfl,hpl _⟩,⟨rfl,trivial⟩,⟨rfl,trivial⟩,⟨by show some _ = some _; rw [hinc],trivial⟩,trivial⟩,trivial⟩
         · have h3 : ¬ p.2 < b := by have := of_decide_eq_false hb; omega
           (refine go ?_;repeat' (apply B<;>intro hb<;>try cases hb))
           exact ⟨i,⟨hi,hlt,stop (by unfold ltP; show ¬ (p.1 < a ∨ p.1 = a∧p.2 < b);omega)⟩,⟨⟨rfl,hpl _⟩,⟨rfl,trivial⟩,⟨rfl,trivial⟩,⟨rfl,trivial⟩,trivial⟩,trivial⟩
       · have h2 : ¬ p.1 = a := fun h => by rw [h] at hb; simp at hb
         (refine go ?_;repeat' (apply B<;>intro hb<;>try cases hb))
         exact ⟨i,⟨hi,hlt,stop (by unfold ltP; show ¬ (p.1 < a ∨ p.1 = a∧p.2 < b);omega)⟩,⟨⟨rfl,hpl _⟩,⟨rfl,trivial⟩,⟨rfl,trivial⟩,⟨rfl,trivial⟩,trivial⟩,trivial⟩
   · rw [hnl] at hb
     have hil : i = l.length := by have := of_decide_eq_false hb; omega
     clear hb
     (refine go ?_;repeat' (apply B<;>intro hb<;>try cases hb))
     exact ⟨i,⟨hi,hlt,fun q hq=>by rw [hil,List.getElem?_eq_none (Nat.le_refl _)] at hq; cases hq⟩,⟨⟨rfl,hpl _⟩,⟨rfl,trivial⟩,⟨rfl,trivial⟩,⟨rfl,trivial⟩,trivial⟩,trivial⟩
 · rintro i ⟨hi, h1, h2⟩
   repeat' (first | refine aw_draw [0,13] ?_ | (first|refine st ?_|(apply B<;>intro hb<;>try cases hb)))
   refine dK_ofAlt rfl rfl rfl ?_
   (refine go ?_;repeat' (apply B<;>intro hb<;>try cases hb))
   have hm : ∀ c∈l.map prC,c.length = 2 := fun c hc=>by obtain ⟨y,_,rfl⟩ := List.mem_map.1 hc; rfl
   have ht : (l.take i).length = i := by rw [List.length_take]; omega
   refine dK_of (E_slc (xs := l) (g := prC) rfl 0 i rfl rfl (Nat.zero_le _) hi (fun _ => rfl)) rfl rfl ?_
   rw [List.drop_zero]
   refine dK_of (E_append (k := 0) (b := ⟨2,[]⟩) rfl rfl rfl (fun c hc => hm c (by rw [List.map_take] at hc; exact List.mem_of_mem_take hc)) rfl (by
    show (0 + ((l.take i).map prC).length) * 16≤_
    rw [prs_len];omega)) rfl rfl ?_
   (repeat'(first|refine at_dst 75 ?_|refine at_dstD 75 ?_|refine st ?_|(apply B<;>intro hb<;>try cases hb)))<;>try refine At.mk ?_
   refine dK_of (E_append (k := 4) (m := [prC (a,b)]) (fl := true) (b := ⟨2,[] ++ (l.take i).map prC⟩) rfl rfl rfl (fun c hc=>by rw [List.mem_singleton] at hc; subst hc; rfl) rfl (by
    show (([] ++ (l.take i).map prC).length + 1) * 16≤_
    rw [List.nil_append,prs_len];omega)) rfl rfl ?_
   (repeat'(first|refine at_dst 78 ?_|refine at_dstD 78 ?_|refine st ?_|(apply B<;>intro hb<;>try cases hb)))<;>try refine At.mk ?_
   refine dK_of (E_slc (xs := l) (g := prC) rfl i l.length rfl (by show some ((l.map prC).length : Int) = _; rw [hnl]) hi (Nat.le_refl _) (fun _ => rfl)) rfl rfl ?_
   rw [List.take_length]
   have hap : ([] ++ (l.take i).map prC) ++ [prC (a,b)] ++ (l.drop i).map prC = (l.take i ++ (a,b) :: l.drop i).map prC := by simp
   have hby : (([] ++ (l.take i).map prC ++ [prC (a,b)]).length + ((l.drop i).map prC).length) * 16≤140737488355328 := by
    rw [List.nil_append,List.length_append,List.length_singleton,prs_len,prs_len,List.length_drop]; omega
   have hpp : pureLL ([] ++ (l.take i).map prC ++ [prC (a,b)] ++ (l.drop i).map prC) := by rw [hap]; exact prs_pure _
   refine dK_appF (k := 9) (m := (l.drop i).map prC) (fl := false) (b := ⟨2,[] ++ (l.take i).map prC ++ [prC (a,b)]⟩) rfl rfl rfl (fun c hc => hm c (by rw [List.map_drop] at hc; exact List.mem_of_mem_drop hc)) rfl hby hpp rfl rfl ?_
   show dK _ _ _ _ (Env.upd _ 79 (.vec ([] ++ (l.take i).map prC ++ [prC (a,b)] ++ (l.drop i).map prC) false)) _ _
   rw [hap]
   (refine go ?_;repeat' (apply B<;>intro hb<;>try cases hb))
   exact ret_ok rfl ⟨prs_pure _,trivial,trivial⟩ ⟨_,_,0,.inr ⟨hin,i,hi,h1,h2,rfl⟩,rfl⟩
end Go.Proofs.YtcoehdmpjflmlaaGreatDoor

namespace Go.Proofs.YtcoehdmpjflmlaaGreatDoor
open Go.RowKit
set_option linter.unusedVariables false
attribute [local irreducible] aw opsK dK

def ordN (x i : Nat) : Nat := 1 + (i * (1 + 4 * (x / 65536 % 2)) + x / 131072 % 6) % 6
def gO (x i : Nat) : List PV := [.val (.int .i64 (ordN x i : Nat))]
theorem gO_pure (x i : Nat) : pureLL ((List.range i).map (gO x)) := pureLL_enc (fun i => (show pureL (gO x i) from ⟨trivial,trivial⟩)) _
theorem fdiv_nat (x k : Nat) (hk : k < 64) : (x : Int).fdiv (2 ^ min ((k : Nat) : Int).toNat IntKind.u64.bits) = ((x / 2 ^ k : Nat) : Int) := by
 rw [Int.toNat_natCast,show min k IntKind.u64.bits = k from Nat.min_eq_left (by show k≤64;omega),Int.fdiv_eq_ediv_of_nonneg _ (Int.le_of_lt (Int.pow_pos (by decide)))]
 exact_mod_cast rfl
theorem ordN_val (x i : Nat) (hx : x < 18446744073709551616) (hi : i < 6) : IntKind.i64.wrap (1 + (IntKind.i64.wrap (IntKind.i64.wrap ((i : Int) * IntKind.i64.wrap (1 + IntKind.i64.wrap (4 * IntKind.i64.wrap (((x : Int).fdiv (2 ^ min (Int.toNat 16) IntKind.u64.bits)).tmod 2)))) + IntKind.i64.wrap (((x : Int).fdiv (2 ^ min (Int.toNat 17) IntKind.u64.bits)).tmod 6))).tmod 6) = (ordN x i : Nat) := by
 have e1 := fdiv_nat x 16 (by decide)
 have e2 := fdiv_nat x 17 (by decide)
 have h1 : (((x / 2 ^ 16 : Nat) : Int)).tmod 2 = ((x / 65536 % 2 : Nat) : Int) := by rw [show (2 : Int) = ((2 : Nat) : Int) from rfl,Int.ofNat_tmod]
 have h2 : (((x / 2 ^ 17 : Nat) : Int)).tmod 6 = ((x / 131072 % 6 : Nat) : Int) := by rw [show (6 : Int) = ((6 : Nat) : Int) from rfl,Int.ofNat_tmod]
 rw [show ((16 : Nat) : Int) = (16 : Int) from rfl] at e1
 rw [show ((17 : Nat) : Int) = (17 : Int) from rfl] at e2
 rw [e1,e2,h1,h2]
 unfold ordN
 have b2 : x / 65536 % 2 < 2 := Nat.mod_lt _ (by decide)
 have b6 : x / 131072 % 6 < 6 := Nat.mod_lt _ (by decide)
 generalize x / 65536 % 2 = b at b2 ⊢
 generalize x / 131072 % 6 = c at b6 ⊢
 have key : ∀ b : Nat,b < 2→∀ c : Nat,c < 6→∀ i : Nat,i < 6→IntKind.i64.wrap (1 + (IntKind.i64.wrap (IntKind.i64.wrap ((i : Int) * IntKind.i64.wrap (1 + IntKind.i64.wrap (4 * IntKind.i64.wrap ((b : Nat) : Int)))) + IntKind.i64.wrap ((c : Nat) : Int))).tmod 6) = ((1 + (i * (1 + 4 * b) + c) % 6 : Nat) : Int) := by decide
 exact key b b2 c b6 i hi
theorem ordN_role (x i : Nat) : 1≤ordN x i∧ordN x i≤6 := by
 unfold ordN
 have := Nat.mod_lt (i * (1 + 4 * (x / 65536 % 2)) + x / 131072 % 6) (show 0 < 6 by decide)
 omega
def ordT (b c i : Nat) : Nat := 1 + (i * (1 + 4 * b) + c) % 6
theorem ordT_rank : ∀ b : Nat,b < 2→∀ c : Nat,c < 6→∀ i : Nat,i < 6→((List.range 6).map (ordT b c)).idxOf (ordT b c i) = i := by decide
def rankN (x r : Nat) : Nat := ((List.range 6).map (ordT (x / 65536 % 2) (x / 131072 % 6))).idxOf r
theorem rankN_ord (x : Nat) {i : Nat} (hi : i < 6) : rankN x (ordN x i) = i := ordT_rank _ (Nat.mod_lt _ (by decide)) _ (Nat.mod_lt _ (by decide)) i hi
theorem ordN_ne (x : Nat) {i j : Nat} (hi : i < 6) (hj : j < 6) (hij : i≠j) : ordN x i≠ordN x j := fun h => by
 have h1 := rankN_ord x hi
 rw [h,rankN_ord x hj] at h1
 exact hij h1.symm
structure LI (x : Nat) (l : List Pr) (k : Nat) : Prop where
 asc : SortedP l
 len : l.length≤k
 mem : ∀ p∈l,∃ a b,a < b∧b < 6∧p = (ordN x a,ordN x b)
theorem LI.nil (x : Nat) : LI x [] 0 := ⟨List.Pairwise.nil,Nat.le_refl _,fun _ h=>by cases h⟩
theorem LI.mono {x : Nat} {l : List Pr} {k k' : Nat} (h : LI x l k) (hk : k≤k') : LI x l k' := ⟨h.asc,Nat.le_trans h.len hk,h.mem⟩
theorem LI.small {x : Nat} {l : List Pr} {k : Nat} (h : LI x l k) : Small l := fun p hp => by
 obtain ⟨a,b,_,_,rfl⟩ := h.mem p hp
 have h1 := ordN_role x a
 have h2 := ordN_role x b
 exact ⟨by show ordN x a < 64; omega,by show ordN x b < 64; omega⟩
theorem LI.step {x : Nat} {l : List Pr} {k a b : Nat} (h : LI x l k) {l' : List Pr} (hL : Linked l (ordN x a,ordN x b) l') (hab : a < b) (hb : b < 6) : LI x l' (k + 1) :=
 ⟨hL.sorted h.asc,Nat.le_trans hL.len (Nat.succ_le_succ h.len),fun p hp => (hL.mem p hp).elim (h.mem p) fun e => ⟨a,b,hab,hb,e⟩⟩
theorem LI.good {x : Nat} {l : List Pr} {k : Nat} (h : LI x l k) : GoodL l := by
 refine ⟨h.asc,fun p hp => ?_,⟨rankN x,fun p hp => ?_⟩⟩
 · obtain ⟨a, b, hab, hb, rfl⟩ := h.mem p hp
   have h1 := ordN_role x a
   have h2 := ordN_role x b
   exact ⟨h1.1,h1.2,h2.1,h2.2,ordN_ne x (by omega) hb (by omega)⟩
 · obtain ⟨a, b, hab, hb, rfl⟩ := h.mem p hp
   show rankN x (ordN x a) < rankN x (ordN x b)
   rw [rankN_ord x (by omega),rankN_ord x hb]
   exact hab
set_option maxHeartbeats 4000000 in
theorem linksR_spec (x : Nat) (hx : x < 18446744073709551616) : Spec Tryz.prog 64 [.val (.int .u64 (x : Int))] fun r => ∃ l fl,GoodL l∧r = .vec (l.map prC) fl := by
 refine spec_intro ok64 (Nat.le_of_ble_eq_true rfl) fun C hC => ?_
 repeat' (first | refine opsK_sub (subA_ownNil (k := 3) rfl 1 (by decide)) ?_ | (first|refine st ?_|(apply B<;>intro hb<;>try cases hb)))
 refine aw_loopR hC (fun (i : Nat) => i≤6) (fun i => 6 - i) 1 (fun i => [(0,.val (.int .u64 (x : Int))),(3,.own 0),(4,.val (.int .i64 (i : Int)))]) (fun i => [(0,⟨1,(List.range i).map (gO x)⟩)]) (by omega) 0 (Nat.zero_le _) (fun i=>i) (fun _ _=>rfl) injOn_id ⟨⟨_,rfl,.pure _ trivial⟩,⟨_,rfl,.own 0 (by decide)⟩,⟨_,rfl,.pure _ trivial⟩,trivial⟩ ⟨⟨by omega,_,rfl,.same _ trivial⟩,trivial⟩ ?_
 intro i hi
 have hinc : IntKind.i64.wrap ((i : Int) + 1) = ((i + 1 : Nat) : Int) := IntWalk.i64_in _ ⟨by omega,by omega⟩
 (repeat'(first|refine at_dst 10 ?_|refine at_dstD 10 ?_|refine st ?_|(apply B<;>intro hb<;>try cases hb)))<;>try refine At.mk ?_
 refine opsK_bool rfl rfl rfl (fun hb=>?_) (fun hb=>?_)
 · have hi6 : i < 6 := by have := of_decide_eq_true hb; omega
   clear hb
   (repeat'(first|refine at_dst 28 ?_|refine at_dstD 28 ?_|refine st ?_|(apply B<;>intro hb<;>try cases hb)))<;>try refine At.mk ?_
   refine opsK_int rfl rfl rfl (ordN_val x i hx hi6) ?_
   (repeat'(first|refine at_dst 30 ?_|refine at_dstD 30 ?_|refine st ?_|(apply B<;>intro hb<;>try cases hb)))<;>try refine At.mk ?_
   have happ : (List.range i).map (gO x) ++ [gO x i] = (List.range (i + 1)).map (gO x) := by rw [List.range_succ,List.map_append]; rfl
   refine opsK_new (E_append (k := 0) (m := [gO x i]) (fl := true) (b := ⟨1,(List.range i).map (gO x)⟩) rfl rfl rfl (fun c hc=>by rw [List.mem_singleton] at hc; subst hc; rfl) rfl (by
    show (((List.range i).map (gO x)).length + 1) * 8≤_
    rw [List.length_map,List.length_range];omega)) rfl rfl ?_
   simp only
   rw [happ]
   (refine go ?_;repeat' (apply B<;>intro hb<;>try cases hb))
   refine ⟨i + 1,mv 0 1,by omega,by omega,fun j hj => absurd hj (Nat.not_lt_zero _),injOn_of rfl,⟨⟨_,rfl,.pure _ trivial⟩,⟨_,rfl,.own 0 (by decide)⟩,⟨_,by show some _ = some _; rw [hinc],.pure _ trivial⟩,trivial⟩,⟨⟨by omega,_,rfl,.same _ (gO_pure _ _)⟩,trivial⟩⟩
 · have hi6 : i = 6 := by have := of_decide_eq_false hb; omega
   subst hi6
   clear hb
   (repeat'(first|refine at_dst 5 ?_|refine at_dstD 5 ?_|refine st ?_|(apply B<;>intro hb<;>try cases hb)))<;>try refine At.mk ?_
   refine opsK_sub (subA_freeze (k := 3) rfl rfl (gO_pure x 6)) ?_
   (refine go ?_;repeat' (apply B<;>intro hb<;>try cases hb))
   have hgp : ∀ D,innLL D ((List.range 6).map (gO x)) := fun D => innLL_mono (fun _ h => h.elim) _ (gO_pure x 6)
   refine aw_loopH hC (fun (z : Nat × Nat × List Pr × Bool) => z.1≤6∧z.2.1≤6 * z.1∧LI x z.2.2.1 z.2.1) (fun z => 6 - z.1) 0 (fun z => [(0,.val (.int .u64 (x : Int))),(3,.vec ((List.range 6).map (gO x)) false),(5,.vec (z.2.2.1.map prC) z.2.2.2),(6,.val (.int .i64 (z.2.1 : Int))),(7,.val (.int .i64 (z.1 : Int)))]) (fun _=>[]) (Nat.zero_le _) (0,0,[],true) ⟨Nat.zero_le _,Nat.zero_le _,LI.nil x⟩ ⟨⟨rfl,trivial⟩,⟨rfl,hgp _⟩,⟨rfl,trivial⟩,⟨rfl,trivial⟩,⟨rfl,trivial⟩,trivial⟩ trivial ?_
   rintro ⟨i,k,l,fl⟩ ⟨hi,hk,hl⟩
   simp only at hi hk hl
   have hinc : IntKind.i64.wrap ((i : Int) + 1) = ((i + 1 : Nat) : Int) := IntWalk.i64_in _ ⟨by omega,by omega⟩
   (repeat'(first|refine at_dst 32 ?_|refine at_dstD 32 ?_|refine st ?_|(apply B<;>intro hb<;>try cases hb)))<;>try refine At.mk ?_
   refine opsK_bool rfl rfl rfl (fun hb=>?_) (fun hb=>?_)
   · have hi6 : i < 6 := by have := of_decide_eq_true hb; omega
     clear hb
     (refine go ?_;repeat' (apply B<;>intro hb<;>try cases hb))
     refine aw_loopH hC (fun (z : Nat × Nat × List Pr × Bool) => i + 1≤z.1∧z.1≤6∧z.2.1≤6 * i + z.1∧LI x z.2.2.1 z.2.1) (fun z => 6 - z.1) 0 (fun z => [(0,.val (.int .u64 (x : Int))),(3,.vec ((List.range 6).map (gO x)) false),(5,.vec (z.2.2.1.map prC) z.2.2.2),(6,.val (.int .i64 (z.2.1 : Int))),(7,.val (.int .i64 (i : Int))),(8,.val (.int .i64 (z.1 : Int)))]) (fun _=>[]) (Nat.zero_le _) (i + 1,k,l,fl) ⟨Nat.le_refl _,by simp only; omega,by simp only; omega,hl⟩ ⟨⟨rfl,trivial⟩,⟨rfl,hgp _⟩,⟨rfl,innLL_mono (fun _ h => h.elim) _ (prs_pure l)⟩,⟨rfl,trivial⟩,⟨rfl,trivial⟩,⟨by show some _ = some _; rw [hinc],trivial⟩,trivial⟩ trivial ?_
     clear hk hl
     rintro ⟨j,k,l,fl⟩ ⟨hj1,hj,hk,hl⟩
     simp only at hj1 hj hk hl
     have hjnc : IntKind.i64.wrap ((j : Int) + 1) = ((j + 1 : Nat) : Int) := IntWalk.i64_in _ ⟨by omega,by omega⟩
     have hknc : IntKind.i64.wrap ((k : Int) + 1) = ((k + 1 : Nat) : Int) := IntWalk.i64_in _ ⟨by omega,by omega⟩
     have hpl : ∀ D,innLL D (l.map prC) := fun D => innLL_mono (fun _ h => h.elim) _ (prs_pure l)
     (repeat'(first|refine at_dst 38 ?_|refine at_dstD 38 ?_|refine st ?_|(apply B<;>intro hb<;>try cases hb)))<;>try refine At.mk ?_
     refine opsK_bool rfl rfl rfl (fun hb=>?_) (fun hb=>?_)
     · have hj6 : j < 6 := by have := of_decide_eq_true hb; omega
       clear hb
       (repeat'(first|refine at_dst 45 ?_|refine at_dstD 45 ?_|refine st ?_|(apply B<;>intro hb<;>try cases hb)))<;>try refine At.mk ?_
       refine opsK_bool rfl rfl rfl (fun hb=>?_) (fun hb=>?_)
       · clear hb
         (repeat'(first|refine at_dst 50 ?_|refine at_dstD 50 ?_|refine st ?_|(apply B<;>intro hb<;>try cases hb)))<;>try refine At.mk ?_
         have hr6 : ∀ {a : Nat},a < 6→a < (List.range 6).length := fun h=>by rw [List.length_range]; exact h
         refine dK_of (E_iaddr (xs := List.range 6) (g := gO x) rfl rfl i rfl (hr6 hi6) rfl) rfl rfl ?_
         (repeat'(first|refine at_dst 54 ?_|refine at_dstD 54 ?_|refine st ?_|(apply B<;>intro hb<;>try cases hb)))<;>try refine At.mk ?_
         refine dK_of (E_iaddr (xs := List.range 6) (g := gO x) rfl rfl j rfl (hr6 hj6) rfl) rfl rfl ?_
         have hoi := ordN_role x i
         have hoj := ordN_role x j
         have hs := linkR_spec l fl hl.small (ordN x ((List.range 6)[i]'(hr6 hi6))) (ordN x ((List.range 6)[j]'(hr6 hj6))) (by rw [List.getElem_range];omega) (by rw [List.getElem_range];omega) (by rw [List.getElem_range,List.getElem_range]; exact ordN_ne x hi6 hj6 (by omega)) (by have := hl.len;omega)
         (repeat'(first|refine at_dst 56 ?_|refine at_dstD 56 ?_|refine st ?_|(apply B<;>intro hb<;>try cases hb)))<;>try refine At.mk ?_
         refine dK_call rfl rfl (.inl rfl) hs ⟨prs_pure l,trivial,trivial,trivial⟩ ?_
         rintro r ⟨l',fl',er,hL,rfl⟩
         rw [List.getElem_range,List.getElem_range] at hL
         (refine go ?_;repeat' (apply B<;>intro hb<;>try cases hb))
         exact ⟨(j + 1,k + 1,l',fl'),⟨by simp only; omega,by simp only; omega,by simp only; omega,hl.step hL (by omega) hj6⟩,by simp only; omega,⟨⟨rfl,trivial⟩,⟨rfl,hgp _⟩,⟨rfl,innLL_mono (fun _ h => h.elim) _ (prs_pure l')⟩,⟨by show some _ = some _; rw [hknc],trivial⟩,⟨rfl,trivial⟩,⟨by show some _ = some _; rw [hjnc],trivial⟩,trivial⟩,trivial⟩
       · clear hb
         (refine go ?_;repeat' (apply B<;>intro hb<;>try cases hb))
         exact ⟨(j + 1,k + 1,l,fl),⟨by simp only; omega,by simp only; omega,by simp only; omega,hl.mono (Nat.le_succ k)⟩,by simp only; omega,⟨⟨rfl,trivial⟩,⟨rfl,hgp _⟩,⟨rfl,hpl _⟩,⟨by show some _ = some _; rw [hknc],trivial⟩,⟨rfl,trivial⟩,⟨by show some _ = some _; rw [hjnc],trivial⟩,trivial⟩,trivial⟩
     · have hj6 : j = 6 := by have := of_decide_eq_false hb; omega
       clear hb
       (refine go ?_;repeat' (apply B<;>intro hb<;>try cases hb))
       exact ⟨(i + 1,k,l,fl),⟨by simp only; omega,by simp only; omega,hl⟩,by simp only; omega,⟨⟨rfl,trivial⟩,⟨rfl,hgp _⟩,⟨rfl,hpl _⟩,⟨rfl,trivial⟩,⟨by show some _ = some _; rw [hinc],trivial⟩,trivial⟩,trivial⟩
   · clear hb
     (refine go ?_;repeat' (apply B<;>intro hb<;>try cases hb))
     exact ret_ok rfl (prs_pure l) ⟨l,fl,hl.good,rfl⟩
end Go.Proofs.YtcoehdmpjflmlaaGreatDoor

namespace Go.Proofs.YtcoehdmpjflmlaaGreatDoor
open Go.RowKit
set_option linter.unusedVariables false
attribute [local irreducible] aw opsK dK

structure En where
 u : Nat
 r : Nat
 t : Nat
def enC (x : En) : List PV := [.val (.int .i64 (x.u : Int)),.val (.int .i64 (x.r : Int)),.val (.int .i64 (x.t : Int))]
theorem enC_pure (x : En) : pureL (enC x) := ⟨trivial,trivial,trivial,trivial⟩
theorem ens_pure (l : List En) : pureLL (l.map enC) := pureLL_enc enC_pure l
theorem ens_len (l : List En) : (l.map enC).length = l.length := by simp
theorem ens_inn (l : List En) (D : Nat→Prop) : innLL D (l.map enC) := innLL_mono (fun _ h => h.elim) _ (ens_pure l)
def ltE (a b : En) : Prop := a.u < b.u ∨ a.u = b.u∧a.r < b.r
instance (a b : En) : Decidable (ltE a b) := inferInstanceAs (Decidable (_ ∨ _))
def SortedE (l : List En) : Prop := l.Pairwise ltE
structure EnOk (x : En) : Prop where
 u : 1≤x.u∧x.u≤256
 r : 1≤x.r∧x.r≤63
 t : x.t≤30000
set_option maxHeartbeats 1000000 in
theorem before_spec (a b : En) : Spec Tryz.prog 113 [.agg (enC a),.agg (enC b)] (· = .val (.bool (decide (ltE a b)))) := by
 refine spec_intro ok113 (Nat.le_of_ble_eq_true rfl) fun C hC => ?_
 refine aw_seq ?_
 refine aw_region ?_
 refine opsK_ofAlt rfl rfl rfl ?_
 refine opsK_ofAlt rfl rfl rfl ?_
 (refine go ?_;repeat' (apply B<;>intro hb<;>try cases hb))
 all_goals
  simp only [decide_eq_true_eq,decide_eq_false_iff_not,beq_iff_eq,beq_eq_false_iff_ne] at *
  first
   | exact ret_ok rfl trivial (by rw [decide_eq_true (show ltE a b by unfold ltE;omega)])
   | exact ret_ok rfl trivial (by rw [decide_eq_false (show ¬ ltE a b by unfold ltE;omega)])
def rawE (u r t : Nat) : List PV := [.val (.int .u8 (u : Int)),.val (.int .u8 (r : Int)),.val (.int .u8 (t : Int))]
def fitE (u r t : Nat) : En := ⟨1 + u % 5,1 + r % 8,t % 20⟩
theorem fitE_ok (u r t : Nat) : EnOk (fitE u r t) := by
 have h1 := Nat.mod_lt u (show 0 < 5 by decide)
 have h2 := Nat.mod_lt r (show 0 < 8 by decide)
 have h3 := Nat.mod_lt t (show 0 < 20 by decide)
 exact ⟨⟨by show 1≤1 + u % 5; omega,by show 1 + u % 5≤256; omega⟩,⟨by show 1≤1 + r % 8; omega,by show 1 + r % 8≤63; omega⟩,by show t % 20≤30000; omega⟩
set_option maxHeartbeats 1000000 in
theorem fit_spec (u r t : Nat) : Spec Tryz.prog 7 [.agg (rawE u r t)] (· = .agg (enC (fitE u r t))) := by
 refine spec_intro ok7 (Nat.le_of_ble_eq_true rfl) fun C hC => ?_
 refine aw_seq ?_
 refine aw_region ?_
 refine opsK_ofAlt rfl rfl rfl ?_
 (refine go ?_;repeat' (apply B<;>intro hb<;>try cases hb))
 have h1 := Nat.mod_lt u (show 0 < 5 by decide)
 have h2 := Nat.mod_lt r (show 0 < 8 by decide)
 have h3 := Nat.mod_lt t (show 0 < 20 by decide)
 have e1 : IntKind.i64.wrap ((u : Int).tmod 5) = ((u % 5 : Nat) : Int) := by rw [show ((u : Int).tmod 5) = ((u % 5 : Nat) : Int) from (Int.ofNat_tmod u 5).symm]; exact IntWalk.i64_in _ ⟨by omega,by omega⟩
 have e2 : IntKind.i64.wrap ((r : Int).tmod 8) = ((r % 8 : Nat) : Int) := by rw [show ((r : Int).tmod 8) = ((r % 8 : Nat) : Int) from (Int.ofNat_tmod r 8).symm]; exact IntWalk.i64_in _ ⟨by omega,by omega⟩
 have e3 : IntKind.i64.wrap ((t : Int).tmod 20) = ((t % 20 : Nat) : Int) := by rw [show ((t : Int).tmod 20) = ((t % 20 : Nat) : Int) from (Int.ofNat_tmod t 20).symm]; exact IntWalk.i64_in _ ⟨by omega,by omega⟩
 have e4 : IntKind.i64.wrap (1 + ((u % 5 : Nat) : Int)) = ((1 + u % 5 : Nat) : Int) := IntWalk.i64_in _ ⟨by omega,by omega⟩
 have e5 : IntKind.i64.wrap (1 + ((r % 8 : Nat) : Int)) = ((1 + r % 8 : Nat) : Int) := IntWalk.i64_in _ ⟨by omega,by omega⟩
 refine ret_ok (r := .agg [.val (.int .i64 (IntKind.i64.wrap (1 + IntKind.i64.wrap ((u : Int).tmod 5)))),.val (.int .i64 (IntKind.i64.wrap (1 + IntKind.i64.wrap ((r : Int).tmod 8)))),.val (.int .i64 (IntKind.i64.wrap ((t : Int).tmod 20)))]) rfl ⟨trivial,trivial,trivial,trivial⟩ ?_
 rw [e1,e2,e3,e4,e5]
 rfl
def revM (l : List En) (u r : Nat) : List En := l.filter fun x => !(decide (x.u = u) && decide (x.r = r))
theorem revM_snoc (l : List En) (p : En) (u r : Nat) : revM (l ++ [p]) u r = if p.u = u∧p.r = r then revM l u r else revM l u r ++ [p] := by
 unfold revM
 rw [List.filter_append]
 by_cases h : p.u = u∧p.r = r
 · rw [if_pos h,List.filter_cons,if_neg (by simp [h.1,h.2]),List.filter_nil,List.append_nil]
 · rw [if_neg h,List.filter_cons,if_pos (by simp only [Bool.not_eq_true',Bool.and_eq_false_iff,decide_eq_false_iff_not];omega),List.filter_nil]
set_option maxHeartbeats 1000000 in
theorem revoke_spec (l : List En) (fl : Bool) (u r : Nat) (hlen : l.length≤100000) : Spec Tryz.prog 112 [.vec (l.map enC) fl,.val (.int .i64 (u : Int)),.val (.int .i64 (r : Int))] (· = .tup (if (revM l u r).length = l.length then [.vec [] true,.val (.int .i64 4)] else [.vec ((revM l u r).map enC) false,.val (.int .i64 0)])) := by
 have hnl := ens_len l
 refine spec_intro ok112 (Nat.le_of_ble_eq_true rfl) fun C hC => ?_
 repeat' (first | refine opsK_sub (subA_ownNil (k := 8) rfl 3 (by decide)) ?_ | (first|refine st ?_|(apply B<;>intro hb<;>try cases hb)))
 refine aw_loopR hC (fun i => i≤l.length) (fun i => l.length - i) 1 (fun i => [(0,.vec (l.map enC) fl),(1,.val (.int .i64 (u : Int))),(2,.val (.int .i64 (r : Int))),(8,.own 0),(11,.vec (l.map enC) fl),(12,.val (.int .i64 l.length)),(13,.val (.int .i64 (i : Int)))])
  (fun i => [(0,⟨3,(revM (l.take i) u r).map enC⟩)]) (by omega) 0 (Nat.zero_le _) (fun i=>i) (fun _ _=>rfl) injOn_id
  ⟨⟨_,rfl,.pure _ (ens_pure l)⟩,⟨_,rfl,.pure _ trivial⟩,⟨_,rfl,.pure _ trivial⟩,⟨_,rfl,.own 0 (by decide)⟩,⟨_,rfl,.pure _ (ens_pure l)⟩,⟨_,by rw [← hnl]; rfl,.pure _ trivial⟩,⟨_,rfl,.pure _ trivial⟩,trivial⟩
  ⟨⟨by decide,_,rfl,.same _ trivial⟩,trivial⟩ ?_
 intro i hi
 have hinc : IntKind.i64.wrap ((i : Int) + 1) = ((i + 1 : Nat) : Int) := IntWalk.i64_in _ ⟨by omega,by omega⟩
 (repeat'(first|refine at_dst 14 ?_|refine at_dstD 14 ?_|refine st ?_|(apply B<;>intro hb<;>try cases hb)))<;>try refine At.mk ?_
 refine opsK_bool rfl rfl rfl (fun hb=>?_) (fun hb=>?_)
 · have hil : i < l.length := by have := of_decide_eq_true hb; omega
   have htk := take_snocG hil
   clear hb
   (refine go ?_;repeat' (apply B<;>intro hb<;>try cases hb))
   refine opsK_of (E_iaddr (xs := l) (g := enC) rfl rfl i rfl hil rfl) rfl rfl ?_
   generalize l[i] = p at htk ⊢
   have hkeep : ¬ (p.u = u∧p.r = r)→revM (l.take (i + 1)) u r = revM (l.take i) u r ++ [p] := fun h=>by rw [htk,revM_snoc,if_neg h]
   have hdrop : p.u = u∧p.r = r→revM (l.take (i + 1)) u r = revM (l.take i) u r := fun h=>by rw [htk,revM_snoc,if_pos h]
   have hlt : (revM (l.take i) u r).length≤i := Nat.le_trans (List.length_filter_le _ _) (by rw [List.length_take];omega)
   have put : ¬ (p.u = u∧p.r = r)→(revM (l.take i) u r).map enC ++ [enC p] = (revM (l.take (i + 1)) u r).map enC := fun h=>by rw [hkeep h,List.map_append]; rfl
   (refine go ?_;repeat' (apply B<;>intro hb<;>try cases hb))
   · have hne : ¬ (p.u = u ∧ p.r = r) := fun h => by rw [h.1] at hb; simp at hb
     refine opsK_new (E_append (k := 0) (m := [enC p]) (fl := true) (b := ⟨3,(revM (l.take i) u r).map enC⟩) rfl rfl rfl (fun q hq=>by rw [List.mem_singleton] at hq; subst hq; rfl) rfl (by
      show (((revM (l.take i) u r).map enC).length + 1) * 24≤_
      rw [ens_len];omega)) rfl rfl ?_
     simp only
     rw [put hne]
     (refine go ?_;repeat' (apply B<;>intro hb<;>try cases hb))
     exact ⟨i + 1,mv 0 2,hil,by omega,fun j hj => absurd hj (Nat.not_lt_zero _),injOn_of rfl,
      ⟨⟨_,rfl,.pure _ (ens_pure l)⟩,⟨_,rfl,.pure _ trivial⟩,⟨_,rfl,.pure _ trivial⟩,⟨_,rfl,.own 0 (by decide)⟩,⟨_,rfl,.pure _ (ens_pure l)⟩,⟨_,rfl,.pure _ trivial⟩,⟨_,by show some _ = some _; rw [hinc],.pure _ trivial⟩,trivial⟩,
      ⟨⟨by decide,_,rfl,.same _ (ens_pure _)⟩,trivial⟩⟩
   · have hne : ¬ (p.u = u ∧ p.r = r) := fun h => by rw [h.2] at hb; simp at hb
     refine opsK_new (E_append (k := 0) (m := [enC p]) (fl := true) (b := ⟨3,(revM (l.take i) u r).map enC⟩) rfl rfl rfl (fun q hq=>by rw [List.mem_singleton] at hq; subst hq; rfl) rfl (by
      show (((revM (l.take i) u r).map enC).length + 1) * 24≤_
      rw [ens_len];omega)) rfl rfl ?_
     simp only
     rw [put hne]
     (refine go ?_;repeat' (apply B<;>intro hb<;>try cases hb))
     exact ⟨i + 1,mv 0 2,hil,by omega,fun j hj => absurd hj (Nat.not_lt_zero _),injOn_of rfl,
      ⟨⟨_,rfl,.pure _ (ens_pure l)⟩,⟨_,rfl,.pure _ trivial⟩,⟨_,rfl,.pure _ trivial⟩,⟨_,rfl,.own 0 (by decide)⟩,⟨_,rfl,.pure _ (ens_pure l)⟩,⟨_,rfl,.pure _ trivial⟩,⟨_,by show some _ = some _; rw [hinc],.pure _ trivial⟩,trivial⟩,
      ⟨⟨by decide,_,rfl,.same _ (ens_pure _)⟩,trivial⟩⟩
   · rename_i hb2
     have h1 : p.u = u := Int.ofNat_inj.1 (by simpa using hb2)
     have h2 : p.r = r := Int.ofNat_inj.1 (by simpa using hb)
     refine ⟨i + 1,fun i => i,hil,by omega,fun _ _ => rfl,injOn_id,
      ⟨⟨_,rfl,.pure _ (ens_pure l)⟩,⟨_,rfl,.pure _ trivial⟩,⟨_,rfl,.pure _ trivial⟩,⟨_,rfl,.own 0 (by decide)⟩,⟨_,rfl,.pure _ (ens_pure l)⟩,⟨_,rfl,.pure _ trivial⟩,⟨_,by show some _ = some _; rw [hinc],.pure _ trivial⟩,trivial⟩,
      ⟨⟨by decide,_,rfl,?_⟩,trivial⟩⟩
     rw [hdrop ⟨h1,h2⟩]
     exact .same _ (ens_pure _)
 · have hil : i = l.length := by have := of_decide_eq_false hb; omega
   subst hil
   clear hb
   rw [List.take_length]
   (repeat'(first|refine at_dst 32 ?_|refine at_dstD 32 ?_|refine st ?_|(apply B<;>intro hb<;>try cases hb)))<;>try refine At.mk ?_
   refine opsK_sub (subA_freeze (k := 8) rfl rfl (ens_pure _)) ?_
   (refine go ?_;repeat' (apply B<;>intro hb<;>try cases hb))
   · have h1 : (revM l u r).length = l.length := by
      have h3 : ((((revM l u r).map enC).length : Nat) : Int) = (((l.map enC).length : Nat) : Int) := eq_of_beq hb
      have h4 := Int.ofNat_inj.1 h3
      rwa [ens_len,ens_len] at h4
     exact ret_ok rfl ⟨trivial,trivial,trivial⟩ (by rw [if_pos h1]; rfl)
   · have h1 : ¬ (revM l u r).length = l.length := fun h => by
      have h2 : ((((revM l u r).map enC).length : Nat) : Int) = (((l.map enC).length : Nat) : Int) := by rw [ens_len,ens_len,h]
      have h3 : ((((revM l u r).map enC).length : Nat) : Int)≠(((l.map enC).length : Nat) : Int) := by simpa using hb
      exact h3 h2
     exact ret_ok rfl ⟨ens_pure _,trivial,trivial⟩ (by rw [if_neg h1]; rfl)
end Go.Proofs.YtcoehdmpjflmlaaGreatDoor

namespace Go.Proofs.YtcoehdmpjflmlaaGreatDoor
open Go.RowKit
set_option linter.unusedVariables false
attribute [local irreducible] aw opsK dK

def Assigned (l : List En) (x : En) (l' : List En) : Prop := ∃ j,j≤(revM l x.u x.r).length∧(∀ q∈(revM l x.u x.r).take j,¬ ltE x q)∧(∀ q,(revM l x.u x.r)[j]? = some q→ltE x q)∧l' = (revM l x.u x.r).take j ++ x :: (revM l x.u x.r).drop j
theorem revM_mem {l : List En} {u r : Nat} {q : En} (h : q∈revM l u r) : q∈l∧¬ (q.u = u∧q.r = r) := by
 have := List.mem_filter.1 h
 refine ⟨this.1,fun h2 => ?_⟩
 have h3 := this.2
 rw [h2.1,h2.2] at h3
 simp at h3
theorem revM_sorted {l : List En} {u r : Nat} (h : SortedE l) : SortedE (revM l u r) := List.Pairwise.sublist List.filter_sublist h
theorem revM_len (l : List En) (u r : Nat) : (revM l u r).length≤l.length := List.length_filter_le _ _
theorem revM_self {l : List En} {u r : Nat} (h : (revM l u r).length = l.length) : revM l u r = l := List.filter_eq_self.2 fun a ha => by
 have := List.length_filter_eq_length_iff.1 h
 exact this a ha
theorem Assigned.sorted {l : List En} {x : En} {l' : List En} (h : Assigned l x l') (hs : SortedE l) : SortedE l' := by
 obtain ⟨j,hj,h1,h2,rfl⟩ := h
 have hs := revM_sorted (u := x.u) (r := x.r) hs
 have hm : ∀ q∈revM l x.u x.r,¬ (q.u = x.u∧q.r = x.r) := fun q hq => (revM_mem hq).2
 generalize revM l x.u x.r = m at hj h1 h2 hs hm ⊢
 have hd : SortedE (m.take j)∧SortedE (m.drop j)∧∀ a∈m.take j,∀ b∈m.drop j,ltE a b := by
  have := hs
  unfold SortedE at this
  rw [← List.take_append_drop j m,List.pairwise_append] at this
  exact this
 obtain ⟨d1,d2,d3⟩ := hd
 have h3 : ∀ q∈m.drop j,ltE x q := by
  cases hdr : m.drop j with
  | nil => intro q hq; cases hq
  | cons y r =>
    have hy : m[j]? = some y := by
     have := congrArg List.head? hdr
     rw [List.head?_drop] at this
     exact this
    have hxy := h2 y hy
    intro q hq
    rcases List.mem_cons.1 hq with rfl | hq
    · exact hxy
    · rw [hdr] at d2
      have h6 : ltE y q := (List.pairwise_cons.1 d2).1 q hq
      unfold ltE at hxy h6 ⊢
      omega
 show List.Pairwise _ _
 rw [List.pairwise_append]
 have h4 : ∀ a∈m.take j,ltE a x := fun a ha => by
  have h5 := h1 a ha
  have h6 := hm a (List.mem_of_mem_take ha)
  unfold ltE at h5 ⊢
  omega
 refine ⟨d1,List.pairwise_cons.2 ⟨h3,d2⟩,fun a ha b hb => ?_⟩
 rcases List.mem_cons.1 hb with rfl | hb
 · exact h4 a ha
 · exact d3 a ha b hb
theorem Assigned.mem {l : List En} {x : En} {l' : List En} (h : Assigned l x l') : ∀ q∈l',q∈l ∨ q = x := by
 obtain ⟨j,hj,h1,h2,rfl⟩ := h
 intro q hq
 rcases List.mem_append.1 hq with hq | hq
 · exact .inl (revM_mem (List.mem_of_mem_take hq)).1
 · rcases List.mem_cons.1 hq with rfl | hq
   · exact .inr rfl
   · exact .inl (revM_mem (List.mem_of_mem_drop hq)).1
theorem Assigned.len {l : List En} {x : En} {l' : List En} (h : Assigned l x l') : l'.length≤l.length + 1 := by
 obtain ⟨j,hj,h1,h2,rfl⟩ := h
 have := revM_len l x.u x.r
 rw [List.length_append,List.length_cons,List.length_take,List.length_drop]; omega
def InsI (m : List En) (x : En) (i : Nat) (out : List En) (done : Bool) : Prop :=
 (done = false∧out = m.take i∧∀ q∈m.take i,¬ ltE x q) ∨ (done = true∧∃ j,j < i∧(∀ q∈m.take j,¬ ltE x q)∧(∀ q,m[j]? = some q→ltE x q)∧out = m.take j ++ x :: (m.take i).drop j)
theorem InsI.len {m : List En} {x : En} {i : Nat} {out : List En} {done : Bool} (h : InsI m x i out done) (hi : i≤m.length) : out.length≤i + 1 := by
 rcases h with ⟨_,rfl,_⟩ | ⟨_,j,hj,_,_,rfl⟩
 · rw [List.length_take]; omega
 · rw [List.length_append,List.length_cons,List.length_drop,List.length_take,List.length_take]; omega
theorem InsI.nil (m : List En) (x : En) : InsI m x 0 [] false := .inl ⟨rfl,rfl,fun q hq=>by cases hq⟩
theorem InsI.late {m : List En} {x p : En} {i : Nat} {out : List En} (h : InsI m x i out true) (htk : m.take (i + 1) = m.take i ++ [p]) (hi : i≤m.length) : InsI m x (i + 1) (out ++ [p]) true := by
 rcases h with ⟨h,_⟩ | ⟨_,j,hj,h1,h2,rfl⟩
 · cases h
 · refine .inr ⟨rfl, j, by omega, h1, h2, ?_⟩
   rw [htk,List.drop_append_of_le_length (by rw [List.length_take];omega)]
   simp
theorem InsI.here {m : List En} {x p : En} {i : Nat} {out : List En} (h : InsI m x i out false) (htk : m.take (i + 1) = m.take i ++ [p]) (hi : i≤m.length) (hp : m[i]? = some p) (hx : ltE x p) : InsI m x (i + 1) (out ++ [x] ++ [p]) true := by
 rcases h with ⟨_,rfl,h1⟩ | ⟨h,_⟩
 · refine .inr ⟨rfl, i, by omega, h1, fun q hq => by rw [hp] at hq; cases hq; exact hx, ?_⟩
   have : (m.take i).length = i := by rw [List.length_take]; omega
   rw [htk,List.drop_append_of_le_length (by omega),List.drop_eq_nil_of_le (by omega)]
   simp
 · cases h
theorem InsI.on {m : List En} {x p : En} {i : Nat} {out : List En} (h : InsI m x i out false) (htk : m.take (i + 1) = m.take i ++ [p]) (hx : ¬ ltE x p) : InsI m x (i + 1) (out ++ [p]) false := by
 rcases h with ⟨_,rfl,h1⟩ | ⟨h,_⟩
 · refine .inl ⟨rfl, htk.symm, fun q hq => ?_⟩
   rw [htk] at hq
   rcases List.mem_append.1 hq with hq | hq
   · exact h1 q hq
   · rw [List.mem_singleton] at hq; subst hq; exact hx
 · cases h
theorem InsI.end0 {l out : List En} {x : En} (h : InsI (revM l x.u x.r) x (revM l x.u x.r).length out false) : Assigned l x (out ++ [x]) := by
 rcases h with ⟨_,rfl,h1⟩ | ⟨h,_⟩
 · exact ⟨(revM l x.u x.r).length,Nat.le_refl _,h1,(fun q hq=>by rw [List.getElem?_eq_none (Nat.le_refl _)] at hq; cases hq),by rw [List.drop_length]⟩
 · cases h
theorem InsI.end1 {l out : List En} {x : En} (h : InsI (revM l x.u x.r) x (revM l x.u x.r).length out true) : Assigned l x out := by
 rcases h with ⟨h,_⟩ | ⟨_,j,hj,h1,h2,rfl⟩
 · cases h
 · exact ⟨j,by omega,h1,h2,by rw [List.take_length]⟩
set_option maxHeartbeats 4000000 in
theorem assign_spec (l : List En) (fl : Bool) (x : En) (hx : EnOk x) (hlen : l.length≤100000) : Spec Tryz.prog 92 [.vec (l.map enC) fl,.agg (enC x)] fun r => ∃ l',Assigned l x l'∧r = .tup [.vec (l'.map enC) false,.val (.int .i64 0)] := by
 have hu := hx.u
 have hr := hx.r
 have ht := hx.t
 refine spec_intro ok92 (Nat.le_of_ble_eq_true rfl) fun C hC => ?_
 have hce : ∀ D,innL D (enC x) := fun D => innL_mono (fun _ h => h.elim) _ (enC_pure x)
 have d1 : decide ((x.u : Int) < 1) = false := decide_eq_false (by omega)
 have d2 : decide ((x.u : Int) > 256) = false := decide_eq_false (by omega)
 have d3 : decide ((x.r : Int) < 1) = false := decide_eq_false (by omega)
 have d4 : decide ((x.r : Int) > 63) = false := decide_eq_false (by omega)
 have d5 : decide ((x.t : Int) > 30000) = false := decide_eq_false (by omega)
 refine aw_seq ?_
 refine aw_region ?_
 refine opsK_ofAlt rfl rfl rfl ?_
 (repeat'(first|refine at_dst 14 ?_|refine at_dstD 14 ?_|refine st ?_|(apply B<;>intro hb<;>try cases hb)))<;>try refine At.mk ?_
 refine opsK_of (E_boolEq rfl d1) rfl rfl ?_
 (repeat'(first|refine at_dst 18 ?_|refine at_dstD 18 ?_|refine st ?_|(apply B<;>intro hb<;>try cases hb)))<;>try refine At.mk ?_
 refine opsK_on rfl ?_
 refine opsK_of (E_boolEq rfl d2) rfl rfl ?_
 (repeat'(first|refine at_dst 23 ?_|refine at_dstD 23 ?_|refine st ?_|(apply B<;>intro hb<;>try cases hb)))<;>try refine At.mk ?_
 refine opsK_on rfl ?_
 refine opsK_of (E_boolEq rfl d3) rfl rfl ?_
 (repeat'(first|refine at_dst 28 ?_|refine at_dstD 28 ?_|refine st ?_|(apply B<;>intro hb<;>try cases hb)))<;>try refine At.mk ?_
 refine opsK_on rfl ?_
 refine opsK_of (E_boolEq rfl d4) rfl rfl ?_
 (repeat'(first|refine at_dst 36 ?_|refine at_dstD 36 ?_|refine st ?_|(apply B<;>intro hb<;>try cases hb)))<;>try refine At.mk ?_
 refine opsK_on rfl ?_
 refine opsK_of (E_boolEq rfl d5) rfl rfl ?_
 iterate 4 (first|refine st ?_|(apply B<;>intro hb<;>try cases hb))
 have hrv := revoke_spec l fl x.u x.r hlen
 refine aw_cutX (X := Bool × PV × Int) hC (fun z => (z.2.2 = 0∧z.2.1 = .vec ((revM l x.u x.r).map enC) false) ∨ (z.2.2 = 4∧z.2.1 = .vec [] true∧revM l x.u x.r = l)) 0 (fun z => [(0,.vec (l.map enC) fl),(3,.cp (enC x)),(6,z.2.1),(7,.val (.int .i64 z.2.2))]) (fun _=>[]) (Nat.zero_le _) ?_ ?_
 · by_cases hln : (revM l x.u x.r).length = l.length
   · rw [if_pos hln] at hrv
     (refine go ?_;repeat' (apply B<;>intro hb<;>try cases hb))
     refine opsK_eq hrv rfl rfl rfl ⟨ens_pure l,trivial,trivial,trivial⟩ rfl ?_
     (refine go ?_;repeat' (apply B<;>intro hb<;>try cases hb))
     exact ⟨(true,.vec [] true,4),.inr ⟨rfl,rfl,revM_self hln⟩,⟨⟨rfl,ens_inn _ _⟩,⟨rfl,hce _⟩,⟨rfl,trivial⟩,⟨rfl,trivial⟩,trivial⟩,trivial⟩
   · rw [if_neg hln] at hrv
     (refine go ?_;repeat' (apply B<;>intro hb<;>try cases hb))
     refine opsK_eq hrv rfl rfl rfl ⟨ens_pure l,trivial,trivial,trivial⟩ rfl ?_
     (refine go ?_;repeat' (apply B<;>intro hb<;>try cases hb))
     exact ⟨(true,.vec ((revM l x.u x.r).map enC) false,0),.inl ⟨rfl,rfl⟩,⟨⟨rfl,ens_inn _ _⟩,⟨rfl,hce _⟩,⟨rfl,ens_inn _ _⟩,⟨rfl,trivial⟩,trivial⟩,trivial⟩
 rintro ⟨b0,v,e⟩ hz
 simp only at hz
 refine aw_cutX (X := Bool) hC (fun _ => True) 0 (fun z => [(3,.cp (enC x)),(6,.vec ((revM l x.u x.r).map enC) z)]) (fun _=>[]) (Nat.zero_le _) ?_ ?_
 · rcases hz with ⟨rfl, rfl⟩ | ⟨rfl, rfl, hre⟩
   · (refine go ?_;repeat' (apply B<;>intro hb<;>try cases hb))
     exact ⟨false,trivial,⟨⟨rfl,hce _⟩,⟨rfl,ens_inn _ _⟩,trivial⟩,trivial⟩
   · (refine go ?_;repeat' (apply B<;>intro hb<;>try cases hb))
     refine ⟨fl,trivial,⟨⟨rfl,hce _⟩,⟨by rw [hre]; rfl,ens_inn _ _⟩,trivial⟩,trivial⟩
 clear hrv
 rintro f1 -
 have hmn := ens_len (revM l x.u x.r)
 have hml := revM_len l x.u x.r
 have fin0 : ∀ out,InsI (revM l x.u x.r) x (revM l x.u x.r).length out false→Assigned l x (out ++ [x]) := fun out h => h.end0
 have fin1 : ∀ out,InsI (revM l x.u x.r) x (revM l x.u x.r).length out true→Assigned l x out := fun out h => h.end1
 generalize revM l x.u x.r = m at hmn hml fin0 fin1 ⊢
 repeat' (first | refine opsK_sub (subA_ownNil (k := 8) rfl 3 (by decide)) ?_ | (first|refine st ?_|(apply B<;>intro hb<;>try cases hb)))
 refine aw_loopR hC (fun (z : Nat × List En × Bool) => z.1≤m.length∧InsI m x z.1 z.2.1 z.2.2) (fun z => m.length - z.1) 1 (fun z => [(3,.cp (enC x)),(8,.own 0),(9,.val (.bool z.2.2)),(50,.vec (m.map enC) f1),(51,.val (.int .i64 m.length)),(52,.val (.int .i64 (z.1 : Int)))])
  (fun z => [(0,⟨3,z.2.1.map enC⟩)]) (by omega) (0,[],false) ⟨Nat.zero_le _,InsI.nil m x⟩ (fun i=>i) (fun _ _=>rfl) injOn_id
  ⟨⟨_,rfl,.pure _ (enC_pure x)⟩,⟨_,rfl,.own 0 (by decide)⟩,⟨_,rfl,.pure _ trivial⟩,⟨_,rfl,.pure _ (ens_pure m)⟩,⟨_,by rw [← hmn]; rfl,.pure _ trivial⟩,⟨_,rfl,.pure _ trivial⟩,trivial⟩
  ⟨⟨by decide,_,rfl,.same _ trivial⟩,trivial⟩ ?_
 rintro ⟨i,out,done⟩ ⟨hi,hI⟩
 simp only at hi hI
 have hol := hI.len hi
 have hinc : IntKind.i64.wrap ((i : Int) + 1) = ((i + 1 : Nat) : Int) := IntWalk.i64_in _ ⟨by omega,by omega⟩
 have put1 : ∀ (o : List En) (p : En),o.map enC ++ [enC p] = (o ++ [p]).map enC := fun o p=>by rw [List.map_append]; rfl
 (repeat'(first|refine at_dst 53 ?_|refine at_dstD 53 ?_|refine st ?_|(apply B<;>intro hb<;>try cases hb)))<;>try refine At.mk ?_
 refine opsK_bool rfl rfl rfl (fun hb=>?_) (fun hb=>?_)
 · have hil : i < m.length := by have := of_decide_eq_true hb; omega
   have htk := take_snocG hil
   have hget : m[i]? = some m[i] := List.getElem?_eq_getElem hil
   clear hb
   (refine go ?_;repeat' (apply B<;>intro hb<;>try cases hb))
   refine opsK_of (E_iaddr (xs := m) (g := enC) rfl rfl i rfl hil rfl) rfl rfl ?_
   generalize m[i] = p at htk hget ⊢
   have one : ∀ (o : List En) (p : En),o.length≤i + 2→((o.map enC).length + 1) * 24≤140737488355328 := fun o p h=>by rw [ens_len]; omega
   cases done with
   | true =>
     (refine go ?_;repeat' (apply B<;>intro hb<;>try cases hb))
     refine opsK_new (E_append (k := 0) (m := [enC p]) (fl := true) (b := ⟨3,out.map enC⟩) rfl rfl rfl (fun q hq=>by rw [List.mem_singleton] at hq; subst hq; rfl) rfl (one out p (by omega))) rfl rfl ?_
     simp only
     rw [put1]
     (refine go ?_;repeat' (apply B<;>intro hb<;>try cases hb))
     exact ⟨(i + 1,out ++ [p],true),mv 0 2,⟨hil,hI.late htk hi⟩,by simp only; omega,fun j hj => absurd hj (Nat.not_lt_zero _),injOn_of rfl,
      ⟨⟨_,rfl,.pure _ (enC_pure x)⟩,⟨_,rfl,.own 0 (by decide)⟩,⟨_,rfl,.pure _ trivial⟩,⟨_,rfl,.pure _ (ens_pure m)⟩,⟨_,rfl,.pure _ trivial⟩,⟨_,by show some _ = some _; rw [hinc],.pure _ trivial⟩,trivial⟩,
      ⟨⟨by decide,_,rfl,.same _ (ens_pure _)⟩,trivial⟩⟩
   | false =>
     have hbf := before_spec x p
     by_cases hlt : ltE x p
     · rw [decide_eq_true hlt] at hbf
       (refine go ?_;repeat' (apply B<;>intro hb<;>try cases hb))
       refine opsK_eq hbf rfl rfl rfl ⟨enC_pure x,enC_pure p,trivial⟩ rfl ?_
       (refine go ?_;repeat' (apply B<;>intro hb<;>try cases hb))
       refine opsK_new (E_append (k := 0) (m := [enC x]) (fl := true) (b := ⟨3,out.map enC⟩) rfl rfl rfl (fun q hq=>by rw [List.mem_singleton] at hq; subst hq; rfl) rfl (one out p (by omega))) rfl rfl ?_
       simp only
       rw [put1]
       (refine go ?_;repeat' (apply B<;>intro hb<;>try cases hb))
       refine opsK_new (E_append (k := 2) (m := [enC p]) (fl := true) (b := ⟨3,(out ++ [x]).map enC⟩) rfl rfl rfl (fun q hq=>by rw [List.mem_singleton] at hq; subst hq; rfl) rfl (one (out ++ [x]) p (by rw [List.length_append,List.length_singleton];omega))) rfl rfl ?_
       simp only
       rw [put1]
       (refine go ?_;repeat' (apply B<;>intro hb<;>try cases hb))
       exact ⟨(i + 1,out ++ [x] ++ [p],true),mv 0 3,⟨hil,hI.here htk hi hget hlt⟩,by simp only; omega,fun j hj => absurd hj (Nat.not_lt_zero _),injOn_of rfl,
        ⟨⟨_,rfl,.pure _ (enC_pure x)⟩,⟨_,rfl,.own 0 (by decide)⟩,⟨_,rfl,.pure _ trivial⟩,⟨_,rfl,.pure _ (ens_pure m)⟩,⟨_,rfl,.pure _ trivial⟩,⟨_,by show some _ = some _; rw [hinc],.pure _ trivial⟩,trivial⟩,
        ⟨⟨by decide,_,rfl,.same _ (ens_pure _)⟩,trivial⟩⟩
     · rw [decide_eq_false hlt] at hbf
       (refine go ?_;repeat' (apply B<;>intro hb<;>try cases hb))
       refine opsK_eq hbf rfl rfl rfl ⟨enC_pure x,enC_pure p,trivial⟩ rfl ?_
       (refine go ?_;repeat' (apply B<;>intro hb<;>try cases hb))
       refine opsK_new (E_append (k := 0) (m := [enC p]) (fl := true) (b := ⟨3,out.map enC⟩) rfl rfl rfl (fun q hq=>by rw [List.mem_singleton] at hq; subst hq; rfl) rfl (one out p (by omega))) rfl rfl ?_
       simp only
       rw [put1]
       (refine go ?_;repeat' (apply B<;>intro hb<;>try cases hb))
       exact ⟨(i + 1,out ++ [p],false),mv 0 2,⟨hil,hI.on htk hlt⟩,by simp only; omega,fun j hj => absurd hj (Nat.not_lt_zero _),injOn_of rfl,
        ⟨⟨_,rfl,.pure _ (enC_pure x)⟩,⟨_,rfl,.own 0 (by decide)⟩,⟨_,rfl,.pure _ trivial⟩,⟨_,rfl,.pure _ (ens_pure m)⟩,⟨_,rfl,.pure _ trivial⟩,⟨_,by show some _ = some _; rw [hinc],.pure _ trivial⟩,trivial⟩,
        ⟨⟨by decide,_,rfl,.same _ (ens_pure _)⟩,trivial⟩⟩
 · have hil : i = m.length := by have := of_decide_eq_false hb; omega
   subst hil
   clear hb
   cases done with
   | true =>
     have hA := fin1 out hI
     (repeat'(first|refine at_dst 78 ?_|refine at_dstD 78 ?_|refine st ?_|(apply B<;>intro hb<;>try cases hb)))<;>try refine At.mk ?_
     refine opsK_sub (subA_freeze (k := 8) rfl rfl (ens_pure _)) ?_
     (refine go ?_;repeat' (apply B<;>intro hb<;>try cases hb))
     exact ret_ok rfl ⟨ens_pure _,trivial,trivial⟩ ⟨_,hA,rfl⟩
   | false =>
     have hA := fin0 out hI
     (repeat'(first|refine at_dst 77 ?_|refine at_dstD 77 ?_|refine st ?_|(apply B<;>intro hb<;>try cases hb)))<;>try refine At.mk ?_
     refine opsK_new (E_append (k := 0) (m := [enC x]) (fl := true) (b := ⟨3,out.map enC⟩) rfl rfl rfl (fun q hq=>by rw [List.mem_singleton] at hq; subst hq; rfl) rfl (by show ((out.map enC).length + 1) * 24≤_; rw [ens_len];omega)) rfl rfl ?_
     simp only
     rw [put1]
     (repeat'(first|refine at_dst 78 ?_|refine at_dstD 78 ?_|refine st ?_|(apply B<;>intro hb<;>try cases hb)))<;>try refine At.mk ?_
     refine opsK_sub (subA_freeze (k := 8) rfl rfl (ens_pure _)) ?_
     (refine go ?_;repeat' (apply B<;>intro hb<;>try cases hb))
     exact ret_ok rfl ⟨ens_pure _,trivial,trivial⟩ ⟨_,hA,rfl⟩
end Go.Proofs.YtcoehdmpjflmlaaGreatDoor

namespace Go.Proofs.YtcoehdmpjflmlaaGreatDoor
open Go.RowKit
set_option linter.unusedVariables false
attribute [local irreducible] aw opsK dK

def rawC (x : En) : List PV := rawE x.u x.r x.t
theorem rawC_pure (x : En) : pureL (rawC x) := ⟨trivial,trivial,trivial,trivial⟩
theorem raws_pure (l : List En) : pureLL (l.map rawC) := pureLL_enc rawC_pure l
theorem raws_inn (l : List En) (D : Nat→Prop) : innLL D (l.map rawC) := innLL_mono (fun _ h => h.elim) _ (raws_pure l)
structure BookS (m : List En) : Prop where
 asc : SortedE m
 len : m.length≤16
 fit : ∀ x∈m,(1≤x.u∧x.u≤5)∧(1≤x.r∧x.r≤8)∧x.t < 20
theorem BookS.ok {m : List En} (h : BookS m) : ∀ x∈m,EnOk x := fun x hx => by
 obtain ⟨h1,h2,h3⟩ := h.fit x hx
 exact ⟨by omega,by omega,by omega⟩
theorem fitE_fit (u r t : Nat) : (1≤(fitE u r t).u∧(fitE u r t).u≤5)∧(1≤(fitE u r t).r∧(fitE u r t).r≤8)∧(fitE u r t).t < 20 := by
 have h1 := Nat.mod_lt u (show 0 < 5 by decide)
 have h2 := Nat.mod_lt r (show 0 < 8 by decide)
 have h3 := Nat.mod_lt t (show 0 < 20 by decide)
 exact ⟨by show 1≤1 + u % 5∧1 + u % 5≤5; omega,by show 1≤1 + r % 8∧1 + r % 8≤8; omega,h3⟩
set_option maxHeartbeats 4000000 in
theorem make12_spec (l : List En) (fl : Bool) : Spec Tryz.prog 65 [.vec (l.map rawC) fl] fun r => ∃ m fm,BookS m∧r = .vec (m.map enC) fm := by
 have hnl : (l.map rawC).length = l.length := by simp
 refine spec_intro ok65 (Nat.le_of_ble_eq_true rfl) fun C hC => ?_
 refine aw_len (k := 0) rfl fun hmax => ?_
 have hlm : l.length≤maxVec := by rw [← hnl]; exact hmax
 (refine go ?_;repeat' (apply B<;>intro hb<;>try cases hb))
 refine aw_loopH hC (fun (z : Nat × List En × Bool) => z.1≤l.length∧z.1≤16∧z.2.1.length≤z.1∧BookS z.2.1) (fun z => l.length - z.1) 0 (fun z => [(3,.vec (z.2.1.map enC) z.2.2),(6,.vec (l.map rawC) fl),(7,.val (.int .i64 l.length)),(8,.val (.int .i64 (z.1 : Int)))]) (fun _=>[]) (Nat.zero_le _) (0,[],true) ⟨Nat.zero_le _,Nat.zero_le _,Nat.le_refl _,⟨List.Pairwise.nil,Nat.zero_le _,fun _ h=>by cases h⟩⟩
  ⟨⟨rfl,trivial⟩,⟨rfl,raws_inn _ _⟩,⟨by rw [← hnl]; rfl,trivial⟩,⟨rfl,trivial⟩,trivial⟩ trivial ?_
 rintro ⟨i,m,f⟩ ⟨hi,hi16,hml,hm⟩
 simp only at hi hi16 hml hm
 have hinc : IntKind.i64.wrap ((i : Int) + 1) = ((i + 1 : Nat) : Int) := IntWalk.i64_in _ ⟨by omega,by omega⟩
 (repeat'(first|refine at_dst 9 ?_|refine at_dstD 9 ?_|refine st ?_|(apply B<;>intro hb<;>try cases hb)))<;>try refine At.mk ?_
 refine opsK_bool rfl rfl rfl (fun hb=>?_) (fun hb=>?_)
 · have hil : i < l.length := by have := of_decide_eq_true hb; omega
   clear hb
   (refine go ?_;repeat' (apply B<;>intro hb<;>try cases hb))
   refine opsK_of (E_iaddr (xs := l) (g := rawC) rfl rfl i rfl hil rfl) rfl rfl ?_
   generalize l[i] = p
   (repeat'(first|refine at_dst 14 ?_|refine at_dstD 14 ?_|refine st ?_|(apply B<;>intro hb<;>try cases hb)))<;>try refine At.mk ?_
   refine opsK_bool rfl rfl rfl (fun hb=>?_) (fun hb=>?_)
   · clear hb
     (refine go ?_;repeat' (apply B<;>intro hb<;>try cases hb))
     exact ret_ok rfl (ens_pure m) ⟨m,f,hm,rfl⟩
   · have h16 : i < 16 := by
      have h1 : ((i : Int) == 16) = false := hb
      have h2 : (i : Int)≠16 := by simpa using h1
      omega
     clear hb
     (refine go ?_;repeat' (apply B<;>intro hb<;>try cases hb))
     refine opsK_eq (fit_spec p.u p.r p.t) rfl rfl rfl ⟨rawC_pure p,trivial⟩ rfl ?_
     (refine go ?_;repeat' (apply B<;>intro hb<;>try cases hb))
     refine opsK_spec rfl rfl (assign_spec m f (fitE p.u p.r p.t) (fitE_ok _ _ _) (by omega)) ⟨ens_pure m,enC_pure _,trivial⟩ rfl ?_
     rintro r ⟨m',hA,rfl⟩
     (refine go ?_;repeat' (apply B<;>intro hb<;>try cases hb))
     have hl' := hA.len
     exact ⟨(i + 1,m',false),⟨hil,by simp only; omega,by simp only; omega,⟨hA.sorted hm.asc,(by omega : m'.length≤16),fun x hx => (hA.mem x hx).elim (hm.fit x) fun e=>by rw [e]; exact fitE_fit _ _ _⟩⟩,by simp only; omega,⟨⟨rfl,ens_inn _ _⟩,⟨rfl,raws_inn _ _⟩,⟨rfl,trivial⟩,⟨by show some _ = some _; rw [hinc],trivial⟩,trivial⟩,trivial⟩
 · clear hb
   (refine go ?_;repeat' (apply B<;>intro hb<;>try cases hb))
   exact ret_ok rfl (ens_pure m) ⟨m,f,hm,rfl⟩
def actB (u d : Nat) (x : En) : Bool := decide (x.u = u) && decide (d≤30000∧d≤x.t)
def onL (m : List En) (u d : Nat) : List Nat := (m.filter (actB u d)).map (·.r)
def orL (rs : List Nat) : Nat := rs.foldl (fun s r => s ||| 2 ^ r) 0
def onN (m : List En) (u d : Nat) : Nat := orL (onL m u d)
theorem onL_snoc (m : List En) (p : En) (u d : Nat) : onL (m ++ [p]) u d = if actB u d p = true then onL m u d ++ [p.r] else onL m u d := by
 unfold onL
 rw [List.filter_append,List.filter_cons,List.filter_nil]
 by_cases h : actB u d p = true
 · rw [if_pos h,if_pos h,List.map_append]; rfl
 · rw [if_neg h,if_neg h,List.append_nil]
theorem orL_snoc (rs : List Nat) (r : Nat) : orL (rs ++ [r]) = orL rs ||| 2 ^ r := by unfold orL; rw [List.foldl_append]; rfl
theorem onL_mem {m : List En} {u d r : Nat} (h : r∈onL m u d) : ∃ x∈m,x.r = r∧actB u d x = true := by
 obtain ⟨x,hx,rfl⟩ := List.mem_map.1 h
 obtain ⟨h1,h2⟩ := List.mem_filter.1 hx
 exact ⟨x,h1,rfl,h2⟩
theorem orL_bit (b : Nat) : ∀ (rs : List Nat) (s : Nat),(rs.foldl (fun s r => s ||| 2 ^ r) s).testBit b = true ↔ s.testBit b = true ∨ b∈rs
 | [],s=>by simp
 | r :: rs, s => by
   rw [List.foldl_cons,orL_bit b rs,Nat.testBit_or,Bool.or_eq_true,Nat.testBit_two_pow,decide_eq_true_eq,List.mem_cons,or_assoc,eq_comm (a := r)]
theorem orL_lt : ∀ (rs : List Nat),(∀ r∈rs,r < 64)→∀ s,s < 18446744073709551616→rs.foldl (fun s r => s ||| 2 ^ r) s < 18446744073709551616
 | [],_,s,hs => hs
 | r :: rs,h,s,hs => orL_lt rs (fun q hq => h q (List.mem_cons_of_mem _ hq)) _ (or_lt hs (pow_lt64 (h r (List.mem_cons_self ..))))
theorem onL_64 {m : List En} (hm : ∀ x∈m,EnOk x) (u d : Nat) : ∀ r∈onL m u d,r < 64 := fun r hr => by
 obtain ⟨x,hx,rfl,_⟩ := onL_mem hr
 have := (hm x hx).r
 omega
theorem onN_lt {m : List En} (hm : ∀ x∈m,EnOk x) (u d : Nat) : onN m u d < 18446744073709551616 := orL_lt _ (onL_64 hm u d) 0 (by decide)
theorem onN_bit (m : List En) (u d b : Nat) : (onN m u d).testBit b = true ↔ b∈onL m u d := by
 unfold onN orL
 rw [orL_bit]
 simp
end Go.Proofs.YtcoehdmpjflmlaaGreatDoor

namespace Go.Proofs.YtcoehdmpjflmlaaGreatDoor
open Go.RowKit
set_option linter.unusedVariables false
attribute [local irreducible] aw opsK dK

structure Told (l : List Pr) (m : List En) (n d : Nat) : Prop where
 l : GoodL l
 m : BookS m
 n : n≤5
 d : d≤23
def factR (l : List Pr) (fl : Bool) (m : List En) (fm : Bool) (n d : Nat) : List PV := [.vec (l.map prC) fl,.vec (m.map enC) fm,.val (.int .i64 (n : Int)),.val (.int .i64 (d : Int))]
theorem factR_pure (l : List Pr) (fl : Bool) (m : List En) (fm : Bool) (n d : Nat) : pureL (factR l fl m fm n d) := ⟨prs_pure l,ens_pure m,trivial,trivial,trivial⟩
set_option maxHeartbeats 1000000 in
theorem make20_spec (x : Nat) (hx : x < 18446744073709551616) (raws : List En) (f : Bool) (us dy : Nat) : Spec Tryz.prog 29 [.agg [.val (.int .u64 (x : Int)),.vec (raws.map rawC) f,.val (.int .u8 (us : Int)),.val (.int .u8 (dy : Int))]] fun r => ∃ l fl m fm n d,Told l m n d∧r = .agg (factR l fl m fm n d) := by
 have h1 := Nat.mod_lt us (show 0 < 6 by decide)
 have h2 := Nat.mod_lt dy (show 0 < 24 by decide)
 have e1 : IntKind.i64.wrap ((us : Int).tmod 6) = ((us % 6 : Nat) : Int) := by rw [show ((us : Int).tmod 6) = ((us % 6 : Nat) : Int) from (Int.ofNat_tmod us 6).symm]; exact IntWalk.i64_in _ ⟨by omega,by omega⟩
 have e2 : IntKind.i64.wrap ((dy : Int).tmod 24) = ((dy % 24 : Nat) : Int) := by rw [show ((dy : Int).tmod 24) = ((dy % 24 : Nat) : Int) from (Int.ofNat_tmod dy 24).symm]; exact IntWalk.i64_in _ ⟨by omega,by omega⟩
 refine spec_intro ok29 (Nat.le_of_ble_eq_true rfl) fun C hC => ?_
 refine aw_seq ?_
 refine aw_region ?_
 refine opsK_ofAlt rfl rfl rfl ?_
 (repeat'(first|refine at_dst 5 ?_|refine at_dstD 5 ?_|refine st ?_|(apply B<;>intro hb<;>try cases hb)))<;>try refine At.mk ?_
 refine dK_call rfl rfl (.inl rfl) (linksR_spec x hx) ⟨trivial,trivial⟩ ?_
 rintro r ⟨l,fl,hl,rfl⟩
 (repeat'(first|refine at_dst 8 ?_|refine at_dstD 8 ?_|refine st ?_|(apply B<;>intro hb<;>try cases hb)))<;>try refine At.mk ?_
 refine dK_call rfl rfl (.inl rfl) (make12_spec raws f) ⟨raws_pure raws,trivial⟩ ?_
 rintro r ⟨m,fm,hm,rfl⟩
 (refine go ?_;repeat' (apply B<;>intro hb<;>try cases hb))
 refine ret_ok (r := .agg [.vec (l.map prC) fl,.vec (m.map enC) fm,.val (.int .i64 (IntKind.i64.wrap ((us : Int).tmod 6))),.val (.int .i64 (IntKind.i64.wrap ((dy : Int).tmod 24)))]) rfl ⟨prs_pure l,ens_pure m,trivial,trivial,trivial⟩ ⟨l,fl,m,fm,us % 6,dy % 24,⟨hl,hm,by omega,by omega⟩,?_⟩
 rw [e1,e2]
 rfl
noncomputable def memb (l : List Pr) (m : List En) (n d : Nat) (u : Int) : Nat := if 1≤u∧u≤n then clo l (onN m u.toNat d) else 0
theorem memb_lt (l : List Pr) (m : List En) (n d : Nat) (u : Int) : memb l m n d u < 18446744073709551616 := by
 unfold memb
 split
 · exact clo_lt _ _
 · decide
end Go.Proofs.YtcoehdmpjflmlaaGreatDoor

namespace Go.Proofs.YtcoehdmpjflmlaaGreatDoor
open Go.RowKit
set_option linter.unusedVariables false
attribute [local irreducible] aw opsK dK

noncomputable def cntTo (l : List Pr) (m : List En) (n d : Nat) (u r : Nat) : Nat := (List.range u).countP fun k => (memb l m n d ((k + 1 : Nat) : Int)).testBit r
noncomputable def cntAll (l : List Pr) (m : List En) (n d : Nat) : List Int := (List.range 64).map fun r => ((cntTo l m n d n r : Nat) : Int)
theorem tabI_inn (f : Nat→Int) (D : Nat→Prop) : innLL D (tab (intR f)) := innLL_mono (fun _ h => h.elim) _ (tab_pure (intR_pure f))
end Go.Proofs.YtcoehdmpjflmlaaGreatDoor

namespace Go.Proofs.YtcoehdmpjflmlaaGreatDoor
open Go.RowKit
set_option linter.unusedVariables false
attribute [local irreducible] aw opsK dK

noncomputable def hierP (l : List Pr) (S : List Nat) : PV := .cp [.cp (ordC l S)]
theorem hierP_pure (l : List Pr) (S : List Nat) : (hierP l S).pure := ⟨ordC_pure l S,trivial⟩
theorem hierNew_spec : Spec Tryz.prog 30 [] fun r => ∃ S,r = hierP [] S := by
 refine spec_intro ok30 (Nat.le_of_ble_eq_true rfl) fun C hC => ?_
 (refine go ?_;repeat' (apply B<;>intro hb<;>try cases hb))
 refine opsK_spec rfl rfl (newO_spec [] true (fun p hp=>by cases hp) List.nodup_nil ⟨fun _ => 0,fun p hp=>by cases hp⟩ (by decide)) ⟨trivial,trivial,trivial⟩ rfl ?_
 rintro r ⟨l',o,h1,h2,⟨S',rfl⟩,rfl⟩
 obtain rfl := List.Perm.eq_nil h1
 (repeat'(first|refine at_dst 9 ?_|refine at_dstD 9 ?_|refine st ?_|(apply B<;>intro hb<;>try cases hb)))<;>try refine At.mk ?_
 refine opsK_ofAlt rfl rfl rfl ?_
 (refine go ?_;repeat' (apply B<;>intro hb<;>try cases hb))
 exact ret_ok rfl (hierP_pure [] S') ⟨S',rfl⟩
theorem hrole_spec (a : Int) : Spec Tryz.prog 40 [.val (.int .i64 a)] (· = .val (.bool (decide (1≤a) && decide (a≤63)))) := by
 refine spec_intro ok40 (Nat.le_of_ble_eq_true rfl) fun C hC => ?_
 (refine go ?_;repeat' (apply B<;>intro hb<;>try cases hb))
 all_goals exact ret_ok rfl trivial (by simp_all <;> omega)
theorem hrole_yes (a : Nat) (h1 : 1≤a) (h2 : a < 64) : Spec Tryz.prog 40 [.val (.int .i64 (a : Int))] (· = .val (.bool true)) := by
 have := hrole_spec (a : Int)
 rwa [decide_eq_true (show (1 : Int)≤a by omega),decide_eq_true (show (a : Int)≤63 by omega)] at this
set_option maxHeartbeats 1000000 in
theorem link_spec (l : List Pr) (S : List Nat) (a b : Nat) (ha : 1≤a∧a < 64) (hb : 1≤b∧b < 64) (hab : a≠b) (hl : Small l) (hn : l.Nodup) (hno : (a,b) ∉ l) (hacy : Acy (l ++ [(a,b)])) (hlen : l.length≤100000) : Spec Tryz.prog 31 [hierP l S,.val (.int .i64 (a : Int)),.val (.int .i64 (b : Int))] fun r => ∃ l' S',l'.Perm (l ++ [(a,b)])∧SortedP l'∧r = .tup [hierP l' S',.val (.int .i64 0)] := by
 have hne : ((a : Int) == (b : Int)) = false := by rw [beq_eq_false_iff_ne]; omega
 refine spec_intro ok31 (Nat.le_of_ble_eq_true rfl) fun C hC => ?_
 (refine go ?_;repeat' (apply B<;>intro hb<;>try cases hb))
 refine opsK_eq (hrole_yes a ha.1 ha.2) rfl rfl rfl ⟨trivial,trivial⟩ rfl ?_
 (refine go ?_;repeat' (apply B<;>intro hb<;>try cases hb))
 refine opsK_eq (hrole_yes b hb.1 hb.2) rfl rfl rfl ⟨trivial,trivial⟩ rfl ?_
 (repeat'(first|refine at_dst 25 ?_|refine at_dstD 25 ?_|refine st ?_|(apply B<;>intro hb<;>try cases hb)))<;>try refine At.mk ?_
 refine opsK_on rfl ?_
 refine opsK_of (E_boolEq rfl hne) rfl rfl ?_
 (refine go ?_;repeat' (apply B<;>intro hb<;>try cases hb))
 refine opsK_spec rfl rfl (withO_spec l S a b ha.2 hb.2 hl hn hno hacy hlen) ⟨ordC_pure l S,trivial,trivial,trivial⟩ rfl ?_
 rintro r ⟨l',o,h1,h2,⟨S',rfl⟩,rfl⟩
 (repeat'(first|refine at_dst 42 ?_|refine at_dstD 42 ?_|refine st ?_|(apply B<;>intro hb<;>try cases hb)))<;>try refine At.mk ?_
 refine opsK_ofAlt rfl rfl rfl ?_
 (refine go ?_;repeat' (apply B<;>intro hb<;>try cases hb))
 exact ret_ok rfl ⟨hierP_pure l' S',trivial,trivial⟩ ⟨l',S',h1,h2,rfl⟩
theorem juniors_spec (l : List Pr) (S : List Nat) (r : Int) : Spec Tryz.prog 11 [hierP l S,.val (.int .i64 r)] (· = setN (if 1≤r∧r≤63 then jun l r.toNat else 0)) := by
 refine spec_intro ok11 (Nat.le_of_ble_eq_true rfl) fun C hC => ?_
 (refine go ?_;repeat' (apply B<;>intro hb<;>try cases hb))
 refine opsK_eq (hrole_spec r) rfl rfl rfl ⟨trivial,trivial⟩ rfl ?_
 by_cases h : 1≤r∧r≤63
 · rw [if_pos h, decide_eq_true h.1, decide_eq_true h.2]
   obtain ⟨k,rfl⟩ : ∃ k : Nat,r = (k : Int) := ⟨r.toNat,by omega⟩
   have hk : k < 64 := by omega
   have h1 := belowO_spec l S (k : Int)
   rw [if_pos ⟨by omega,by omega⟩] at h1
   have h2 := with_spec (bel l k) (Nat.le_trans (digs_short (bel_64 l k)) (by decide)) (k : Int)
   rw [withN,if_pos ⟨by omega,by omega⟩] at h2
   (refine go ?_;repeat' (apply B<;>intro hb<;>try cases hb))
   refine opsK_eq h1 rfl rfl rfl ⟨ordC_pure l S,trivial,trivial⟩ rfl ?_
   (refine go ?_;repeat' (apply B<;>intro hb<;>try cases hb))
   refine opsK_eq h2 rfl rfl rfl ⟨setN_pure _,trivial,trivial⟩ rfl ?_
   (refine go ?_;repeat' (apply B<;>intro hb<;>try cases hb))
   exact ret_ok rfl (setN_pure _) rfl
 · rw [if_neg h]
   have h2 : (decide (1≤r) && decide (r≤63)) = false := by
    rw [Bool.and_eq_false_iff]
    by_cases h1 : 1≤r
    · exact .inr (decide_eq_false fun h3 => h ⟨h1,h3⟩)
    · exact .inl (decide_eq_false h1)
   rw [h2]
   (refine go ?_;repeat' (apply B<;>intro hb<;>try cases hb))
   refine ret_low rfl (setN_pure 0 |> fun h=>by rw [setN_zero] at h; exact h) ?_
   rw [setN_zero]; rfl
noncomputable def cloL (l : List Pr) (rs : List Nat) : Nat := rs.foldl (fun o r => if 1≤r then o ||| jun l r else o) 0
theorem cloL_snoc (l : List Pr) (rs : List Nat) (r : Nat) : cloL l (rs ++ [r]) = if 1≤r then cloL l rs ||| jun l r else cloL l rs := by simp [cloL,List.foldl_append]
set_option maxHeartbeats 2000000 in
theorem closure_spec (l : List Pr) (S : List Nat) (s : Nat) (hs : s < 18446744073709551616) : Spec Tryz.prog 37 [hierP l S,setN s] (· = setN (clo l s)) := by
 refine spec_intro ok37 (Nat.le_of_ble_eq_true rfl) fun C hC => ?_
 refine aw_seq ?_
 refine aw_region ?_
 refine opsK_ofAlt rfl rfl rfl ?_
 refine opsK_ofAlt rfl rfl rfl ?_
 (refine go ?_;repeat' (apply B<;>intro hb<;>try cases hb))
 refine opsK_eq (allfn_spec s) rfl rfl rfl ⟨setN_pure _,trivial⟩ rfl ?_
 (refine go ?_;repeat' (apply B<;>intro hb<;>try cases hb))
 have hhp := hierP_pure l S
 refine aw_range (X := List Nat) hC (caps := [.cp [.vec (words (digs s)) false]]) [(2,.cp [hierP l S]),(4,.ptr 0 0 0),(5,.ptr 1 0 0),(8,.fn 80 [.cp [.vec (words (digs s)) false]])]
  (fun z => [(0,⟨1,[[.vec [] true]]⟩),(1,⟨1,[[.vec (words (digs (cloL l z))) false]]⟩)]) rfl ⟨⟨words_pure _,trivial⟩,trivial⟩ (all_iter s hs) (fun _ => rfl)
  (fun ex pre z => ex = .normal∧z = pre.map (·.val)) 2 (by decide) [] ⟨rfl,rfl⟩
  (sub_list (EnvQ.mem (ρ := fun i => i) (m := 2) (L := [(2, .cp [hierP l S]), (4, .ptr 0 0 0), (5, .ptr 1 0 0), (8, .fn 80 [.cp [.vec (words (digs s)) false]])]) ⟨⟨_, rfl, .pure _ ⟨hhp, trivial⟩⟩, ⟨_, rfl, .ptr (ρ := fun i => i) 0 0 0 (by decide)⟩, ⟨_, rfl, .ptr (ρ := fun i => i) 1 0 0 (by decide)⟩, ⟨_, rfl, .pure _ ⟨⟨words_pure _, trivial⟩, trivial⟩⟩, trivial⟩)
    (HeapQ.mem (ρ := fun i => i) (m := 2) (L := [(0,⟨1,[[.vec [] true]]⟩),(1,⟨1,[[.vec (words (digs (cloL l []))) false]]⟩)]) ⟨⟨by decide,_,rfl,.same _ ⟨⟨trivial,trivial⟩,trivial⟩⟩,⟨by decide,⟨1,[[.vec [] true]]⟩,rfl,by rw [show cloL l [] = 0 from rfl,digs_zero]; exact RenB.single (ρ := fun i => i) (l0 := [.vec [] true]) (l := [.vec [] false]) (show RenLs _ _ [_] [_] from ⟨.low (.vec [] true) trivial,trivial⟩) rfl⟩,trivial⟩) hC (by decide))
  (fun z q hq=>by simp at hq; rcases hq with rfl | rfl <;> exact Nat.zero_lt_succ _) _ (fun x => rfl) ?_ ?_ ?_
 · rintro C2 hC2 pre x z ⟨-, rfl⟩ hlen
   have hx64 := mem_lt x.2
   have hj := juniors_spec l S (x.val : Int)
   have hcz : cloL l (pre.map (·.val)) < 18446744073709551616 := by
    unfold cloL
    exact cloF_lt l _ 0 (fun r hr=>by obtain ⟨y,_,rfl⟩ := List.mem_map.1 hr; exact mem_lt y.2) (by decide)
   have hstep := cloL_snoc l (pre.map (·.val)) x.val
   have hnew : cloL l (pre.map (·.val)) ||| (if 1≤(x.val : Int)∧(x.val : Int)≤63 then jun l (x.val : Int).toNat else 0) = cloL l (pre.map (·.val) ++ [x.val]) := by
    rw [hstep]
    by_cases h1 : 1≤x.val
    · rw [if_pos h1,if_pos ⟨by omega,by omega⟩]; rfl
    · rw [if_neg h1,if_neg (by omega),Nat.or_zero]
   have hj64 : (if 1≤(x.val : Int)∧(x.val : Int)≤63 then jun l (x.val : Int).toNat else 0) < 18446744073709551616 := by
    split
    · exact jun_64 l hx64
    · decide
   (refine go ?_;repeat' (apply B<;>intro hb<;>try cases hb))
   refine dK_eq hj rfl rfl rfl ⟨hhp,trivial,trivial⟩ ?_
   refine dK_eq (orS_spec _ _ hcz hj64) rfl rfl rfl ⟨setN_pure _,setN_pure _,trivial⟩ ?_
   rw [hnew]
   (refine go ?_;repeat' (apply B<;>intro hb<;>try cases hb))
   exact ⟨.inl rfl,pre.map (·.val) ++ [x.val],fun i => i,⟨rfl,by rw [List.map_append]; rfl⟩,fun i hi => rfl,injOn_id,
    ⟨⟨_,rfl,.pure _ ⟨hhp,trivial⟩⟩,⟨_,rfl,.ptr (ρ := fun i => i) 0 0 0 (by decide)⟩,⟨_,rfl,.ptr (ρ := fun i => i) 1 0 0 (by decide)⟩,⟨_,rfl,.pure _ ⟨⟨words_pure _,trivial⟩,trivial⟩⟩,trivial⟩,
    ⟨⟨by decide,_,rfl,.same _ ⟨⟨trivial,trivial⟩,trivial⟩⟩,⟨by decide,_,rfl,.same _ ⟨⟨words_pure _,trivial⟩,trivial⟩⟩,trivial⟩⟩
 · rintro xs z hxs ⟨-, rfl⟩
   rw [hxs]
   (refine go ?_;repeat' (apply B<;>intro hb<;>try cases hb))
   exact ret_ok rfl (setN_pure _) (by rw [clo_mem]; rfl)
 · rintro ex pre z - ⟨rfl,_⟩ (h | ⟨id,h⟩) <;> cases h
theorem links_spec (l : List Pr) (S : List Nat) (hlen : l.length≤1000000) : Spec Tryz.prog 14 [hierP l S] (· = .vec (l.map prC) false) := by
 refine spec_intro ok14 (Nat.le_of_ble_eq_true rfl) fun C hC => ?_
 (refine go ?_;repeat' (apply B<;>intro hb<;>try cases hb))
 refine opsK_eq (pairsO_spec l S hlen) rfl rfl rfl ⟨ordC_pure l S,trivial⟩ rfl ?_
 (refine go ?_;repeat' (apply B<;>intro hb<;>try cases hb))
 exact ret_ok rfl (prs_pure l) rfl
end Go.Proofs.YtcoehdmpjflmlaaGreatDoor

namespace Go.Proofs.YtcoehdmpjflmlaaGreatDoor
open Go.RowKit
set_option linter.unusedVariables false
section
variable {P : Program} {C : Ctx} {Fr : Nat→Prop} {e : Env} {h : Heap} {F : Froz} {φ : Locs} {a : Act} {w : World}

theorem MSpec.frame {f : FuncId} {b : Bx} {rest : List PV} {mk : Nat→PV} {R : Bx→Prop} (hs : MSpec P f b rest mk R) (hmk : Mk mk) (hpb : pureLL b.elems) (hpr : pureL rest) {k n : Nat} (hb : h k = some b) :
 ISpec P f n (.own k :: rest) h fun n' r h' => ∃ b',n' = n + 1∧r = mk n∧h' = (h.del k).upd n b'∧pureLL b'.elems∧R b' := by
 refine ⟨hs.1,fun C e F φ a w vs s hv => (hs.run hmk hpb hpr (Nat.le_refl n) hb s hv).mono ?_⟩
 rintro en w' ⟨v,b',F',φ',rfl,⟨h1,h2⟩,hr,s'⟩
 exact ⟨v,mk n,n + 1,(h.del k).upd n b',F',φ',rfl,⟨b',rfl,rfl,rfl,h1,h2⟩,hr,{ s' with free := fun i hi => s'.free i ⟨by omega,by omega⟩ }⟩
theorem mspec_intro {f nt : Nat} {ac : ACode} {rs : List ARes} (hf : FnOk P f nt ac rs) {b : Bx} {rest : List PV} {mk : Nat→PV} {R : Bx→Prop} (hn : rest.length + 1≤nt) (hk : ∀ C : Ctx,C.dom 1→aw P C ac (retI rs fun n' r h' => ∃ id b',r = mk id∧h' id = some b'∧pureLL b'.elems∧R b') 1 (argEnv (.own 0 :: rest)) (heapL [(0,b)])) : MSpec P f b rest mk R :=
 ispec_intro hf hn hk
theorem opsK_mv {f : Operand} {args : List Operand} {g : FuncId} {caps as0 rest : List PV} {b : Bx} {k : Nat} {mk : Nat→PV} {R : Bx→Prop} {d : Option Nat} {os : List AOper} {n : Nat} {K : Nat→Env→Heap→Prop} (hs : MSpec P g b rest mk R) (hmk : Mk mk) (hf : ev e f = some (.fn g caps)) (ha : evs e args = some as0) (hr : as0 ++ caps = .own k :: rest) (hb : h k = some b) (hpb : pureLL b.elems) (hpr : pureL rest)
 (hk : ∀ b',pureLL b'.elems→R b'→opsK P os (n + 1) (updO e d (mk n)) ((h.del k).upd n b') K) : opsK P (⟨d,.call f args,none⟩ :: os) n e h K := by
 refine opsK_heap hf ha (R := fun n' r h' => ∃ b',n' = n + 1∧r = mk n∧h' = (h.del k).upd n b'∧pureLL b'.elems∧R b') (by rw [hr]; exact hs.frame hmk hpb hpr hb) ?_
 rintro n' r h' ⟨b',rfl,rfl,rfl,h1,h2⟩
 exact hk b' h1 h2
end
end Go.Proofs.YtcoehdmpjflmlaaGreatDoor

namespace Go.Proofs.YtcoehdmpjflmlaaGreatDoor
open Go.RowKit
set_option linter.unusedVariables false
attribute [local irreducible] aw opsK dK

def bookP (m : List En) (f : Bool) : PV := .cp [.vec (m.map enC) f]
theorem bookP_pure (m : List En) (f : Bool) : (bookP m f).pure := ⟨ens_pure m,trivial⟩
theorem bookNew_spec : Spec Tryz.prog 32 [] (· = bookP [] true) := by
 refine spec_intro ok32 (Nat.le_of_ble_eq_true rfl) fun C hC => ?_
 (repeat'(first|refine at_dst 2 ?_|refine at_dstD 2 ?_|refine st ?_|(apply B<;>intro hb<;>try cases hb)))<;>try refine At.mk ?_
 refine opsK_ofAlt rfl rfl rfl ?_
 (refine go ?_;repeat' (apply B<;>intro hb<;>try cases hb))
 exact ret_ok rfl (bookP_pure [] true) rfl
set_option maxHeartbeats 1000000 in
theorem activeP_spec (a : En) (d : Int) : Spec Tryz.prog 72 [.agg (enC a),.val (.int .i64 d)] (· = .val (.bool (decide (0≤d∧d≤30000∧d≤a.t)))) := by
 refine spec_intro ok72 (Nat.le_of_ble_eq_true rfl) fun C hC => ?_
 refine aw_seq ?_
 refine aw_region ?_
 refine opsK_ofAlt rfl rfl rfl ?_
 (refine go ?_;repeat' (apply B<;>intro hb<;>try cases hb))
 all_goals
  simp only [decide_eq_true_eq,decide_eq_false_iff_not] at *
  first
   | exact ret_ok rfl trivial (by rw [decide_eq_true (show 0≤d∧d≤30000∧d≤a.t by omega)])
   | exact ret_ok rfl trivial (by rw [decide_eq_false (show ¬ (0≤d∧d≤30000∧d≤a.t) by omega)])
theorem withP_spec (N : Nat) (hN : N < 18446744073709551616) (i : Nat) (hi : i < 64) : Spec Tryz.prog 42 [setN N,.val (.int .i64 (i : Int))] (· = setN (N ||| 2 ^ i)) := by
 have h2 := with_spec N (Nat.le_trans (digs_short hN) (by decide)) (i : Int)
 rw [withN,if_pos ⟨by omega,by omega⟩,Int.toNat_natCast] at h2
 exact h2
set_option maxHeartbeats 4000000 in
theorem onP_spec (m : List En) (hm : ∀ x∈m,EnOk x) (f : Bool) (u d : Nat) (hlen : m.length≤100000) : Spec Tryz.prog 38 [bookP m f,.val (.int .i64 (u : Int)),.val (.int .i64 (d : Int))] (· = setN (onN m u d)) := by
 have hnl := ens_len m
 refine spec_intro ok38 (Nat.le_of_ble_eq_true rfl) fun C hC => ?_
 (refine go ?_;repeat' (apply B<;>intro hb<;>try cases hb))
 have hz : (⟨1,[[.vec [] true]]⟩ : Bx).elems = [[.vec [] true]] := rfl
 refine aw_loopR hC (fun i => i≤m.length) (fun i => m.length - i) 2 (fun i => [(1,.val (.int .i64 (u : Int))),(2,.val (.int .i64 (d : Int))),(6,.ptr 0 0 0),(7,.ptr 1 0 0),(16,.vec (m.map enC) f),(17,.val (.int .i64 m.length)),(18,.val (.int .i64 (i : Int)))])
  (fun i => [(0,⟨1,[[.vec [] true]]⟩),(1,⟨1,[[.vec (words (digs (onN (m.take i) u d))) false]]⟩)]) (by omega) 0 (Nat.zero_le _) (fun i=>i) (fun _ _=>rfl) injOn_id
  ⟨⟨_,rfl,.pure _ trivial⟩,⟨_,rfl,.pure _ trivial⟩,⟨_,rfl,.ptr (ρ := fun i => i) 0 0 0 (by decide)⟩,⟨_,rfl,.ptr (ρ := fun i => i) 1 0 0 (by decide)⟩,⟨_,rfl,.pure _ (ens_pure m)⟩,⟨_,by rw [← hnl]; rfl,.pure _ trivial⟩,⟨_,rfl,.pure _ trivial⟩,trivial⟩
  ⟨⟨by decide,_,rfl,.same _ ⟨⟨trivial,trivial⟩,trivial⟩⟩,⟨by decide,⟨1,[[.vec [] true]]⟩,rfl,by rw [show onN (m.take 0) u d = 0 from rfl,digs_zero]; exact RenB.single (ρ := fun i => i) (l0 := [.vec [] true]) (l := [.vec [] false]) (show RenLs _ _ [_] [_] from ⟨.low (.vec [] true) trivial,trivial⟩) rfl⟩,trivial⟩ ?_
 intro i hi
 have hinc : IntKind.i64.wrap ((i : Int) + 1) = ((i + 1 : Nat) : Int) := IntWalk.i64_in _ ⟨by omega,by omega⟩
 have hfin : ∀ (i j : Nat) (e : Env) (h : Heap),True := fun _ _ _ _ => trivial
 clear hfin
 (repeat'(first|refine at_dst 19 ?_|refine at_dstD 19 ?_|refine st ?_|(apply B<;>intro hb<;>try cases hb)))<;>try refine At.mk ?_
 refine opsK_bool rfl rfl rfl (fun hb=>?_) (fun hb=>?_)
 · have hil : i < m.length := by have := of_decide_eq_true hb; omega
   have htk := take_snocG hil
   have hp := hm _ (List.getElem_mem hil)
   have hcur := onN_lt (m := m.take i) (fun x hx => hm x (List.mem_of_mem_take hx)) u d
   clear hb
   (refine go ?_;repeat' (apply B<;>intro hb<;>try cases hb))
   refine opsK_of (E_iaddr (xs := m) (g := enC) rfl rfl i rfl hil rfl) rfl rfl ?_
   generalize m[i] = p at htk hp ⊢
   have hsn := onL_snoc (m.take i) p u d
   rw [← htk] at hsn
   have hon : onN (m.take (i + 1)) u d = if actB u d p = true then onN (m.take i) u d ||| 2 ^ p.r else onN (m.take i) u d := by
    unfold onN
    rw [hsn]
    split
    · exact orL_snoc _ _
    · rfl
   have hr := hp.r
   have hac := activeP_spec p (d : Int)
   (repeat'(first|refine at_dst 25 ?_|refine at_dstD 25 ?_|refine st ?_|(apply B<;>intro hb<;>try cases hb)))<;>try refine At.mk ?_
   refine opsK_bool rfl rfl rfl (fun hb=>?_) (fun hb=>?_)
   · have hu : p.u = u := Int.ofNat_inj.1 (eq_of_beq hb)
     clear hb
     by_cases ha : d≤30000∧d≤p.t
     · rw [decide_eq_true (show 0 ≤ (d : Int) ∧ (d : Int) ≤ 30000 ∧ (d : Int) ≤ p.t by omega)] at hac
       have hab : actB u d p = true := by unfold actB; rw [decide_eq_true hu,decide_eq_true ha]; rfl
       rw [if_pos hab] at hon
       (refine go ?_;repeat' (apply B<;>intro hb<;>try cases hb))
       refine opsK_eq hac rfl rfl rfl ⟨enC_pure p,trivial,trivial⟩ rfl ?_
       (refine go ?_;repeat' (apply B<;>intro hb<;>try cases hb))
       refine opsK_eq (withP_spec _ hcur p.r (by omega)) rfl rfl rfl ⟨setN_pure _,trivial,trivial⟩ rfl ?_
       rw [← hon]
       (refine go ?_;repeat' (apply B<;>intro hb<;>try cases hb))
       exact ⟨i + 1,fun i => i,hil,by omega,fun _ _ => rfl,injOn_id,
        ⟨⟨_,rfl,.pure _ trivial⟩,⟨_,rfl,.pure _ trivial⟩,⟨_,rfl,.ptr (ρ := fun i => i) 0 0 0 (by decide)⟩,⟨_,rfl,.ptr (ρ := fun i => i) 1 0 0 (by decide)⟩,⟨_,rfl,.pure _ (ens_pure m)⟩,⟨_,rfl,.pure _ trivial⟩,⟨_,by show some _ = some _; rw [hinc],.pure _ trivial⟩,trivial⟩,
        ⟨⟨by decide,_,rfl,.same _ ⟨⟨trivial,trivial⟩,trivial⟩⟩,⟨by decide,_,rfl,.same _ ⟨⟨words_pure _,trivial⟩,trivial⟩⟩,trivial⟩⟩
     · rw [decide_eq_false (show ¬ (0 ≤ (d : Int) ∧ (d : Int) ≤ 30000 ∧ (d : Int) ≤ p.t) by omega)] at hac
       have hab : ¬ actB u d p = true := by unfold actB; rw [decide_eq_false ha,Bool.and_false]; decide
       rw [if_neg hab] at hon
       (refine go ?_;repeat' (apply B<;>intro hb<;>try cases hb))
       refine opsK_eq hac rfl rfl rfl ⟨enC_pure p,trivial,trivial⟩ rfl ?_
       rw [← hon]
       (refine go ?_;repeat' (apply B<;>intro hb<;>try cases hb))
       exact ⟨i + 1,fun i => i,hil,by omega,fun _ _ => rfl,injOn_id,
        ⟨⟨_,rfl,.pure _ trivial⟩,⟨_,rfl,.pure _ trivial⟩,⟨_,rfl,.ptr (ρ := fun i => i) 0 0 0 (by decide)⟩,⟨_,rfl,.ptr (ρ := fun i => i) 1 0 0 (by decide)⟩,⟨_,rfl,.pure _ (ens_pure m)⟩,⟨_,rfl,.pure _ trivial⟩,⟨_,by show some _ = some _; rw [hinc],.pure _ trivial⟩,trivial⟩,
        ⟨⟨by decide,_,rfl,.same _ ⟨⟨trivial,trivial⟩,trivial⟩⟩,⟨by decide,_,rfl,.same _ ⟨⟨words_pure _,trivial⟩,trivial⟩⟩,trivial⟩⟩
   · have hu : ¬ p.u = u := fun h => by rw [h] at hb; simp at hb
     have hab : ¬ actB u d p = true := by unfold actB; rw [decide_eq_false hu,Bool.false_and]; decide
     rw [if_neg hab] at hon
     clear hb
     rw [← hon]
     (refine go ?_;repeat' (apply B<;>intro hb<;>try cases hb))
     exact ⟨i + 1,fun i => i,hil,by omega,fun _ _ => rfl,injOn_id,
      ⟨⟨_,rfl,.pure _ trivial⟩,⟨_,rfl,.pure _ trivial⟩,⟨_,rfl,.ptr (ρ := fun i => i) 0 0 0 (by decide)⟩,⟨_,rfl,.ptr (ρ := fun i => i) 1 0 0 (by decide)⟩,⟨_,rfl,.pure _ (ens_pure m)⟩,⟨_,rfl,.pure _ trivial⟩,⟨_,by show some _ = some _; rw [hinc],.pure _ trivial⟩,trivial⟩,
      ⟨⟨by decide,_,rfl,.same _ ⟨⟨trivial,trivial⟩,trivial⟩⟩,⟨by decide,_,rfl,.same _ ⟨⟨words_pure _,trivial⟩,trivial⟩⟩,trivial⟩⟩
 · have hil : i = m.length := by have := of_decide_eq_false hb; omega
   subst hil
   rw [List.take_length]
   clear hb
   (refine go ?_;repeat' (apply B<;>intro hb<;>try cases hb))
   exact ret_ok rfl (setN_pure _) rfl
end Go.Proofs.YtcoehdmpjflmlaaGreatDoor
