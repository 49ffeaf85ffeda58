/-
  Merged from the texts that this claim's theorem needs, part 1 of 8. No statement of the seat is proved here.
-/
import Derived.Laws.BytesArg
import Derived.LoopIn
import Derived.OrdersIn
import Derived.ProofKit
import Derived.RangeFuncBound
import Derived.RangeFuncCalls
import Derived.RangeFuncLeaves
import Derived.RangeFuncNested
import Derived.TacticsIn
import Derived.WalkKit
set_option linter.unusedSimpArgs false
set_option linter.unusedVariables false
set_option linter.unusedSectionVars false
set_option linter.defProp false
set_option maxRecDepth 100000
set_option maxHeartbeats 16000000
namespace Go.Proofs.YtgpjedjgmpienaaGreatDoor
theorem Yt : True := trivial
abbrev Y0:=@Nat.le_of_ble_eq_true
abbrev Y6:=@Go.run_underlying
abbrev Y7:=@if_pos
abbrev Y8:=@if_neg
abbrev Y9:=@Array.getElem?_eq_some_iff
abbrev Ye:=@List.mem_cons
abbrev Yw:=@Nat.eq_of_beq_eq_true
abbrev Yy:=@List.getElem?_eq_some_iff
abbrev YA:=@List.all_eq_true
abbrev YB:=@Nat.eq_of_testBit_eq
abbrev YC:=@List.mem_cons_of_mem
abbrev YD:=@List.eq_nil_of_length_eq_zero
abbrev YE:=@List.getElem_of_mem
abbrev YF:=@decide_eq_true
abbrev YG:=@Go.Result.andThen_ok
abbrev YH:=@of_decide_eq_false
abbrev YI:=@List.take_add_one
abbrev YJ:=@Nat.testBit_two_pow
abbrev YK:=@Bool.eq_false_iff
abbrev YL:=@Nat.add_assoc
abbrev YM:=@Nat.mul_le_mul_right
abbrev YN:=@Option.map_eq_some_iff
abbrev YO:=@Bool.or_eq_true
abbrev YP:=@Array.getElem?_append_left
abbrev YQ:=@Nat.zero_add
abbrev YR:=@Nat.not_lt_zero
abbrev YS:=@Bool.eq_iff_iff
abbrev YT:=@Go.Sem.run_bind
abbrev YU:=@Nat.pow_succ
abbrev YV:=@List.getElem?_append_right
abbrev YW:=@Nat.lt_of_lt_of_le
abbrev YX:=@Nat.add_zero
abbrev YY:=@Int.toNat_natCast
abbrev YZ:=@List.mem_range
abbrev Y10:=@List.length_eq_zero_iff
abbrev Y11:=@List.getElem?_append_left
abbrev Y12:=@Int.tmod_eq_emod_of_nonneg
abbrev Y13:=@Option.some.inj
abbrev Y14:=@Nat.pow_lt_pow_right
abbrev Y15:=@decide_eq_false_iff_not
abbrev Y16:=@List.drop_eq_getElem_cons
abbrev Y17:=@List.length_drop
abbrev Y18:=@List.getElem?_drop
abbrev Y19:=@Bool.true_and
abbrev Y1a:=@Nat.mod_eq_of_lt
abbrev Y1b:=@List.append_assoc
abbrev Y1c:=@List.map_cons
abbrev Y1d:=@List.foldl_cons
abbrev Y1e:=@Nat.div_div_eq_div_mul
abbrev Y1f:=@Nat.pow_le_pow_right
abbrev Y1g:=@Nat.zero_lt_succ
abbrev Y1h:=@Nat.or_lt_two_pow
abbrev Y1i:=@Nat.add_mul
abbrev Y1j:=@List.pairwise_cons
abbrev Y1k:=@List.getElem?_take
abbrev Y1l:=@Nat.zero_testBit
abbrev Y1m:=@Option.map_some
abbrev Y1n:=@List.cons_append
abbrev Y1o:=@List.getElem?_set
abbrev Y1p:=@BitVec.ofInt_natCast
abbrev Y1q:=@decide_eq_true_iff
abbrev Y1r:=@Array.getElem?_eq_getElem
abbrev Y1s:=@beq_iff_eq
abbrev Y1t:=@Nat.mul_comm
abbrev Y1u:=@List.length_nil
abbrev Y1v:=@BitVec.toNat_ofNat
abbrev Y1w:=@List.mem_of_mem_take
abbrev Y1x:=@Bool.or_eq_false_iff
abbrev Y1y:=@Nat.div_eq_of_lt
abbrev Y1z:=@List.not_mem_nil
abbrev Y1A:=@Nat.testBit_lt_two_pow
abbrev Y1B:=@beq_eq_false_iff_ne
abbrev Y1C:=@Go.Sem.run_pure
abbrev Y1D:=@List.take_append_drop
abbrev Y1E:=@List.mem_filter
abbrev Y1F:=@Nat.testBit_zero
abbrev Y1G:=@if_false
abbrev Y1H:=@List.mem_zipIdx_iff_getElem?
abbrev Y1I:=@List.pairwise_map
abbrev Y1J:=@Array.size_append
abbrev Y1K:=@Nat.testBit_xor
abbrev Y1L:=@Nat.testBit_two_pow_mul_add
abbrev Y1M:=@List.nil_append
abbrev Y1N:=@List.length_pos_iff
abbrev Y1O:=@Array.getElem?_append_right
abbrev Y1P:=@if_true
abbrev Y1Q:=@Go.bits_and_u64_nat
abbrev Y1R:=@Option.getD_some
abbrev Y1S:=@Nat.lt_succ_self
abbrev Y1T:=@Nat.and_le_right
abbrev Y1U:=@Int.natCast_nonneg
abbrev Y1V:=@Go.run_sliceBound
abbrev Y1W:=@List.pairwise_iff_getElem
abbrev Y1X:=@Classical.byContradiction
abbrev Y1Y:=@Go.World.cell?_of_block
abbrev Y1Z:=@List.getElem?_append
abbrev Y20:=@Go.run_sliceAt_slice
abbrev Y21:=@List.nodup_cons
abbrev Y22:=@List.eq_of_mem_replicate
abbrev Y23:=@Nat.pow_pos
abbrev Y24:=@Nat.mul_one
abbrev Y25:=@List.takeWhile_cons
abbrev Y26:=@Array.length_toList
abbrev Y27:=@Nat.testBit_succ
abbrev Y28:=@Nat.mod_lt
abbrev Y29:=@Bool.and_false
abbrev Y2a:=@List.take_of_length_le
abbrev Y2b:=@Go.wpIn_mono
abbrev Y2c:=@Nat.and_le_left
abbrev Y2d:=@List.length_replicate
abbrev Y2e:=@List.size_toArray
abbrev Y2f:=@List.length_range
abbrev Y2g:=@List.flatMap_cons
abbrev Y2h:=@Bool.and_true
abbrev Y2i:=@Option.ne_none_iff_exists'
abbrev Y2j:=@Int.tdiv_eq_ediv_of_nonneg
abbrev Y2k:=@List.drop_drop
abbrev Y2l:=@Decidable.byContradiction
abbrev Y2m:=@Bool.false_and
abbrev Y2n:=@decide_eq_decide
abbrev Y2o:=@Nat.succ_eq_add_one
abbrev Y2p:=@List.map_congr_left
abbrev Y2q:=@Nat.and_comm
abbrev Y2r:=@Go.run_slice_any
abbrev Y2s:=@Prod.mk.injEq
abbrev Y2t:=@Ne.symm
abbrev Y2u:=@Nat.zero_lt_one
abbrev Y2v:=@Nat.min_eq_left
abbrev Y2w:=@List.getElem_range
abbrev Y2x:=@List.getElem?_replicate
abbrev Y2y:=@Go.IntWalk.i64_quo
abbrev Y2z:=@Bool.false_eq_true
abbrev Y2A:=@Nat.testBit_eq_decide_div_mod_eq
abbrev Y2B:=@Go.run_indexAt_slice
abbrev Y2C:=@List.foldl_append
abbrev Y2D:=@List.drop_zero
abbrev Y2E:=@Nat.sub_self
abbrev Y2F:=@Nat.beq_refl
abbrev Y2G:=@Nat.and_two_pow_sub_one_eq_mod
abbrev Y2H:=@List.length_filter_le
abbrev Y2I:=@Int.ofNat_le
abbrev Y2J:=@Array.getElem?_toList
abbrev Y2K:=@Array.getElem?_append
abbrev Y2L:=@List.pairwise_append
abbrev Y2M:=@List.mem_of_getElem?
abbrev Y2N:=@Array.toArray_toList
abbrev Y2O:=@Go.Oper.semAt_eq
abbrev Y2P:=@Nat.testBit_two_pow_sub_succ
abbrev Y2Q:=@Array.getElem?_setIfInBounds
abbrev Y2R:=@Nat.not_lt
abbrev Y2S:=@Go.bits_or_u64_nat
abbrev Y2T:=@List.range_succ
abbrev Y2U:=@List.mem_map_of_mem
abbrev Y2V:=@List.getElem?_range
abbrev Y2W:=@List.forIn_cons
abbrev Y2X:=@Int.natCast_add
abbrev Y2Y:=@or_false
abbrev Y2Z:=@Nat.succ_mul
abbrev Y30:=@Nat.pos_of_ne_zero
abbrev Y31:=@Nat.or_assoc
abbrev Y32:=@Nat.lt_or_ge
abbrev Y33:=@Nat.add_comm
abbrev Y34:=@List.filter_append
abbrev Y35:=@Go.heap_alloc_new
abbrev Y36:=@List.nodup_nil
abbrev Y37:=@Go.run_storeCells_at
abbrev Y38:=@List.Pairwise.imp_of_mem
abbrev Y39:=@Bool.not_eq_true'
abbrev Y3a:=@Go.Sem.runT_eq
abbrev Y3b:=@Nat.le_mul_of_pos_right
abbrev Y3c:=@List.pairwise_singleton
abbrev Y3d:=@List.cons.inj
abbrev Y3e:=@Int.ofNat_inj
abbrev Y3f:=@Bool.false_or
abbrev Y3g:=@Go.wpIn_region_list
abbrev Y3h:=@Go.block_lt_of_cell
abbrev Y3i:=@List.filter_cons
abbrev Y3j:=@Go.IntKind.wrap_u64
abbrev Y3k:=@BitVec.toNat_and
abbrev Y3l:=@Array.toList_map
abbrev Y3m:=@List.sublist_cons_self
abbrev Y3n:=@List.drop_eq_nil_of_le
abbrev Y3o:=@Array.getElem?_eq_none
abbrev Y3p:=@Go.wpIn_cond_split
abbrev Y3q:=@Nat.zero_mul
abbrev Y3r:=@Nat.mul_add_div
abbrev Y3s:=@Nat.min_le_left
abbrev Y3t:=@List.length_set
abbrev Y3u:=@List.countP_le_length
abbrev Y3v:=@Nat.div_lt_of_lt_mul
abbrev Y3w:=@Go.size_zeroCells
abbrev Y3x:=@List.take_zero
abbrev Y3y:=@List.drop_left
abbrev Y3z:=@Go.setRow_heap
abbrev Y3A:=@Go.run_firstCells_some
abbrev Y3B:=@Prod.mk.inj
abbrev Y3C:=@Nat.mul_le_mul_left
abbrev Y3D:=@Nat.lt_two_pow_self
abbrev Y3E:=@List.take_succ_cons
abbrev Y3F:=@List.replicate_succ
abbrev Y3G:=@List.flatMap_append
abbrev Y3H:=@List.Sublist.append
abbrev Y3I:=@Int.toNat_of_nonneg
abbrev Y3J:=@Int.one_mul
abbrev Y3K:=@Go.mem_ready
abbrev Y3L:=@Nat.add_sub_cancel
abbrev Y3M:=@ByteArray.ext
abbrev Y3N:=@Bool.true_eq_false
abbrev Y3O:=@Array.forIn_toList
abbrev Y3P:=@Array.foldl_toList
abbrev Y3Q:=@Option.some.injEq
abbrev Y3R:=@Nat.lt_trichotomy
abbrev Y3S:=@List.nodup_append
abbrev Y3T:=@List.ext_getElem?
abbrev Y3U:=@List.Sublist.refl
abbrev Y3V:=@Go.RowKit.Below.refl
abbrev Y3W:=@Array.ext'
abbrev Y3X:=@Nat.pow_zero
abbrev Y3Y:=@Nat.le_of_lt
abbrev Y3Z:=@Nat.le_of_eq
abbrev Y40:=@List.map_map
abbrev Y41:=@Int.zero_add
abbrev Y42:=@Int.mul_le_mul_of_nonneg_right
abbrev Y43:=@Int.le_trans
abbrev Y44:=@Nat.succ_lt_succ
abbrev Y45:=@Nat.min_le_right
abbrev Y46:=@Nat.le_add_right
abbrev Y47:=@Nat.div_add_mod'
abbrev Y48:=@List.take_append_of_le_length
abbrev Y49:=@List.mem_flatMap
abbrev Y4a:=@List.getElem_map
abbrev Y4b:=@List.ext_getElem
abbrev Y4c:=@Go.RowKit.Below.heap_alloc
abbrev Y4d:=@Go.grownCap_ge
abbrev Y4e:=@Nat.div_one
abbrev Y4f:=@List.countP_nil
abbrev Y4g:=@Nat.add_mul_mod_self_right
abbrev Y4h:=@List.perm_ext_iff_of_nodup
abbrev Y4i:=@List.isPrefixOf_iff_prefix
abbrev Y4j:=@Int.fdiv_eq_ediv_of_nonneg
abbrev Y4k:=@Option.isNone_iff_eq_none
abbrev Y4l:=@Nat.or_div_two
abbrev Y4m:=@Nat.add_le_add
abbrev Y4n:=@List.mem_or_eq_of_mem_set
abbrev Y4o:=@List.drop_take
abbrev Y4p:=@Array.mapM_eq_mapM_toList
abbrev Y4q:=@Nat.sub_le
abbrev Y4r:=@Nat.blt_eq
abbrev Y4s:=@Go.World.putObj_heap_other
abbrev Y4t:=@Nat.add_sub_cancel_left
abbrev Y4u:=@List.sum_cons
abbrev Y4v:=@List.prefix_iff_eq_take
abbrev Y4w:=@List.pairwise_lt_range'
abbrev Y4x:=@List.all_cons
abbrev Y4y:=@Bool.not_true
abbrev Y0b := @List.getD_eq_getElem?_getD
abbrev Y0c := @List.getElem?_eq_getElem
abbrev Y0d := @Array.getD_eq_getD_getElem?
abbrev Y0e := @List.length_append
abbrev Y0f := @List.length_map
abbrev Y0g := @List.mem_singleton
abbrev Y0h := @List.mem_append
abbrev Y0i := @List.mem_map
abbrev Y0j := @List.getElem_mem
abbrev Y0k := @Bool.and_eq_true
abbrev Y0l := @Nat.zero_le
abbrev Y0m := @Nat.le_refl
abbrev Y0n := @decide_eq_true_eq
abbrev Y0o := @List.length_take
abbrev Y0p := @List.append_nil
abbrev Y0q := @List.take_length
abbrev Y0r := @List.map_append
abbrev Y0s := @List.length_singleton
abbrev Y0t := @List.mem_cons_self
abbrev Y0u := @of_decide_eq_true
abbrev Y0v := @IntWalk.i64_in
abbrev Y0w := @decide_eq_false
abbrev Y0x := @IntWalk.u64_in
abbrev Y0y := @List.getElem?_map
abbrev Y0z := @Nat.testBit_and
abbrev Y00 := @Nat.testBit_or
abbrev Y01 := @List.any_eq_true
abbrev Y02 := @Nat.lt_of_le_of_lt
abbrev Y03 := @Nat.le_trans
abbrev Y04 := @List.length_cons
section
def X21:List Int := [0,1,56,2,57,49,28,3,61,58,42,50,38,29,17,4,62,47,59,36,45,43,51,22,53,39,33,30,24,18,12,5,63,55,48,27,60,41,37,16,46,35,44,21,52,32,23,11,54,26,40,15,34,20,31,10,25,14,19,9,13,8,7,6]
def X2T:List (Nat×List Value)->Nat->List Value
 | [],_ => []
 | (k,l) :: r,g=>bif Nat.beq g k then l else X2T r g
def X4K:List (Nat×List Value) :=
 (0,X21.map (fun x=>.int .u8 x)) ::
 []
def X3t:Nat->List Value:=fun g=>X2T X4K g
theorem Z9r:∀ {l:List (Nat×List Value)} {g:Nat} {v:Value},v∈X2T l g->∃ q∈l,q.1=g/\v∈q.2
 | [],g,v,h=>by simp [X2T] at h
 | (k, vs) :: r, g, v, h => by
   unfold X2T at h;cases hb:Nat.beq g k with
   | true =>
     rw [hb] at h;exact⟨(k,vs),Y0t ..,(Yw hb).symm,h⟩
   | false =>
     rw [hb] at h;obtain⟨q,h1,h2⟩:=Z9r (l:=r) h;exact⟨q,YC _ h1,h2⟩
theorem Zfa:(X4K.all fun q=>q.2.all Value.oneCell')=true:=by decide +kernel
theorem Zfb:∀ (g j:Nat) (v:Value),(X3t g)[j]?=some v->v.oneCell'=true:=by
 intro g j v h;obtain⟨q,h1,_,h2⟩:=Z9r (Y2M h);exact YA.1 (YA.1 Zfa q h1) v h2
end
section
open Go.RowKit
inductive PV where
 | val (v:Value)
 | agg (l:List PV)
 | tup (l:List PV)
 | vec (l:List (List PV)) (full:Bool)
 | cp (l:List PV)
 | ptr (id i off:Nat)
 | own (id:Nat)
 | view (id lo len:Nat)
 | sl (id i off len cap:Nat)
 | mp (id:Nat)
 | fn (f:FuncId) (caps:List PV)
 | bf (f:FuncId) (first:List PV)
instance:Inhabited PV:=⟨.val undef⟩
def pvu:PV:=.val undef
structure Bx where
 esz:Nat
 elems:List (List PV)
structure Loc where
 base:Option Addr
 esz:Nat
 len:Nat
 cap:Nat
abbrev XC:=Addr->Option Value
abbrev XE:=Nat->Option Loc
def Xd:Nat:=281474976710656
inductive Rep (F:XC) (φ:XE):Value->PV->Prop
 | val (v:Value):Rep F φ v (.val v)
 | agg (vs:Array Value) (l:List PV) (hl:vs.size=l.length) (h1:∀ i,i<l.length->(vs.getD i undef).oneCell'=true) (h:∀ i,i<l.length->Rep F φ (vs.getD i undef) (l.getD i pvu)):Rep F φ (.agg vs) (.agg l)
 | tup (vs:Array Value) (l:List PV) (hl:vs.size=l.length) (h:∀ i,i<l.length->Rep F φ (vs.getD i undef) (l.getD i pvu)):Rep F φ (.tuple vs) (.tup l)
 | vecnil (full:Bool):Rep F φ (.slice none 0 0) (.vec [] full)
 | vec (a : Addr) (cap esz : Nat) (l : List (List PV)) (full : Bool) (cs : Nat -> Nat -> Value) (hs : l ≠ [] -> a.spot = none) (hcap : l.length <= cap) (hfull : full = true -> cap = l.length)
    (hmax:l.length<=Xd) (he:∀ i,i<l.length->(l.getD i []).length=esz)
    (hF:∀ i j,i<l.length->j<esz->F ⟨a.block,a.off+(i*esz+j),none⟩=some (cs i j))
    (hR:∀ i j,i<l.length->j<esz->Rep F φ (cs i j) ((l.getD i []).getD j pvu)):Rep F φ (.slice (some a) l.length cap) (.vec l full)
 | cp (a : Addr) (l : List PV) (cs : Nat -> Value) (hs : a.spot = none) (hF : ∀ j, j < l.length -> F ⟨a.block, a.off + j, none⟩ = some (cs j))
    (hR:∀ j,j<l.length->Rep F φ (cs j) (l.getD j pvu)):Rep F φ (.pointer (some a)) (.cp l)
 | ptr (id i off : Nat) (loc : Loc) (a : Addr) (h : φ id = some loc) (hz : 0 < loc.esz) (hb : loc.base = some a) (hs : a.spot = none) :
    Rep F φ (.pointer (some ⟨a.block,a.off+(i*loc.esz+off),none⟩)) (.ptr id i off)
 | own (id:Nat) (loc:Loc) (h:φ id=some loc) (hz:0<loc.esz):Rep F φ (.slice loc.base loc.len loc.cap) (.own id)
 | view (id lo len:Nat) (loc:Loc) (b:Option Addr) (h:φ id=some loc) (hz:0<loc.esz) (hl:lo+len<=loc.cap) (hb:lo<loc.cap->b=loc.base.map (·.add (lo*loc.esz))):Rep F φ (.slice b len (loc.cap-lo)) (.view id lo len)
 | sl (id i off len cap:Nat) (loc:Loc) (a:Addr) (h:φ id=some loc) (hz:0<loc.esz) (hb:loc.base=some a) (hs:a.spot=none) (hl:len<=cap):Rep F φ (.slice (some ⟨a.block,a.off+(i*loc.esz+off),none⟩) len cap) (.sl id i off len cap)
 | mp (id:Nat) (loc:Loc) (a:Addr) (h:φ id=some loc) (hz:loc.esz=0) (hb:loc.base=some a):Rep F φ (.map (some a.block)) (.mp id)
 | fn (f:FuncId) (vs:Array Value) (l:List PV) (hl:vs.size=l.length) (h:∀ i,i<l.length->Rep F φ (vs.getD i undef) (l.getD i pvu)):Rep F φ (.func (.func f) #[] vs) (.fn f l)
 | bf (f:FuncId) (vs:Array Value) (l:List PV) (hl:vs.size=l.length) (h:∀ i,i<l.length->Rep F φ (vs.getD i undef) (l.getD i pvu)):Rep F φ (.func (.func f) vs #[]) (.bf f l)
theorem Rep.mono {F F':XC} {φ φ':XE} (hF:∀ a v,F a=some v->F' a=some v) (hφ:∀ i x,φ i=some x->φ' i=some x) {v:Value} {p:PV} (h:Rep F φ v p):Rep F' φ' v p:=by
 induction h with
 | val v=>exact .val v
 | agg vs l hl h1 _ ih=>exact .agg vs l hl h1 ih
 | tup vs l hl _ ih=>exact .tup vs l hl ih
 | vecnil full=>exact .vecnil full
 | vec a cap esz l full cs hs hcap hfull hmax he hC _ ih=>exact .vec a cap esz l full cs hs hcap hfull hmax he (fun i j hi hj=>hF _ _ (hC i j hi hj)) ih
 | cp a l cs hs hC _ ih=>exact .cp a l cs hs (fun j hj=>hF _ _ (hC j hj)) ih
 | ptr id i off loc a h hz hb hs=>exact .ptr id i off loc a (hφ _ _ h) hz hb hs
 | own id loc h hz=>exact .own id loc (hφ _ _ h) hz
 | view id lo len loc b h hz hl hb=>exact .view id lo len loc b (hφ _ _ h) hz hl hb
 | sl id i off len cap loc a h hz hb hs hl=>exact .sl id i off len cap loc a (hφ _ _ h) hz hb hs hl
 | mp id loc a h hz hb=>exact .mp id loc a (hφ _ _ h) hz hb
 | fn f vs l hl _ ih=>exact .fn f vs l hl ih
 | bf f vs l hl _ ih=>exact .bf f vs l hl ih
mutual
def PV.inn (D:Nat->Prop):PV->Prop
 | .val _=>True
 | .agg l=>X26 D l
 | .tup l=>X26 D l
 | .vec l _=>XG D l
 | .cp l=>X26 D l
 | .ptr id _ _=>D id
 | .own id=>D id
 | .view id _ _=>D id
 | .sl id _ _ _ _=>D id
 | .mp id=>D id
 | .fn _ l=>X26 D l
 | .bf _ l=>X26 D l
def X26 (D:Nat->Prop):List PV->Prop
 | []=>True
 | p :: l=>p.inn D/\X26 D l
def XG (D:Nat->Prop):List (List PV)->Prop
 | []=>True
 | p :: l=>X26 D p/\XG D l
end
abbrev PV.pure (p:PV):Prop:=p.inn (fun _=>False)
abbrev Xe (l:List PV):Prop:=X26 (fun _=>False) l
abbrev X2 (l:List (List PV)):Prop:=XG (fun _=>False) l
theorem Z3L (D:Nat->Prop) (l:List PV):X26 D l↔∀ p∈l,p.inn D:=by
 induction l with
 | nil=>simp [X26]
 | cons a l ih=>simp [X26,ih]
theorem Z25 (D:Nat->Prop) (l:List (List PV)):XG D l↔∀ p∈l,X26 D p:=by
 induction l with
 | nil=>simp [XG]
 | cons a l ih=>simp [XG,ih]
theorem ZW {D:Nat->Prop} {l:List PV} (h:X26 D l) (i:Nat):(l.getD i pvu).inn D:=by
 rw [Y0b];cases hi:l[i]? with
 | none=>simp [pvu,PV.inn]
 | some p=>exact (Z3L D l).1 h p (Y2M hi)
theorem Z5d {D:Nat->Prop} {l:List (List PV)} (h:XG D l) (i:Nat):X26 D (l.getD i []):=by
 rw [Y0b];cases hi:l[i]? with
 | none=>simp [X26]
 | some p=>exact (Z25 D l).1 h p (Y2M hi)
theorem Rep.inn {F:XC} {φ φ':XE} {D:Nat->Prop} (hφ:∀ i x,D i->φ i=some x->φ' i=some x) {v:Value} {p:PV} (h:Rep F φ v p):p.inn D->Rep F φ' v p:=by
 induction h with
 | val v=>exact fun _=>.val v
 | agg vs l hl h1 _ ih=>exact fun hp=>.agg vs l hl h1 fun i hi=>ih i hi (ZW (by simpa [PV.inn] using hp) i)
 | tup vs l hl _ ih=>exact fun hp=>.tup vs l hl fun i hi=>ih i hi (ZW (by simpa [PV.inn] using hp) i)
 | vecnil full=>exact fun _=>.vecnil full
 | vec a cap esz l full cs hs hcap hfull hmax he hC _ ih =>
   exact fun hp=>.vec a cap esz l full cs hs hcap hfull hmax he hC fun i j hi hj=>ih i j hi hj (ZW (Z5d (by simpa [PV.inn] using hp) i) j)
 | cp a l cs hs hC _ ih=>exact fun hp=>.cp a l cs hs hC fun j hj=>ih j hj (ZW (by simpa [PV.inn] using hp) j)
 | ptr id i off loc a h hz hb hs=>exact fun hp=>.ptr id i off loc a (hφ _ _ (by simpa [PV.inn] using hp) h) hz hb hs
 | own id loc h hz=>exact fun hp=>.own id loc (hφ _ _ (by simpa [PV.inn] using hp) h) hz
 | view id lo len loc b h hz hl hb=>exact fun hp=>.view id lo len loc b (hφ _ _ (by simpa [PV.inn] using hp) h) hz hl hb
 | sl id i off len cap loc a h hz hb hs hl=>exact fun hp=>.sl id i off len cap loc a (hφ _ _ (by simpa [PV.inn] using hp) h) hz hb hs hl
 | mp id loc a h hz hb=>exact fun hp=>.mp id loc a (hφ _ _ (by simpa [PV.inn] using hp) h) hz hb
 | fn f vs l hl _ ih=>exact fun hp=>.fn f vs l hl fun i hi=>ih i hi (ZW (by simpa [PV.inn] using hp) i)
 | bf f vs l hl _ ih=>exact fun hp=>.bf f vs l hl fun i hi=>ih i hi (ZW (by simpa [PV.inn] using hp) i)
theorem Rep.pure {F:XC} {φ φ':XE} {v:Value} {p:PV} (h:Rep F φ v p) (hp:p.pure):Rep F φ' v p:=h.inn (fun _ _ hf=>hf.elim) hp
mutual
theorem PV.inn_mono {D D':Nat->Prop} (hD:∀ i,D i->D' i):∀ (p:PV),p.inn D->p.inn D'
 | .val _,_=>by simp [PV.inn]
 | .agg l,h=>by simp only [PV.inn] at h ⊢; exact ZC hD l h
 | .tup l,h=>by simp only [PV.inn] at h ⊢; exact ZC hD l h
 | .vec l _,h=>by simp only [PV.inn] at h ⊢; exact Zc hD l h
 | .cp l,h=>by simp only [PV.inn] at h ⊢; exact ZC hD l h
 | .ptr id _ _,h=>by simp only [PV.inn] at h ⊢; exact hD _ h
 | .own id,h=>by simp only [PV.inn] at h ⊢; exact hD _ h
 | .view id _ _,h=>by simp only [PV.inn] at h ⊢; exact hD _ h
 | .sl id _ _ _ _,h=>by simp only [PV.inn] at h ⊢; exact hD _ h
 | .mp id,h=>by simp only [PV.inn] at h ⊢; exact hD _ h
 | .fn _ l,h=>by simp only [PV.inn] at h ⊢; exact ZC hD l h
 | .bf _ l,h=>by simp only [PV.inn] at h ⊢; exact ZC hD l h
theorem ZC {D D':Nat->Prop} (hD:∀ i,D i->D' i):∀ (l:List PV),X26 D l->X26 D' l
 | [],_=>by simp [X26]
 | p :: l,h=>by simp only [X26] at h ⊢; exact⟨PV.inn_mono hD p h.1,ZC hD l h.2⟩
theorem Zc {D D':Nat->Prop} (hD:∀ i,D i->D' i):∀ (l:List (List PV)),XG D l->XG D' l
 | [],_=>by simp [XG]
 | p :: l,h=>by simp only [XG] at h ⊢; exact⟨ZC hD p h.1,Zc hD l h.2⟩
end
theorem PV.pure.inn {p:PV} (h:p.pure) (D:Nat->Prop):p.inn D:=PV.inn_mono (fun _ h=>h.elim) p h
mutual
def PV.low:PV->PV
 | .val v=>.val v
 | .agg l=>.agg (X1h l)
 | .tup l=>.tup (X1h l)
 | .vec l _=>.vec (X13 l) false
 | .cp l=>.cp (X1h l)
 | .ptr id i off=>.ptr id i off
 | .own id=>.own id
 | .view id lo len=>.view id lo len
 | .sl id i off len cap=>.sl id i off len cap
 | .mp id=>.mp id
 | .fn f l=>.fn f (X1h l)
 | .bf f l=>.bf f (X1h l)
def X1h:List PV->List PV
 | [] => []
 | p :: l=>p.low :: X1h l
def X13:List (List PV)->List (List PV)
 | [] => []
 | p :: l=>X1h p :: X13 l
end
theorem Zfc (l:List PV):X1h l=l.map PV.low:=by
 induction l with
 | nil=>rfl
 | cons a l ih=>simp [X1h,ih]
theorem Z35 (l:List (List PV)):X13 l=l.map X1h:=by
 induction l with
 | nil=>rfl
 | cons a l ih=>simp [X13,ih]
theorem Z2t (l:List PV) (i:Nat):(X1h l).getD i pvu=(l.getD i pvu).low:=by
 rw [Zfc];simp only [Y0b,Y0y];cases l[i]?<;>simp [pvu,PV.low]
theorem Z7n (l:List (List PV)) (i:Nat):(X13 l).getD i []=X1h (l.getD i []):=by
 rw [Z35];simp only [Y0b,Y0y];cases l[i]?<;>simp [X1h]
theorem ZM (l:List PV):(X1h l).length=l.length:=by simp [Zfc]
theorem Z1I (l:List (List PV)):(X13 l).length=l.length:=by simp [Z35]
theorem Rep.low {F:XC} {φ:XE} {v:Value} {p:PV} (h:Rep F φ v p):Rep F φ v p.low:=by
 induction h with
 | val v=>simp only [PV.low]; exact .val v
 | agg vs l hl h1 _ ih=>simp only [PV.low]; exact .agg vs _ (by rw [ZM]; exact hl) (by rw [ZM]; exact h1) fun i hi=>by rw [Z2t]; exact ih i (by rwa [ZM] at hi)
 | tup vs l hl _ ih=>simp only [PV.low]; exact .tup vs _ (by rw [ZM]; exact hl) fun i hi=>by rw [Z2t]; exact ih i (by rwa [ZM] at hi)
 | vecnil full=>simp only [PV.low,X13]; exact .vecnil false
 | vec a cap esz l full cs hs hcap hfull hmax he hC _ ih =>
   simp only [PV.low];have:=Rep.vec (F:=F) (φ:=φ) a cap esz (X13 l) false cs (fun h=>hs (by rintro rfl; exact h (by simp [X13]))) (by rw [Z1I]; exact hcap) (by simp) (by rw [Z1I]; exact hmax)
    (fun i hi=>by rw [Z7n,ZM]; exact he i (by rwa [Z1I] at hi)) (fun i j hi hj=>hC i j (by rwa [Z1I] at hi) hj)
    (fun i j hi hj=>by rw [Z7n,Z2t]; exact ih i j (by rwa [Z1I] at hi) hj)
   rwa [Z1I] at this
 | cp a l cs hs hC _ ih =>
   simp only [PV.low];exact .cp a _ cs hs (fun j hj=>hC j (by rwa [ZM] at hj)) (fun j hj=>by rw [Z2t]; exact ih j (by rwa [ZM] at hj))
 | ptr id i off loc a h hz hb hs=>simp only [PV.low]; exact .ptr id i off loc a h hz hb hs
 | own id loc h hz=>simp only [PV.low]; exact .own id loc h hz
 | view id lo len loc b h hz hl hb=>simp only [PV.low]; exact .view id lo len loc b h hz hl hb
 | sl id i off len cap loc a h hz hb hs hl=>simp only [PV.low]; exact .sl id i off len cap loc a h hz hb hs hl
 | mp id loc a h hz hb=>simp only [PV.low]; exact .mp id loc a h hz hb
 | fn f vs l hl _ ih=>simp only [PV.low]; exact .fn f vs _ (by rw [ZM]; exact hl) fun i hi=>by rw [Z2t]; exact ih i (by rwa [ZM] at hi)
 | bf f vs l hl _ ih=>simp only [PV.low]; exact .bf f vs _ (by rw [ZM]; exact hl) fun i hi=>by rw [Z2t]; exact ih i (by rwa [ZM] at hi)
abbrev Env:=Nat->Option PV
abbrev X0:=Nat->Option Bx
def Env.upd (e:Env) (k:Nat) (p:PV):Env:=fun j=>bif Nat.beq j k then some p else e j
def X0.upd (h:X0) (k:Nat) (b:Bx):X0:=fun j=>bif Nat.beq j k then some b else h j
theorem Env.upd_same (e:Env) (k:Nat) (p:PV):e.upd k p k=some p:=by simp [Env.upd]
theorem Env.upd_ne (e:Env) {k j:Nat} (p:PV) (h:j≠k):e.upd k p j=e j:=by
 have:Nat.beq j k=false:=YK.2 fun hb=>h (Yw hb);simp [Env.upd,this]
theorem X0.upd_same (e:X0) (k:Nat) (p:Bx):e.upd k p k=some p:=by simp [X0.upd]
theorem X0.upd_ne (e:X0) {k j:Nat} (p:Bx) (h:j≠k):e.upd k p j=e j:=by
 have:Nat.beq j k=false:=YK.2 fun hb=>h (Yw hb);simp [X0.upd,this]
structure X4b (F:XC) (φ:XE) (w:World) (loc:Loc) (b:Bx):Prop where
 esz:b.esz=loc.esz
 pos:0<loc.esz
 len:b.elems.length=loc.len
 cap:loc.len<=loc.cap
 max:loc.len<=Xd
 el:∀ c∈b.elems,c.length=loc.esz
 room:loc.cap≠0->∃ a,loc.base=some a/\a.spot=none/\∃ cells t,w.heap[a.block]?=some (.cells cells t (0,0))/\a.off+loc.cap*loc.esz<=cells.size /\
  ∀ i j,i<loc.len->j<loc.esz->(cells.getD (a.off+(i*loc.esz+j)) undef).oneCell'=true/\Rep F φ (cells.getD (a.off+(i*loc.esz+j)) undef) ((b.elems.getD i []).getD j pvu)
def XI (F:XC) (φ:XE):List MapEntry->List (List PV)->Prop
 | [],[]=>True
 | m :: es,r :: rs=>(∃ k v,r = [k,v]/\Rep F φ m.key k/\Rep F φ m.val v)/\XI F φ es rs
 | _,_=>False
structure X3j (F:XC) (φ:XE) (w:World) (loc:Loc) (b:Bx):Prop where
 esz:b.esz=0
 pos:loc.esz=0
 cap:loc.cap≠0
 room:∃ a,loc.base=some a/\∃ (es:Array MapEntry) (t:Nat),w.heap[a.block]?=some (.map es t)/\XI F φ es.toList b.elems
def X2n (F:XC) (φ:XE) (w:World) (loc:Loc) (b:Bx):Prop:=X4b F φ w loc b \/ X3j F φ w loc b
theorem X2n.cells {F:XC} {φ:XE} {w:World} {loc:Loc} {b:Bx} (h:X2n F φ w loc b) (hz:0<loc.esz):X4b F φ w loc b:=by
 rcases h with h|h
 . exact h
 . have:=h.pos; omega
theorem X2n.cellsB {F:XC} {φ:XE} {w:World} {loc:Loc} {b:Bx} (h:X2n F φ w loc b) (hz:0<b.esz):X4b F φ w loc b:=by
 rcases h with h|h
 . exact h
 . have:=h.esz; omega
theorem X2n.rows {F:XC} {φ:XE} {w:World} {loc:Loc} {b:Bx} (h:X2n F φ w loc b) (hz:loc.esz=0):X3j F φ w loc b:=by
 rcases h with h|h
 . have:=h.pos; omega
 . exact h
def Loc.has (loc:Loc) (k:Nat):Prop:=loc.cap≠0/\∃ a,loc.base=some a/\a.block=k
structure Ctx where
 w0:World
 G:Nat->Prop
 F0:XC
 nt:Nat
 φ0:XE:=fun _=>none
structure X2f (B:Nat) (a:Act) (w:World):Prop where
 nd:a.defers.Nodup
 all:∀ d∈a.defers,∃ D,d={ target:=.collected D,args := #[] }/\B<=D/\w.heap[D]?=some (.deferred (some []))
theorem X2f.mono {B:Nat} {a:Act} {w w':World} (h:X2f B a w) (hh:∀ k:Nat,w.heap[k]?=some (Obj.deferred (some []))->w'.heap[k]?=some (Obj.deferred (some []))):X2f B a w' :=
 ⟨h.nd,fun d hd=>let ⟨D,h1,h2,h3⟩:=h.all d hd; ⟨D,h1,h2,hh D h3⟩⟩
theorem X2f.nil {B:Nat} {a:Act} {w:World} (h:a.defers = []):X2f B a w:=⟨by rw [h]; exact Y36,fun d hd=>by rw [h] at hd; cases hd⟩
structure St' (C:Ctx) (Fr:Nat->Prop) (e:Env) (h:X0) (F:XC) (φ:XE) (a:Act) (w:World):Prop where
 nt:a.tmps.size=C.nt
 marks:X2f C.w0.heap.size a w
 glob:∀ (g j:Nat) (v:Value),(X3t g)[j]?=some v->F ⟨g,j,none⟩=some v
 free:∀ id,Fr id->φ id=none
 env:∀ k p,e k=some p->k<C.nt/\Rep F φ (a.tmps.getD k undef) p
 froz:∀ x v,F x=some v->x.spot=none/\v.oneCell'=true/\w.cell? x=some v
 ext:∀ x v,C.F0 x=some v->F x=some v
 loc0:∀ i x,C.φ0 i=some x->φ i=some x
 old:∀ x,x.block<C.w0.heap.size->¬ C.G x.block->F x=C.F0 x
 os:w.os=C.w0.os
 tape:w.tape=C.w0.tape
 output:w.output=C.w0.output
 size:C.w0.heap.size<=w.heap.size
 kept:∀ k,k<C.w0.heap.size->¬ C.G k->w.heap[k]?=C.w0.heap[k]?
 live:∀ id b,h id=some b->∃ loc,φ id=some loc/\X2n F φ w loc b/\(∀ k,loc.has k->(C.w0.heap.size<=k \/ C.G k)/\∀ x:Addr,x.block=k->F x=none)
 sep:∀ i j bi bj li lj k,h i=some bi->h j=some bj->φ i=some li->φ j=some lj->li.has k->lj.has k->i=j
def St (C:Ctx) (Fr:Nat->Prop) (e:Env) (h:X0) (a:Act) (w:World):Prop:=∃ F φ,St' C Fr e h F φ a w
inductive BC where
 | num|bool|ptr|cells (ks:List Nat)
 deriving DecidableEq,Repr
inductive KC where
 | one (k:Nat)|agg (ks:List Nat)
 deriving DecidableEq,Repr
inductive AOp where
 | mov (x:Operand)
 | pick (c a b:Operand)
 | bin (op:BinOp) (c:BC) (x y:Operand)
 | una (op:UnOp) (x:Operand)
 | conv (k:IntKind) (x:Operand)
 | b2s (x:Operand)
 | s2b (x:Operand)
 | alloc (zero:List Value)
 | box (x:Operand)
 | build (zero:List Value) (parts:List (Nat×Nat×Operand))
 | bslice (zero:List Value) (len:Nat) (parts:List (Nat×Operand))
 | load (agg:Bool) (size:Nat) (a:Operand)
 | store (size:Nat) (a v:Operand)
 | nilck (x:Operand)
 | faddr (off:Nat) (x:Operand)
 | field (agg:Bool) (size off:Nat) (x:Operand)
 | iaddr (esz:Nat) (x i:Operand)
 | iaddrA (n esz:Nat) (x i:Operand)
 | indexA (agg:Bool) (n esz:Nat) (x i:Operand)
 | indexS (x i:Operand)
 | mslice (zero:List Value) (bytes:Nat) (len cap:Operand)
 | slc (esz:Nat) (x:Operand) (lo hi mx:Option Operand)
 | len (x:Operand)
 | lenS (x:Operand)
 | lenA (n:Nat)
 | append (zero:List Value) (bytes:Nat) (s x:Operand)
 | copy (esz:Nat) (d s:Operand)
 | clear (zero:List Value) (x:Operand)
 | isnil (neg:Bool) (x:Operand)
 | isnilM (neg:Bool) (x:Operand)
 | slcS (x:Operand) (lo hi:Option Operand)
 | slcA (n:Nat) (x:Operand) (lo hi:Option Operand)
 | mkmap
 | lookup (c:KC) (agg:Bool) (zero:List Value) (ok:Bool) (m k:Operand)
 | mapset (c:KC) (m k v:Operand)
 | lenM (x:Operand)
 | mx (x y:Operand)
 | mn (x y:Operand)
 | cap (x:Operand)
 | appz (zero:List Value) (bytes:Nat) (s n:Operand)
 | mkfn (f:FuncId) (caps:List Operand)
 | mkbf (f:FuncId) (first:List Operand)
 | extract (x:Operand) (i:Nat)
 | call (f:Operand) (args:List Operand)
structure Xm where
 dst:Option Nat
 op:AOp
 guard:Option (Nat×Bool)
def X6n:TypeDesc->Bool
 | .struct _=>true
 | .array _ _=>true
 | _=>false
def XY (P:Program) (t:TypeId):Option (Bool×Nat) :=
 match P.underlying t,P.info? t with
 | some d, some i => match X6n d with
   | true=>some (true,i.size)
   | false=>if i.size=1 then some (false,1) else none
 | _,_=>none
def XJ (P:Program) (t:TypeId):Option (List Value) :=
 match P.info? t with
 | some i => match i.zero with
   | some z=>if z.cells.toList.all (·.oneCell')&&z.cells.size == i.size&&0<i.size then some z.cells.toList else none
   | none=>none
 | none=>none
def X2w (P:Program) (fs:Array Field):List (Nat×Operand)->Option (List (Nat×Nat×Operand))
 | []=>some []
 | (i, x) :: r => match fs[i]? with
   | some f => match P.info? f.type, X2w P fs r with
     | some inf,some l=>some ((f.offset,inf.size,x) :: l)
     | _,_=>none
   | none=>none
def XX (P:Program) (t:TypeId):Option Nat:=match P.underlying t with|some (.int _)=>some 0|some .bool=>some 1|some .string=>some 2|_=>none
def X2H (P:Program):List Field->Nat->Option (List Nat)
 | [],_=>some []
 | f :: r, i => match XX P f.type, X2H P r (i + 1) with
   | some k,some l => if f.name != "_" && decide (XY P f.type = some (false,1)) && f.offset == i then some (k :: l) else none
   | _,_=>none
def X2C (P:Program) (t:TypeId):Option (List Nat) :=
 if P.eqGuardType P.depth t then none else
 match P.underlying t with
 | some (.struct fs)=>if P.stoodInHeld t then none else X2H P fs.toList 0
 | some (.array n e) => match XX P e with
   | some k=>if decide (XY P e=some (false,1)) then some (List.replicate n k) else none
   | none=>none
 | _=>none
def X5m (P:Program) (t:TypeId):Option (Bool×List Nat):=match XX P t with
 | some k=>some (false,[k])
 | none => match X2C P t with
   | some ks=>some (true,ks)
   | none=>none
def X3m (P:Program):List Field->Nat->Option (List Nat)
 | [],_=>some []
 | f :: r, i => match X5m P f.type with
   | some (g, ks) => match X3m P r (i + ks.length) with
     | some l => if f.name != "_" && decide (XY P f.type = some (g,ks.length)) && f.offset == i then some (ks ++ l) else none
     | none=>none
   | none=>none
def eqT (P:Program) (t:TypeId):Option (List Nat):=match X2C P t with
 | some ks=>some ks
 | none => if P.eqGuardType P.depth t then none else
   match P.underlying t with
   | some (.struct fs)=>if P.stoodInHeld t then none else X3m P fs.toList 0
   | _=>none
def X4e (P:Program) (t:TypeId):Option KC :=
 match XX P t with
 | some k=>some (.one k)
 | none=>(X2C P t).map .agg
def X2O (P:Program) (t:TypeId):Option (Bool×List Value) :=
 match P.info? t with
 | some i => match i.zero with
   | some (.agg cs)=>if cs.toList.all (·.oneCell') then some (true,cs.toList) else none
   | some v=>if v.oneCell' then some (false,[v]) else none
   | none=>none
 | none=>none
def X7g:Operand->Bool
 | .const (.map none)=>true
 | _=>false
def X6P:Operand->Bool
 | .const (.slice none 0 0)=>true
 | _=>false
def cOp (P:Program) (o:Oper):Option AOp :=
 match o.op with
 | .move x=>some (.mov x)
 | .assign x=>some (.mov x)
 | .pick c a b=>some (.pick c a b)
 | .binOp op t x y _ => match P.underlying t with
   | some (.int _)=>some (.bin op .num x y)
   | some .string=>some (.bin op .num x y)
   | some .bool=>some (.bin op .bool x y)
   | some (.pointer _)=>some (.bin op .ptr x y)
   | some (.struct _) => match eqT P t with
     | some ks => match op with
       | .eql=>some (.bin .eql (.cells ks) x y)
       | .neq=>some (.bin .neq (.cells ks) x y)
       | _=>none
     | none=>none
   | some (.array _ _) => match eqT P t with
     | some ks => match op with
       | .eql=>some (.bin .eql (.cells ks) x y)
       | .neq=>some (.bin .neq (.cells ks) x y)
       | _=>none
     | none=>none
   | some (.slice _) => if X6P y then (match op with
      | .eql=>some (.isnil false x)
      | .neq=>some (.isnil true x)
      | _=>none) else none
   | some (.map _ _) => if X7g y then (match op with
      | .eql=>some (.isnilM false x)
      | .neq=>some (.isnilM true x)
      | _=>none) else none
   | _=>none
 | .unOp op _ x=>some (.una op x)
 | .convert src dst x => match P.underlying src, P.underlying dst with
   | some (.int _),some (.int k)=>some (.conv k x)
   | some (.slice el), some .string => match P.underlying el with
     | some (.int .u8)=>some (.b2s x)
     | _=>none
   | some .string, some (.slice el) => match P.underlying el with
     | some (.int .u8)=>some (.s2b x)
     | _=>none
   | _,_=>none
 | .alloc t=>(XJ P t).map .alloc
 | .box t x=>some (.box x)
 | .build t parts => match XJ P t, P.underlying t with
   | some z,some (.struct fs)=>if fs.toList.all (fun f=>(P.info? f.type).isSome) then (X2w P fs parts.toList).map (.build z) else none
   | some z, some (.array _ e) => match P.info? e with
     | some i=>some (.build z (parts.toList.map fun (k,x)=>(k*i.size,i.size,x)))
     | none=>none
   | _,_=>none
 | .buildSlice t len parts => match P.underlying t with
   | some (.slice e) => match XJ P e with
     | some z=>if len*z.length<=16777216 then some (.bslice z len parts.toList) else none
     | none=>none
   | _=>none
 | .load t a=>(XY P t).map fun l=>.load l.1 l.2 a
 | .store t a v=>(XY P t).map fun l=>.store l.2 a v
 | .nilCheck x=>some (.nilck x)
 | .fieldAddr t x i => match P.underlying t with
   | some (.struct fs) => match fs[i]? with
     | some f => match P.info? f.type with
       | some inf=>if 0<inf.size then some (.faddr f.offset x) else none
       | none=>none
     | none=>none
   | _=>none
 | .field t x i => match P.underlying t with
   | some (.struct fs) => match fs[i]? with
     | some f=>(XY P f.type).map fun l=>.field l.1 l.2 f.offset x
     | none=>none
   | _=>none
 | .indexAddr t x i => match P.underlying t with
   | some (.slice e)=>(P.info? e).map fun inf=>.iaddr inf.size x i
   | some (.array n e)=>(P.info? e).map fun inf=>.iaddrA n inf.size x i
   | _=>none
 | .index t x i => match P.underlying t with
   | some (.array n e)=>(XY P e).map fun l=>.indexA l.1 n l.2 x i
   | some .string=>some (.indexS x i)
   | _=>none
 | .makeSlice t l c => match P.underlying t with
   | some (.slice e) => match XJ P e, P.info? e with
     | some z,some i=>if 0<i.bytes then some (.mslice z i.bytes l c) else none
     | _,_=>none
   | _=>none
 | .slice t x lo hi mx => match P.underlying t with
   | some (.slice e)=>(P.info? e).map fun inf=>.slc inf.size x lo hi mx
   | some .string=>if mx.isNone then some (.slcS x lo hi) else none
   | some (.array n el) => match P.info? el with
     | some inf=>if mx.isNone=true/\inf.size=1/\n<=1048576 then some (.slcA n x lo hi) else none
     | none=>none
   | _=>none
 | .makeMap t none => match P.underlying t with
   | some (.map _ _)=>some .mkmap
   | _=>none
 | .lookup t x i ok => match P.underlying t with
   | some (.map k el) => match X4e P k, X2O P el with
     | some c,some z=>some (.lookup c z.1 z.2 ok x i)
     | _,_=>none
   | _=>none
 | .mapUpdate t x i v => match P.underlying t with
   | some (.map k _) => match X4e P k with
     | some c=>some (.mapset c x i v)
     | none=>none
   | _=>none
 | .makeFunc (.func f) first caps=>if first.isEmpty then some (.mkfn f caps.toList) else if caps.isEmpty then some (.mkbf f first.toList) else none
 | .extract x i=>some (.extract x i)
 | .call c => match c.callee with
   | .value f=>some (.call f c.args.toList)
   | .builtin .len => match c.argTypes.toList, c.args.toList with
     | [t], [x] => match P.underlying t with
       | some (.slice _)=>some (.len x)
       | some .string=>some (.lenS x)
       | some (.map _ _)=>some (.lenM x)
       | some (.array n _)=>some (.lenA n)
       | some (.pointer t') => match P.underlying t' with
         | some (.array n _)=>some (.lenA n)
         | _=>none
       | _=>none
     | _,_=>none
   | .builtin .append => match c.argTypes.toList, c.args.toList with
     | [t, u], [s, x] => match P.underlying t, P.underlying u with
       | some (.slice e), some (.slice _) => match XJ P e, P.info? e with
         | some z,some i=>if 0<i.bytes then some (.append z i.bytes s x) else none
         | _,_=>none
       | some (.slice e), some (.int _) => match XJ P e, P.info? e with
         | some z,some i=>if 0<i.bytes then some (.appz z i.bytes s x) else none
         | _,_=>none
       | _,_=>none
     | _,_=>none
   | .builtin .max => match c.args.toList with
     | [x,y]=>some (.mx x y)
     | _=>none
   | .builtin .copy => match c.argTypes.toList, c.args.toList with
     | [t, u], [d, s] => match P.underlying t, P.underlying u with
       | some (.slice e), some (.slice _) => match P.info? e with
         | some i=>some (.copy i.size d s)
         | none=>none
       | _,_=>none
     | _,_=>none
   | .builtin .clear => match c.argTypes.toList, c.args.toList with
     | [t], [x] => match P.underlying t with
       | some (.slice e)=>(XJ P e).map fun z=>.clear z x
       | _=>none
     | _,_=>none
   | .builtin .min => match c.args.toList with
     | [x,y]=>some (.mn x y)
     | _=>none
   | .builtin .cap => match c.argTypes.toList, c.args.toList with
     | [t], [x] => match P.underlying t with
       | some (.slice _)=>some (.cap x)
       | _=>none
     | _,_=>none
   | _=>none
 | .insert t x i v => match P.underlying t with
   | some (.map k _) => match X4e P k with
     | some c=>some (.mapset c x i v)
     | none=>none
   | _=>none
 | _=>none
def X3o (ops:Array Oper):Option (Nat×Bool)->Option (Option (Nat×Bool))
 | none=>some none
 | some (j, b) => match ops[j]? with
   | some o => match o.dst with
     | some d=>some (some (d,b))
     | none=>none
   | none=>none
def X2I (nt:Nat):Option Nat->Bool
 | none=>true
 | some d=>d<nt
def X28 (P:Program) (nt:Nat) (ops:Array Oper) (o:Oper):Option Xm :=
 match cOp P o,X3o ops o.guard with
 | some a,some g=>if X2I nt o.dst then some ⟨o.dst,a,g⟩ else none
 | _,_=>none
def Xw (P:Program) (nt:Nat) (ops:Array Oper):List Oper->Option (List Xm)
 | []=>some []
 | o :: r => match X28 P nt ops o, Xw P nt ops r with
   | some a,some l=>some (a :: l)
   | _,_=>none
def X2p:Value->PV
 | .slice none 0 0=>.vec [] true
 | v=>.val v
def zpv (l:List Value):List PV:=l.map X2p
def ev (e:Env):Operand->Option PV
 | .tmp t=>e t
 | .const v=>some (X2p v)
 | .func f=>some (.fn f [])
 | .global g => match X3t g with
   | []=>some (.val (.pointer (some ⟨g,0,none⟩)))
   | v :: l=>some (.cp (zpv (v :: l)))
def evs (e:Env):List Operand->Option (List PV)
 | []=>some []
 | x :: r => match ev e x, evs e r with
   | some p,some l=>some (p :: l)
   | _,_=>none
def PV.cells:PV->List PV
 | .agg l=>l
 | p => [p]
def PV.one:PV->Bool
 | .val v=>v.oneCell'
 | .agg _ | .tup _=>false
 | _=>true
def PV.flat:PV->Bool
 | .agg _=>true
 | p=>p.one
def X3R (op:BinOp):Value->Value->Option Value
 | .int k a, .int k' b => match op with
   | .shl=>if 0<=b then some (.int k (k.wrap (a*2 ^ (min b.toNat k.bits)))) else none
   | .shr=>if 0<=b then some (.int k (a.fdiv (2 ^ (min b.toNat k.bits)))) else none
   | .add=>if k=k' then some (.int k (k.wrap (a+b))) else none
   | .sub=>if k=k' then some (.int k (k.wrap (a-b))) else none
   | .mul=>if k=k' then some (.int k (k.wrap (a*b))) else none
   | .quo=>if k=k' then (if b=0 then none else some (.int k (k.wrap (a.tdiv b)))) else none
   | .rem=>if k=k' then (if b=0 then none else some (.int k (a.tmod b))) else none
   | .and=>if k=k' then some (.int k (bits .and k a b)) else none
   | .or=>if k=k' then some (.int k (bits .or k a b)) else none
   | .xor=>if k=k' then some (.int k (bits .xor k a b)) else none
   | .andNot=>if k=k' then some (.int k (bits .andNot k a b)) else none
   | .eql=>if k=k' then some (.bool (a == b)) else none
   | .neq=>if k=k' then some (.bool (a != b)) else none
   | .lss=>if k=k' then some (.bool (decide (a<b))) else none
   | .leq=>if k=k' then some (.bool (decide (a<=b))) else none
   | .gtr=>if k=k' then some (.bool (decide (a>b))) else none
   | .geq=>if k=k' then some (.bool (decide (a≥b))) else none
 | .string a, .string b => match op with
   | .eql=>some (.bool (a.toList == b.toList))
   | .neq=>some (.bool (!(a.toList == b.toList)))
   | .lss=>some (.bool (Op.bytesLess a.toList b.toList))
   | .leq=>some (.bool (Op.bytesLess a.toList b.toList||a.toList == b.toList))
   | .gtr=>some (.bool (!(Op.bytesLess a.toList b.toList||a.toList == b.toList)))
   | .geq=>some (.bool (!(Op.bytesLess a.toList b.toList)))
   | .add=>if a.size+b.size<=9223372036854775807 then some (.string (a++b)) else none
   | _=>none
 | _,_=>none
def X1z (k:Nat):PV->PV->Option Bool
 | .val (.int i a),.val (.int j b)=>if k=0/\i=j then some (a == b) else none
 | .val (.bool a),.val (.bool b)=>if k=1 then some (a == b) else none
 | .val (.string a),.val (.string b)=>if k=2 then some (a == b) else none
 | _,_=>none
def Xa:List Nat->List PV->List PV->Option Bool
 | [],[],[]=>some true
 | k :: ks, a :: l, b :: m => match X1z k a b, Xa ks l m with
   | some x,some y=>some (x&&y)
   | _,_=>none
 | _,_,_=>none
def X2t (c:KC) (p q:PV):Option Bool :=
 match c with
 | .agg ks => match p, q with
   | .agg l,.agg m=>Xa ks l m
   | _,_=>none
 | .one k=>X1z k p q
def XT (c:KC) (k:PV):List (List PV)->Option (Option Nat)
 | []=>some none
 | row :: r => match X2t c k (row.getD 0 pvu) with
   | some true=>some (some 0)
   | some false => match XT c k r with
     | some (some j)=>some (some (j+1))
     | some none=>some none
     | none=>none
   | none=>none
def X4S (agg:Bool) (z:List Value):PV:=match agg with|true=>.agg (zpv z)|false=>(zpv z).getD 0 pvu
def PV.isNil:PV->Option Bool
 | .val (.pointer none)=>some true
 | .cp _=>some false
 | .ptr _ _ _=>some false
 | _=>none
def X3T (op:BinOp) (c:BC) (p q:PV):Option PV :=
 match c with
 | .num => match p, q with
   | .val a,.val b=>(X3R op a b).map .val
   | _,_=>none
 | .bool => match p, q with
   | .val (.bool a), .val (.bool b) => match op with
     | .eql=>some (.val (.bool (a == b)))
     | .neq=>some (.val (.bool (!(a == b))))
     | _=>none
   | _,_=>none
 | .ptr => match op with
   | .eql => match p.isNil, q with
     | some b,.val (.pointer none)=>some (.val (.bool b))
     | _,_=>none
   | .neq => match p.isNil, q with
     | some b,.val (.pointer none)=>some (.val (.bool (!b)))
     | _,_=>none
   | _=>none
 | .cells ks => match p, q with
   | .agg l, .agg m => match Xa ks l m with
     | some b => (match op with
       | .eql=>some (.val (.bool b))
       | .neq=>some (.val (.bool (!b)))
       | _=>none)
     | none=>none
   | _,_=>none
def X6j (op:UnOp):PV->Option PV
 | .val (.int k n) => match op with
   | .neg=>some (.val (.int k (k.wrap (0-n))))
   | .xor=>some (.val (.int k (bits .xor k (if k.signed then -1 else k.max) n)))
   | _=>none
 | .val (.bool b) => match op with
   | .not=>some (.val (.bool (!b)))
   | _=>none
 | _=>none
def X1t (agg:Bool) (size off:Nat) (l:List PV):Option PV :=
 if off+size<=l.length then
  (match agg with
   | true=>some (.agg ((l.drop off).take size))
   | false => match l.drop off with
     | p :: _=>some p
     | []=>none)
 else none
def X2s (s:ByteArray):List (List PV):=s.data.toList.map fun b => [PV.val (.int .u8 (b.toNat:Int))]
def XK (l:List PV) (off:Nat) (cs:List PV):List PV:=l.take off++cs++l.drop (off+cs.length)
def X1P (e:Env):List PV->List (Nat×Nat×Operand)->Option (List PV)
 | l,[]=>some l
 | l, (off, size, x) :: r => match ev e x with
   | some p=>if p.flat&&p.cells.length == size&&decide (off+size<=l.length) then X1P e (XK l off p.cells) r else none
   | none=>none
def X1A (e:Env) (size:Nat):List (List PV)->List (Nat×Operand)->Option (List (List PV))
 | l,[]=>some l
 | l, (i, x) :: r => match ev e x with
   | some p=>if p.flat&&p.cells.length == size&&decide (i<l.length) then X1A e size (l.set i p.cells) r else none
   | none=>none
def X1T:Option PV->Option Int
 | some (.val (.int _ n))=>some n
 | _=>none
def XD (e:Env) (d:Int):Option Operand->Option Int
 | none=>some d
 | some x=>X1T (ev e x)
def X3y:List (List PV)->Option (List Int)
 | []=>some []
 | [.val (.int .u8 n)] :: r => match X3y r with
   | some l=>some (n :: l)
   | none=>none
 | _=>none
def X1 (op:AOp) (e:Env) (h:X0) (id:Nat):Option (PV×X0) :=
 match op with
 | .mov x => match ev e x with
   | some p=>some (p,h)
   | none=>none
 | .pick c a b => match ev e c with
   | some (.val (.bool true)) => match ev e a with
     | some p=>some (p,h)
     | none=>none
   | some (.val (.bool false)) => match ev e b with
     | some p=>some (p,h)
     | none=>none
   | _=>none
 | .bin op c x y => match ev e x, ev e y with
   | some p, some q => match X3T op c p q with
     | some r=>some (r,h)
     | none=>none
   | _,_=>none
 | .una op x => match ev e x with
   | some p => match X6j op p with
     | some r=>some (r,h)
     | none=>none
   | none=>none
 | .conv k x => match ev e x with
   | some (.val (.int _ n))=>some (.val (.int k (k.wrap n)),h)
   | _=>none
 | .b2s x => match ev e x with
   | some (.vec l _) => match X3y l with
     | some ns=>some (.val (.string (strOfNums ns)),h)
     | none=>none
   | _=>none
 | .s2b x => match ev e x with
   | some (.val (.string s))=>if s.size<=281474976710656 then some (.vec (X2s s) false,h) else none
   | _=>none
 | .alloc z=>some (.ptr id 0 0,h.upd id ⟨z.length,[zpv z]⟩)
 | .box x => match ev e x with
   | some p=>if p.flat&&decide (0<p.cells.length) then some (.ptr id 0 0,h.upd id ⟨p.cells.length,[p.cells]⟩) else none
   | none=>none
 | .build z ps => match X1P e (zpv z) ps with
   | some l=>some (.agg l,h)
   | none=>none
 | .bslice z n ps => match X1A e z.length (List.replicate n (zpv z)) ps with
   | some l=>some (.vec l true,h)
   | none=>none
 | .load agg size a => match ev e a with
   | some (.cp l) => match X1t agg size 0 l with
     | some p=>some (p,h)
     | none=>none
   | some (.ptr k i off) => match h k with
     | some b => if i < b.elems.length then (match X1t agg size off (b.elems.getD i []) with
       | some p=>some (p,h)
       | none=>none) else none
     | none=>none
   | _=>none
 | .store size a v => match ev e a, ev e v with
   | some (.ptr k i off), some p => match h k with
     | some b => if p.flat && p.cells.length == size && decide (i < b.elems.length) && decide (off + size <= b.esz) then
        some (pvu,h.upd k ⟨b.esz,b.elems.set i (XK (b.elems.getD i []) off p.cells)⟩) else none
     | none=>none
   | _,_=>none
 | .nilck x => match ev e x with
   | some (.cp l)=>some (.cp l,h)
   | some (.ptr k i off)=>some (.ptr k i off,h)
   | some (.fn f l)=>some (.fn f l,h)
   | _=>none
 | .faddr off x => match ev e x with
   | some (.cp l)=>some (.cp (l.drop off),h)
   | some (.ptr k i o)=>some (.ptr k i (o+off),h)
   | _=>none
 | .field agg size off x => match ev e x with
   | some (.agg l) => match X1t agg size off l with
     | some p=>some (p,h)
     | none=>none
   | _=>none
 | .iaddr esz x i => match ev e x, ev e i with
   | some (.vec l _), some (.val (.int _ n)) => if 0 <= n /\ n < (l.length : Int) then
      (if (l.getD n.toNat []).length=esz then some (.cp (l.getD n.toNat []),h) else none) else none
   | some (.own k), some (.val (.int _ n)) => match h k with
     | some b=>if 0<=n/\n<(b.elems.length:Int) then (if b.esz=esz then some (.ptr k n.toNat 0,h) else none) else none
     | none=>none
   | some (.view k lo len), some (.val (.int _ n)) => match h k with
     | some b=>if 0<=n/\n<(len:Int)/\lo+len<=b.elems.length then (if b.esz=esz then some (.ptr k (lo+n.toNat) 0,h) else none) else none
     | none=>none
   | some (.sl k i o len _),some (.val (.int _ n))=>if 0<=n/\n<(len:Int)/\esz=1 then some (.ptr k i (o+n.toNat),h) else none
   | _,_=>none
 | .iaddrA n esz x i => match ev e x, ev e i with
   | some (.cp l),some (.val (.int _ j))=>if 0<=j/\j<(n:Int) then some (.cp (l.drop (j.toNat*esz)),h) else none
   | some (.ptr k i0 o),some (.val (.int _ j))=>if 0<=j/\j<(n:Int) then some (.ptr k i0 (o+j.toNat*esz),h) else none
   | _,_=>none
 | .indexA agg n esz x i => match ev e x, ev e i with
   | some (.agg l), some (.val (.int _ j)) => if 0 <= j /\ j < (n : Int) then (match X1t agg esz (j.toNat * esz) l with
     | some p=>some (p,h)
     | none=>none) else none
   | _,_=>none
 | .indexS x i => match ev e x, ev e i with
   | some (.val (.string s)),some (.val (.int _ j))=>if 0<=j/\j<(s.size:Int) then some (.val (.int .u8 (s.data.toList.getD j.toNat 0).toNat),h) else none
   | _,_=>none
 | .mslice z bytes l c => match X1T (ev e l), X1T (ev e c) with
   | some n, some m => if 0 <= n /\ n <= m /\ (bytes : Int) * m <= 281474976710656 then
      some (.own id,h.upd id ⟨z.length,List.replicate n.toNat (zpv z)⟩) else none
   | _,_=>none
 | .slc esz x lo hi mx => match ev e x with
   | some (.vec l _) => match XD e 0 lo, XD e l.length hi with
     | some a, some b => match mx with
       | none=>if (0<=a/\a<=b/\b<=(l.length:Int))/\∀ c∈l,c.length=esz then some (.vec ((l.take b.toNat).drop a.toNat) false,h) else none
       | some m => match X1T (ev e m), hi with
         | some c,some _=>if (0<=a/\a<=b/\b<=c/\c<=(l.length:Int))/\∀ c∈l,c.length=esz then some (.vec ((l.take b.toNat).drop a.toNat) (b == c),h) else none
         | _,_=>none
     | _,_=>none
   | some (.own k) => match h k with
     | some bx => match XD e 0 lo, XD e bx.elems.length hi with
       | some a, some b => match mx with
         | none => if (0 <= a /\ a <= b /\ b <= (bx.elems.length : Int)) /\ bx.esz = esz then
            some (.own id,fun j=>bif Nat.beq j id then some ⟨bx.esz,(bx.elems.take b.toNat).drop a.toNat⟩ else bif Nat.beq j k then none else h j) else none
         | some _=>none
       | _,_=>none
     | none=>none
   | _=>none
 | .len x => match ev e x with
   | some (.vec l _)=>some (.val (.int .i64 l.length),h)
   | some (.own k) => match h k with
     | some b=>some (.val (.int .i64 b.elems.length),h)
     | none=>none
   | some (.view _ _ n)=>some (.val (.int .i64 n),h)
   | some (.sl _ _ _ n _)=>some (.val (.int .i64 n),h)
   | _=>none
 | .clear z x => match ev e x with
   | some (.view k lo n) => match h k with
     | some b=>if lo+n<=b.elems.length/\b.esz=z.length then some (.val (.tuple #[]),h.upd k ⟨b.esz,b.elems.take lo++(List.replicate n (zpv z)++b.elems.drop (lo+n))⟩) else none
     | none=>none
   | _=>none
 | .isnil neg x => match ev e x with
   | some (.vec (_ :: _) _)=>some (.val (.bool neg),h)
   | _=>none
 | .isnilM neg x => match ev e x with
   | some (.mp _)=>some (.val (.bool neg),h)
   | some (.val (.map none))=>some (.val (.bool !neg),h)
   | _=>none
 | .slcS x lo hi => match ev e x with
   | some (.val (.string s)) => match XD e 0 lo, XD e s.size hi with
     | some a,some b=>if 0<=a/\a<=b/\b<=(s.size:Int) then some (.val (.string (s.extract a.toNat b.toNat)),h) else none
     | _,_=>none
   | _=>none
 | .slcA n x lo hi => match ev e x with
   | some (.cp l) => match XD e 0 lo, XD e n hi with
     | some a,some b=>if 0<=a/\a<=b/\b<=(n:Int)/\a<(n:Int)/\n<=l.length then some (.vec (((l.take b.toNat).drop a.toNat).map fun c => [c]) false,h) else none
     | _,_=>none
   | some (.ptr k i o) => match XD e 0 lo, XD e n hi with
     | some a,some b=>if 0<=a/\a<=b/\b<=(n:Int)/\a<(n:Int) then some (.sl k i (o+a.toNat) (b.toNat-a.toNat) (n-a.toNat),h) else none
     | _,_=>none
   | _=>none
 | .mkmap=>some (.mp id,h.upd id ⟨0,[]⟩)
 | .lookup c agg z ok m k => match ev e m, ev e k with
   | some (.mp i), some kp => match h i with
     | some b => if b.esz = 0 /\ X2t c kp kp = some true then (match XT c kp b.elems with
       | some (some j) => let v := (b.elems.getD j []).getD 1 pvu
         some (bif ok then .tup [v,.val (.bool true)] else v,h)
       | some none=>some (bif ok then .tup [X4S agg z,.val (.bool false)] else X4S agg z,h)
       | none=>none) else none
     | none=>none
   | _,_=>none
 | .mapset c m k v => match ev e m, ev e k, ev e v with
   | some (.mp i), some kp, some p => match h i with
     | some b => if b.esz = 0 /\ X2t c kp kp = some true then (match XT c kp b.elems with
       | some (some j)=>some (pvu,h.upd i ⟨0,b.elems.set j [kp,p]⟩)
       | some none=>some (pvu,h.upd i ⟨0,b.elems ++ [[kp,p]]⟩)
       | none=>none) else none
     | none=>none
   | _,_,_=>none
 | .lenM x => match ev e x with
   | some (.mp i) => match h i with
     | some b=>if b.esz=0 then some (.val (.int .i64 b.elems.length),h) else none
     | none=>none
   | _=>none
 | .lenS x => match ev e x with
   | some (.val (.string s))=>some (.val (.int .i64 s.size),h)
   | _=>none
 | .lenA n=>some (.val (.int .i64 n),h)
 | .append z bytes s x => match ev e s, ev e x with
   | some (.own k), some (.vec m _) => match h k with
     | some b => if (∀ c ∈ m, c.length = z.length) /\ b.esz = z.length /\ (b.elems.length + m.length) * bytes <= 140737488355328 then
        some (.own id,fun j=>bif Nat.beq j id then some ⟨b.esz,b.elems++m⟩ else bif Nat.beq j k then none else h j) else none
     | none=>none
   | _,_=>none
 | .copy esz d s => match ev e d, ev e s with
   | some (.own k), some (.vec m _) => match h k with
     | some b => if (∀ c ∈ m, c.length = esz) /\ b.esz = esz then
        some (.val (.int .i64 (min m.length b.elems.length:Nat)),h.upd k ⟨b.esz,m.take b.elems.length++b.elems.drop m.length⟩) else none
     | none=>none
   | some (.sl k i o len _), some (.vec m _) => match h k with
     | some b => if (∀ c ∈ m, c.length = esz) /\ esz = 1 /\ i < b.elems.length /\ o + len <= b.esz then
        some (.val (.int .i64 (min m.length len:Nat)),h.upd k ⟨b.esz,b.elems.set i (XK (b.elems.getD i []) o ((m.take len).map fun c=>c.getD 0 pvu))⟩) else none
     | none=>none
   | some (.sl k i o len _), some (.sl k2 i2 o2 len2 _) => match h k, h k2 with
     | some b, some b2 => if esz = 1 /\ i < b.elems.length /\ o + len <= b.esz /\ i2 < b2.elems.length /\ o2 + len2 <= b2.esz then
        some (.val (.int .i64 (min len2 len:Nat)),h.upd k ⟨b.esz,b.elems.set i (XK (b.elems.getD i []) o ((((b2.elems.getD i2 []).drop o2).take len2).take len))⟩) else none
     | _,_=>none
   | _,_=>none
 | .mx x y => match ev e x, ev e y with
   | some (.val (.int k a)),some (.val (.int _ b))=>some (.val (.int k (if b>a then b else a)),h)
   | _,_=>none
 | .mn x y => match ev e x, ev e y with
   | some (.val (.int k a)),some (.val (.int _ b))=>some (.val (.int k (if b<a then b else a)),h)
   | _,_=>none
 | .cap x => match ev e x with
   | some (.vec l true)=>some (.val (.int .i64 l.length),h)
   | _=>none
 | .appz z bytes s n => match ev e s, X1T (ev e n) with
   | some (.vec [] true),some m=>if 0<m/\m*(bytes:Int)<=140737488355328 then some (.own id,h.upd id ⟨z.length,List.replicate m.toNat (zpv z)⟩) else none
   | _,_=>none
 | .mkfn f caps => match evs e caps with
   | some l=>some (.fn f l,h)
   | none=>none
 | .mkbf f caps => match evs e caps with
   | some l=>some (.bf f l,h)
   | none=>none
 | .extract x i => match ev e x with
   | some (.tup l)=>if i<l.length then some (l.getD i pvu,h) else none
   | _=>none
 | .call _ _=>none
def Xv (op:AOp) (e:Env) (h:X0) (id:Nat):Option (PV×X0) :=
 match op with
 | .alloc z=>some (.cp (zpv z),h)
 | .box x => match ev e x with
   | some p=>if p.flat&&decide (0<p.cells.length) then some (.cp p.cells,h) else none
   | none=>none
 | .append z bytes s x => match ev e s, ev e x with
   | some (.vec l true), some (.vec m _) => if (∀ c ∈ l, c.length = z.length) /\ (∀ c ∈ m, c.length = z.length) /\ (l.length + m.length) * bytes <= 140737488355328 then
      some (.vec (l++m) false,h) else none
   | _,_=>none
 | .bslice z n ps => match X1A e z.length (List.replicate n (zpv z)) ps with
   | some l=>some (.own id,h.upd id ⟨z.length,l⟩)
   | none=>none
 | .mslice z bytes l c => match X1T (ev e l), X1T (ev e c) with
   | some n,some m=>if 0<=n/\n=m/\(bytes:Int)*m<=281474976710656 then some (.vec (List.replicate n.toNat (zpv z)) true,h) else none
   | _,_=>none
 | .lookup c agg z ok m k => match ev e m, ev e k with
   | some (.val (.map none)),some kp=>if X2t c kp kp=some true then some (bif ok then .tup [X4S agg z,.val (.bool false)] else X4S agg z,h) else none
   | _,_=>none
 | .slc esz x lo hi none => match ev e x with
   | some (.own k) => match h k with
     | some bx => match XD e 0 lo, XD e bx.elems.length hi with
       | some a,some b=>if (0<=a/\a<=b/\b<=(bx.elems.length:Int))/\bx.esz=esz then some (.view k a.toNat (b.toNat-a.toNat),h) else none
       | _,_=>none
     | none=>none
   | some (.view k o n) => match h k with
     | some bx => match XD e 0 lo, XD e n hi with
       | some a,some b=>if (0<=a/\a<=b/\b<=(n:Int))/\o+n<=bx.elems.length/\bx.esz=esz then some (.view k (o+a.toNat) (b.toNat-a.toNat),h) else none
       | _,_=>none
     | none=>none
   | some (.vec l true) => match XD e 0 lo, XD e l.length hi with
     | some a,some b=>if a=0/\b=(l.length:Int) then some (.vec l true,h) else none
     | _,_=>none
   | _=>none
 | _=>none
section
variable {C:Ctx} {Fr:Nat->Prop} {e:Env} {h:X0} {F:XC} {φ:XE} {a:Act} {w:World}
theorem Z2h (v:Value):Rep F φ v (X2p v):=by
 unfold X2p
 split
 . exact .vecnil true
 . exact .val _
theorem St'.eval (s:St' C Fr e h F φ a w) {x:Operand} {p:PV} (hx:ev e x=some p):Rep F φ (a.eval x) p:=by
 cases x with
 | tmp t=>exact (s.env t p (by simpa [ev] using hx)).2
 | const v => obtain rfl : X2p v = p := by simpa [ev] using hx
              exact Z2h v
 | global g =>
   simp only [ev] at hx
   split at hx
   . cases hx; exact .val _
   . rename_i v l hg;cases hx;have hlen:(zpv (v :: l)).length=(v :: l).length:=by simp [zpv]
     refine .cp ⟨g,0,none⟩ (zpv (v :: l)) (fun j=>(v :: l).getD j undef) rfl (fun j hj=>?_) (fun j hj=>?_)
     . have hj' : j < (v :: l).length := by rw [<- hlen]; exact hj
       have e1:(X3t g)[j]?=some ((v :: l).getD j undef):=by rw [hg,Y0b,Y0c hj']; rfl
       have:=s.glob g j _ e1;rw [YQ];exact this
     . have hj' : j < (v :: l).length := by rw [<- hlen]; exact hj
       have e2:(zpv (v :: l)).getD j pvu=X2p ((v :: l).getD j undef):=by
        simp only [zpv,Y0b,Y0y,Y0c hj',Y1m,Y1R]
       rw [e2];exact Z2h _
 | func f => obtain rfl : _ = p := by simpa [ev] using hx
             exact .fn f #[] [] rfl (fun i hi=>absurd hi (by simp))
theorem St'.evals (s:St' C Fr e h F φ a w) {xs:List Operand} {ps:List PV} (hx:evs e xs=some ps):xs.length=ps.length/\∀ i,i<ps.length->Rep F φ ((xs.map a.eval).getD i undef) (ps.getD i pvu):=by
 induction xs generalizing ps with
 | nil => obtain rfl : [] = ps := by simpa [evs] using hx
          simp
 | cons x r ih =>
   simp only [evs] at hx
   split at hx
   . rename_i p l hp hl;obtain rfl:p :: l=ps:=by simpa using hx
     obtain⟨h1,h2⟩:=ih hl;refine⟨by simp [h1],fun i hi=>?_⟩;cases i with
     | zero=>simpa using s.eval hp
     | succ i=>simpa using h2 i (by simpa using hi)
   . simp at hx
theorem St'.weaken (s:St' C Fr e h F φ a w) {Fr':Nat->Prop} (hf:∀ i,Fr' i->Fr i):St' C Fr' e h F φ a w :=
 { s with free:=fun i hi=>s.free i (hf i hi) }
theorem St'.sub (s:St' C Fr e h F φ a w) {e':Env} {h':X0} (he:∀ k p,e' k=some p->e k=some p) (hh:∀ i b,h' i=some b->h i=some b):St' C Fr e' h' F φ a w :=
 { s with
   env:=fun k p hp=>s.env k p (he k p hp)
   live:=fun i b hb=>s.live i b (hh i b hb)
   sep:=fun i j bi bj li lj k hi hj=>s.sep i j bi bj li lj k (hh i bi hi) (hh j bj hj) }
theorem Z1c (t:Array Value) (d k:Nat) (v:Value) (hd:d<t.size):(t.setIfInBounds d v).getD k undef=if k=d then v else t.getD k undef:=by
 simp only [Y0d,Y2Q];by_cases hk:d=k
 . subst hk; simp [hd]
 . simp [hk,Y2t hk]
theorem St'.put (s:St' C Fr e h F φ a w) {d:Nat} {v:Value} {p:PV} (hd:d<C.nt) (hr:Rep F φ v p):St' C Fr (e.upd d p) h F φ (a.put (some d) v) w:=by
 refine { s with nt:=by simp [Act.put,s.nt],marks:=⟨s.marks.nd,s.marks.all⟩,env:=fun k q hq=>?_ };simp only [Act.put];rw [Z1c _ _ _ _ (by rw [s.nt]; exact hd)];by_cases hk:k=d
 . subst hk;rw [Env.upd_same] at hq;obtain rfl:p=q:=by simpa using hq
   simpa using ⟨hd,hr⟩
 . rw [Env.upd_ne _ _ hk] at hq;simpa [hk] using s.env k q hq
def Xq (e:Env) (d:Option Nat) (p:PV):Env:=match d with|some k=>e.upd k p|none=>e
theorem St'.putO (s:St' C Fr e h F φ a w) {d:Option Nat} {v:Value} {p:PV} (hd:X2I C.nt d=true) (hr:Rep F φ v p):St' C Fr (Xq e d p) h F φ (a.put d v) w:=by
 cases d with
 | none=>exact s
 | some d=>exact s.put (by simpa [X2I] using hd) hr
theorem St'.drew (s:St' C Fr e h F φ a w):St' C Fr e h F φ a { w with drawn:=w.drawn+1 } :=
 { nt := s.nt, glob := s.glob, marks := ⟨s.marks.nd, s.marks.all⟩, loc0 := s.loc0, free := s.free, env := s.env, froz := s.froz, ext := s.ext, old := s.old, os := s.os, tape := s.tape, output := s.output, size := s.size, kept := s.kept,
   live:=fun id b hb=>by
    obtain⟨loc,h1,h2,h3⟩:=s.live id b hb;refine⟨loc,h1,h2.imp (fun h2=>⟨h2.esz,h2.pos,h2.len,h2.cap,h2.max,h2.el,h2.room⟩) (fun h2=>⟨h2.esz,h2.pos,h2.cap,h2.room⟩),h3⟩
   sep:=s.sep }
theorem X4b.mono {F':XC} {φ':XE} {w':World} {loc:Loc} {b:Bx} (hb:X4b F φ w loc b) (hF:∀ x v,F x=some v->F' x=some v) (hφ:∀ i x,φ i=some x->φ' i=some x)
 (hw:∀ k,loc.has k->w'.heap[k]?=w.heap[k]?):X4b F' φ' w' loc b:=by
 refine⟨hb.esz,hb.pos,hb.len,hb.cap,hb.max,hb.el,fun hc=>?_⟩;obtain⟨x,hx,hs,cells,t,hg,hsz,hr⟩:=hb.room hc;refine⟨x,hx,hs,cells,t,by rw [hw _ ⟨hc,x,hx,rfl⟩]; exact hg,hsz,fun i j hi hj=>⟨(hr i j hi hj).1,(hr i j hi hj).2.mono hF hφ⟩⟩
theorem XI.imp {F':XC} {φ':XE}:∀ {es:List MapEntry} {rs:List (List PV)},XI F φ es rs->(∀ r∈rs,∀ p∈r,∀ v,Rep F φ v p->Rep F' φ' v p)->XI F' φ' es rs
 | [],[],_,_=>trivial
 | m :: es, r :: rs, h, hi => by
   obtain⟨⟨k,v,rfl,h1,h2⟩,h3⟩:=h;exact⟨⟨k,v,rfl,hi [k,v] (by simp) k (by simp) _ h1,hi [k,v] (by simp) v (by simp) _ h2⟩,h3.imp fun r hr=>hi r (by simp [hr])⟩
 | [],_ :: _,h,_=>h.elim
 | _ :: _,[],h,_=>h.elim
theorem X3j.mono {F':XC} {φ':XE} {w':World} {loc:Loc} {b:Bx} (hb:X3j F φ w loc b) (hF:∀ x v,F x=some v->F' x=some v) (hφ:∀ i x,φ i=some x->φ' i=some x)
 (hw:∀ k,loc.has k->w'.heap[k]?=w.heap[k]?):X3j F' φ' w' loc b:=by
 obtain⟨x,hx,es,t,hg,hr⟩:=hb.room;exact⟨hb.esz,hb.pos,hb.cap,x,hx,es,t,by rw [hw _ ⟨hb.cap,x,hx,rfl⟩]; exact hg,hr.imp fun _ _ _ _ _ h=>h.mono hF hφ⟩
theorem X2n.mono {F':XC} {φ':XE} {w':World} {loc:Loc} {b:Bx} (hb:X2n F φ w loc b) (hF:∀ x v,F x=some v->F' x=some v) (hφ:∀ i x,φ i=some x->φ' i=some x)
 (hw:∀ k,loc.has k->w'.heap[k]?=w.heap[k]?):X2n F' φ' w' loc b:=hb.imp (fun h=>h.mono hF hφ hw) (fun h=>h.mono hF hφ hw)
theorem X2n.there {loc:Loc} {b:Bx} (hb:X2n F φ w loc b) {k:Nat} (hk:loc.has k):(∃ cells t,w.heap[k]?=some (.cells cells t (0,0))) \/ ∃ es t,w.heap[k]?=some (.map es t):=by
 obtain⟨hc,x,hx,rfl⟩:=hk;rcases hb with h2|h2
 . obtain ⟨y, hy, _, cells, t, hg, _⟩ := h2.room hc;obtain rfl:y=x:=by rw [hy] at hx; simpa using hx
   exact .inl ⟨cells,t,hg⟩
 . obtain ⟨y, hy, es, t, hg, _⟩ := h2.room;obtain rfl:y=x:=by rw [hy] at hx; simpa using hx
   exact .inr ⟨es,t,hg⟩
theorem St'.lt (s:St' C Fr e h F φ a w) {x:Addr} {v:Value} (hx:F x=some v):x.block<w.heap.size:=Y3h (s.froz x v hx).2.2
theorem St'.has_lt (s:St' C Fr e h F φ a w) {i:Nat} {b:Bx} {loc:Loc} {k:Nat} (hb:h i=some b) (hl:φ i=some loc) (hk:loc.has k):k<w.heap.size:=by
 obtain⟨loc',h1,h2,_⟩:=s.live i b hb;obtain rfl:loc'=loc:=by rw [h1] at hl; simpa using hl
 rcases h2.there hk with⟨cells,t,hg⟩|⟨es,t,hg⟩
 . exact (Y9.1 hg).1
 . exact (Y9.1 hg).1
theorem St'.cellAt (s:St' C Fr e h F φ a w) {i:Nat} {b:Bx} {loc:Loc} (hb:h i=some b) (hl:φ i=some loc) (hz:0<loc.esz):X4b F φ w loc b/\∀ k,loc.has k->(C.w0.heap.size<=k \/ C.G k)/\∀ x:Addr,x.block=k->F x=none:=by
 obtain⟨loc',h1,h2,h3⟩:=s.live i b hb;obtain rfl:loc'=loc:=by rw [h1] at hl; exact Y13 hl
 exact⟨h2.cells hz,h3⟩
def Xb (φ:XE) (id:Nat) (loc:Loc):XE:=fun i=>if i=id then some loc else φ i
theorem Z1A {id:Nat} (hid:φ id=none) (loc:Loc):∀ i x,φ i=some x->Xb φ id loc i=some x:=by
 intro i x hx;have:i≠id:=fun e=>by subst e; rw [hid] at hx; cases hx
 simp [Xb,this,hx]
theorem St'.allocOb (s:St' C Fr e h F φ a w) {id:Nat} (hid:Fr id) (o:Obj) {loc:Loc} {b0:Bx} (hx:loc.base=some ⟨w.heap.size,0,none⟩) (hb0:(∀ i x,φ i=some x->Xb φ id loc i=some x)->X2n F (Xb φ id loc) (w.alloc o) loc b0) :
 St' C (fun i=>Fr i/\i≠id) e (h.upd id b0) F (Xb φ id loc) a (w.alloc o):=by
 have hφ:=s.free id hid;have hext:=Z1A hφ loc;have hold:∀ k,k<w.heap.size->(w.alloc o).heap[k]?=w.heap[k]?:=fun k hk=>Y4c w _ k hk
 refine { nt := s.nt, glob := s.glob, marks := s.marks.mono (fun k hk => by rw [hold k (Y9.1 hk).1]; exact hk), loc0 := fun i x hx => hext _ _ (s.loc0 i x hx), free := ?_, env := fun k p hp => ⟨(s.env k p hp).1, (s.env k p hp).2.mono (fun _ _ h => h) hext⟩, froz := fun x v hx => ?_, ext := s.ext, old := s.old, os := s.os, tape := s.tape, output := s.output,
          size:=by have:=s.size; simp; omega,kept:=fun k hk hG=>by rw [hold k (by have:=s.size;omega)]; exact s.kept k hk hG,live:=?_,sep:=?_ }
 . rintro i ⟨hi, hne⟩;simp [Xb,hne,s.free i hi]
 . obtain ⟨h1, h2, h3⟩ := s.froz x v hx;exact⟨h1,h2,by rw [Y1Y (w:=w) (hold _ (Y3h h3))]; exact h3⟩
 . intro i b hb;by_cases hi:i=id
   . subst hi;rw [X0.upd_same] at hb;obtain rfl:_=b:=by simpa using hb
     refine⟨loc,by simp [Xb],hb0 hext,?_⟩;rintro k ⟨_,x,hx',rfl⟩;obtain rfl:(⟨w.heap.size,0,none⟩:Addr)=x:=by rw [hx] at hx'; exact Y13 hx'
     refine⟨.inl s.size,fun y hy=>?_⟩;cases hFy:F y with
     | none=>rfl
     | some v=>have:=s.lt hFy; simp at hy; omega
   . rw [X0.upd_ne _ _ hi] at hb;obtain⟨loc,h1,h2,h3⟩:=s.live i b hb;exact⟨loc,hext _ _ h1,h2.mono (fun _ _ h=>h) hext (fun k hk=>hold k (s.has_lt hb h1 hk)),h3⟩
 . intro i j bi bj li lj k hi hj hli hlj hki hkj;by_cases h1:i=id
   . by_cases h2 : j = id
     . rw [h1,h2]
     . subst h1;rw [X0.upd_ne _ _ h2] at hj;have hlj':φ j=some lj:=by simpa [Xb,h2] using hlj
       have hlt:=s.has_lt hj hlj' hkj;obtain rfl:_=li:=by simpa [Xb] using hli
       obtain⟨_,x,hx',rfl⟩:=hki;rw [hx] at hx'; cases hx';simp at hlt
   . rw [X0.upd_ne _ _ h1] at hi;have hli':φ i=some li:=by simpa [Xb,h1] using hli
     by_cases h2:j=id
     . subst h2;have hlt:=s.has_lt hi hli' hki;obtain rfl:_=lj:=by simpa [Xb] using hlj
       obtain⟨_,x,hx',rfl⟩:=hkj;rw [hx] at hx'; cases hx';simp at hlt
     . rw [X0.upd_ne _ _ h2] at hj;exact s.sep i j bi bj li lj k hi hj hli' (by simpa [Xb,h2] using hlj) hki hkj
theorem St'.alloc (s:St' C Fr e h F φ a w) {id:Nat} (hid:Fr id) (cells:Array Value) (t:TypeId) (esz len cap:Nat) (elems:List (List PV)) (hpos:0<esz) (hlen:elems.length=len) (hcap:len<=cap)
 (hmax:len<=Xd) (hel:∀ c∈elems,c.length=esz) (hsz:cap*esz<=cells.size)
 (hrep:∀ i j,i<len->j<esz->(cells.getD (i*esz+j) undef).oneCell'=true/\Rep F φ (cells.getD (i*esz+j) undef) ((elems.getD i []).getD j pvu)) :
 St' C (fun i=>Fr i/\i≠id) e (h.upd id ⟨esz,elems⟩) F (Xb φ id ⟨some ⟨w.heap.size,0,none⟩,esz,len,cap⟩) a (w.alloc (.cells cells t)):=by
 refine s.allocOb hid _ rfl fun hext=>.inl ⟨rfl,hpos,hlen,hcap,hmax,hel,fun _=>⟨_,rfl,rfl,cells,t,Y35 w _,by simpa using hsz,fun i j hi hj=>?_⟩⟩;have:=hrep i j hi hj;simp only [YQ];exact⟨this.1,this.2.mono (fun _ _ h=>h) hext⟩
theorem St'.allocNil (s:St' C Fr e h F φ a w) {id:Nat} (hid:Fr id) (base:Option Addr) (esz:Nat) (hpos:0<esz) :
 St' C (fun i=>Fr i/\i≠id) e (h.upd id ⟨esz,[]⟩) F (Xb φ id ⟨base,esz,0,0⟩) a w:=by
 have hφ:=s.free id hid;have hext:=Z1A hφ ⟨base,esz,0,0⟩
 refine { nt := s.nt, glob := s.glob, marks := s.marks, loc0 := fun i x hx => hext _ _ (s.loc0 i x hx), free := ?_, env := fun k p hp => ⟨(s.env k p hp).1, (s.env k p hp).2.mono (fun _ _ h => h) hext⟩, froz := s.froz, ext := s.ext, old := s.old, os := s.os, tape := s.tape, output := s.output,
          size:=s.size,kept:=s.kept,live:=?_,sep:=?_ }
 . rintro i ⟨hi, hne⟩;simp [Xb,hne,s.free i hi]
 . intro i b hb;by_cases hi:i=id
   . subst hi;rw [X0.upd_same] at hb;obtain rfl:_=b:=by simpa using hb
     exact⟨⟨base,esz,0,0⟩,by simp [Xb],.inl ⟨rfl,hpos,rfl,Y0m _,Y0l _,by simp,fun hc=>absurd rfl hc⟩,fun k hk=>absurd rfl hk.1⟩
   . rw [X0.upd_ne _ _ hi] at hb;obtain⟨loc,h1,h2,h3⟩:=s.live i b hb;exact⟨loc,hext _ _ h1,h2.mono (fun _ _ h=>h) hext (fun _ _=>rfl),h3⟩
 . intro i j bi bj li lj k hi hj hli hlj hki hkj;by_cases h1:i=id
   . subst h1;obtain rfl:_=li:=by simpa [Xb] using hli
     exact absurd rfl hki.1
   . by_cases h2 : j = id
     . subst h2;obtain rfl:_=lj:=by simpa [Xb] using hlj
       exact absurd rfl hkj.1
     . rw [X0.upd_ne _ _ h1] at hi;rw [X0.upd_ne _ _ h2] at hj;exact s.sep i j bi bj li lj k hi hj (by simpa [Xb,h1] using hli) (by simpa [Xb,h2] using hlj) hki hkj
theorem St'.adopt (s:St' C Fr e h F φ a w) {g:Nat} {cur cur':Array Value} {t:TypeId} (hg:w.heap[g]?=some (.cells cur t (0,0))) (hown:C.w0.heap.size<=g \/ C.G g) (hF:∀ x:Addr,x.block=g->F x=none)
 (hno:∀ i b loc,h i=some b->φ i=some loc->¬ loc.has g) {id:Nat} {loc':Loc} {b':Bx} {φ':XE} {Fr':Nat->Prop} (hid:φ' id=some loc') (hext:∀ i x,φ i=some x->φ' i=some x) (hne:∀ i,i≠id->φ' i=φ i)
 (hFr:∀ i,Fr' i->φ' i=none) (hloc:∀ k,loc'.has k->k=g) (hb:X4b F φ' (w.setRow g cur') loc' b'):St' C Fr' e (h.upd id b') F φ' a (w.setRow g cur'):=by
 have hold:∀ k,k≠g->(w.setRow g cur').heap[k]?=w.heap[k]?:=fun k hk=>setRow_other w g k cur' hk
 refine { nt := s.nt, glob := s.glob, marks := s.marks.mono (fun k hk => by rw [hold k (fun e => by subst e; rw [hg] at hk; cases hk)]; exact hk), loc0 := fun i x hx => hext _ _ (s.loc0 i x hx), free := hFr, env := fun k p hp => ⟨(s.env k p hp).1, (s.env k p hp).2.mono (fun _ _ h => h) hext⟩, froz := fun x v hx => ?_, ext := s.ext, old := s.old, os := s.os, tape := s.tape, output := s.output,
          size:=by have:=s.size; simpa using this,kept:=fun k hk hG=>?_,live:=?_,sep:=?_ }
 . obtain ⟨h1, h2, h3⟩ := s.froz x v hx;refine⟨h1,h2,?_⟩;have:x.block≠g:=fun e=>by rw [hF x e] at hx; cases hx
   rw [Y1Y (w:=w) (hold _ this)];exact h3
 . have : k ≠ g := by
    rintro rfl;rcases hown with h' | h'
    . omega
    . exact hG h'
   rw [hold k this];exact s.kept k hk hG
 . intro i b hbi;by_cases hi:i=id
   . subst hi;rw [X0.upd_same] at hbi;obtain rfl:b'=b:=by simpa using hbi
     exact⟨loc',hid,.inl hb,fun k hk=>by obtain rfl:=hloc k hk; exact⟨hown,hF⟩⟩
   . rw [X0.upd_ne _ _ hi] at hbi;obtain⟨loc,h1,h2,h3⟩:=s.live i b hbi;exact⟨loc,hext _ _ h1,h2.mono (fun _ _ h=>h) hext (fun k hk=>hold k fun e=>by subst e; exact hno i b loc hbi h1 hk),h3⟩
 . intro i j bi bj li lj k hi hj hli hlj hki hkj;by_cases h1:i=id
   . by_cases h2 : j = id
     . rw [h1,h2]
     . subst h1;rw [X0.upd_ne _ _ h2] at hj;obtain rfl:loc'=li:=by rw [hid] at hli; simpa using hli
       obtain rfl:=hloc k hki;exact absurd hkj (hno j bj lj hj (by rw [<- hne j h2]; exact hlj))
   . rw [X0.upd_ne _ _ h1] at hi;by_cases h2:j=id
     . subst h2;obtain rfl:loc'=lj:=by rw [hid] at hlj; simpa using hlj
       obtain rfl:=hloc k hkj;exact absurd hki (hno i bi li hi (by rw [<- hne i h1]; exact hli))
     . rw [X0.upd_ne _ _ h2] at hj;exact s.sep i j bi bj li lj k hi hj (by rw [<- hne i h1]; exact hli) (by rw [<- hne j h2]; exact hlj) hki hkj
def X0.del (h:X0) (k:Nat):X0:=fun j=>bif Nat.beq j k then none else h j
theorem X0.del_ne (h:X0) {k j:Nat} (hj:j≠k):h.del k j=h j:=by
 have:Nat.beq j k=false:=YK.2 fun hb=>hj (Yw hb);simp [X0.del,this]
theorem X0.del_same (h:X0) (k:Nat):h.del k k=none:=by simp [X0.del]
theorem X0.del_some {h:X0} {k j:Nat} {b:Bx} (hb:h.del k j=some b):j≠k/\h j=some b:=by
 by_cases hj:j=k
 . subst hj; rw [X0.del_same] at hb; cases hb
 . rw [X0.del_ne _ hj] at hb; exact⟨hj,hb⟩
theorem X0.del_upd (h:X0) (k:Nat) (b:Bx):(h.del k).upd k b=h.upd k b:=by
 funext j;by_cases hj:j=k
 . subst hj; rw [X0.upd_same,X0.upd_same]
 . rw [X0.upd_ne _ _ hj,X0.upd_ne _ _ hj,X0.del_ne _ hj]
theorem St'.del_no (s:St' C Fr e h F φ a w) {k:Nat} {b:Bx} {loc:Loc} (hk:h k=some b) (hl:φ k=some loc) {g:Nat} (hg:loc.has g):∀ i b' loc',h.del k i=some b'->φ i=some loc'->¬ loc'.has g:=by
 intro i b' loc' hi hl' hg';obtain⟨hne,hi⟩:=X0.del_some hi;exact hne (s.sep i k b' b loc' loc g hi hk hl' hl hg' hg)
end
section
variable {P:Program} {C:Ctx} {Fr:Nat->Prop} {e:Env} {h:X0} {F:XC} {φ:XE} {a:Act} {w:World}
theorem Rep.val_inv {v u:Value} (h:Rep F φ v (.val u)):v=u:=by cases h; rfl
theorem Rep.agg_inv {v:Value} {l:List PV} (h:Rep F φ v (.agg l)):∃ vs:Array Value,v=.agg vs/\vs.size=l.length/\(∀ i,i<l.length->(vs.getD i undef).oneCell'=true)/\∀ i,i<l.length->Rep F φ (vs.getD i undef) (l.getD i pvu):=by
 cases h with
 | agg vs _ hl h1 h=>exact⟨vs,rfl,hl,h1,h⟩
theorem Rep.tup_inv {v:Value} {l:List PV} (h:Rep F φ v (.tup l)):∃ vs:Array Value,v=.tuple vs/\vs.size=l.length/\∀ i,i<l.length->Rep F φ (vs.getD i undef) (l.getD i pvu):=by
 cases h with
 | tup vs _ hl h=>exact⟨vs,rfl,hl,h⟩
theorem Rep.fn_inv {v:Value} {f:FuncId} {l:List PV} (h:Rep F φ v (.fn f l)):∃ vs:Array Value,v=.func (.func f) #[] vs/\vs.size=l.length/\∀ i,i<l.length->Rep F φ (vs.getD i undef) (l.getD i pvu):=by
 cases h with
 | fn _ vs _ hl h=>exact⟨vs,rfl,hl,h⟩
theorem Rep.bf_inv {v:Value} {f:FuncId} {l:List PV} (h:Rep F φ v (.bf f l)):∃ vs:Array Value,v=.func (.func f) vs #[]/\vs.size=l.length/\∀ i,i<l.length->Rep F φ (vs.getD i undef) (l.getD i pvu):=by
 cases h with
 | bf _ vs _ hl h=>exact⟨vs,rfl,hl,h⟩
theorem Rep.cp_inv {v:Value} {l:List PV} (h:Rep F φ v (.cp l)):∃ (x:Addr) (cs:Nat->Value),v=.pointer (some x)/\x.spot=none/\(∀ j,j<l.length->F ⟨x.block,x.off+j,none⟩=some (cs j))/\∀ j,j<l.length->Rep F φ (cs j) (l.getD j pvu):=by
 cases h with
 | cp x _ cs hs hF hR=>exact⟨x,cs,rfl,hs,hF,hR⟩
theorem Rep.ptr_inv {v:Value} {id i off:Nat} (h:Rep F φ v (.ptr id i off)):∃ (loc:Loc) (x:Addr),φ id=some loc/\0<loc.esz/\loc.base=some x/\x.spot=none/\v=.pointer (some ⟨x.block,x.off+(i*loc.esz+off),none⟩):=by
 cases h with
 | ptr _ _ _ loc x h hz hb hs=>exact⟨loc,x,h,hz,hb,hs,rfl⟩
theorem Rep.own_inv {v:Value} {id:Nat} (h:Rep F φ v (.own id)):∃ loc:Loc,φ id=some loc/\0<loc.esz/\v=.slice loc.base loc.len loc.cap:=by
 cases h with
 | own _ loc h hz=>exact⟨loc,h,hz,rfl⟩
theorem Rep.view_inv {v:Value} {id lo len:Nat} (h:Rep F φ v (.view id lo len)):∃ (loc:Loc) (b:Option Addr),φ id=some loc/\0<loc.esz/\lo+len<=loc.cap/\(lo<loc.cap->b=loc.base.map (·.add (lo*loc.esz)))/\v=.slice b len (loc.cap-lo):=by
 cases h with
 | view _ _ _ loc b h hz hl hb=>exact⟨loc,b,h,hz,hl,hb,rfl⟩
theorem Rep.sl_inv {v:Value} {id i off len cap:Nat} (h:Rep F φ v (.sl id i off len cap)):∃ (loc:Loc) (x:Addr),φ id=some loc/\0<loc.esz/\loc.base=some x/\x.spot=none/\len<=cap/\v=.slice (some ⟨x.block,x.off+(i*loc.esz+off),none⟩) len cap:=by
 cases h with
 | sl _ _ _ _ _ loc x h hz hb hs hl=>exact⟨loc,x,h,hz,hb,hs,hl,rfl⟩
theorem Rep.mp_inv {v:Value} {id:Nat} (h:Rep F φ v (.mp id)):∃ (loc:Loc) (x:Addr),φ id=some loc/\loc.esz=0/\loc.base=some x/\v=.map (some x.block):=by
 cases h with
 | mp _ loc x h hz hb=>exact⟨loc,x,h,hz,hb,rfl⟩
theorem Rep.vec_inv {v:Value} {l:List (List PV)} {full:Bool} (h:Rep F φ v (.vec l full)) :
 (l = [] /\ v = .slice none 0 0) \/ ∃ (x : Addr) (cap esz : Nat) (cs : Nat -> Nat -> Value), v = .slice (some x) l.length cap /\ (l ≠ [] -> x.spot = none) /\ l.length <= cap /\ (full = true -> cap = l.length) /\ l.length <= Xd /\
   (∀ i,i<l.length->(l.getD i []).length=esz)/\(∀ i j,i<l.length->j<esz->F ⟨x.block,x.off+(i*esz+j),none⟩=some (cs i j))/\∀ i j,i<l.length->j<esz->Rep F φ (cs i j) ((l.getD i []).getD j pvu):=by
 cases h with
 | vecnil=>exact .inl ⟨rfl,rfl⟩
 | vec x cap esz _ _ cs hs hcap hfull hmax he hF hR=>exact .inr ⟨x,cap,esz,cs,rfl,hs,hcap,hfull,hmax,he,hF,hR⟩
theorem Rep.oneCell {v:Value} {p:PV} (h:Rep F φ v p) (h1:p.one=true):v.oneCell'=true:=by
 cases h with
 | val v=>exact h1
 | agg=>simp [PV.one] at h1
 | tup=>simp [PV.one] at h1
 | vecnil=>rfl
 | vec=>rfl
 | cp=>rfl
 | ptr=>rfl
 | own=>rfl
 | view=>rfl
 | sl=>rfl
 | mp=>rfl
 | fn=>rfl
 | bf=>rfl
theorem Z85 {v:Value} (h:v.oneCell'=true):v.cells = #[v]:=by cases v<;>first|rfl|(simp [Value.oneCell'] at h)
theorem Rep.cellsOf {v:Value} {p:PV} (h:Rep F φ v p) (hf:p.flat=true) :
 v.cells.size=p.cells.length/\∀ i,i<p.cells.length->(v.cells.getD i undef).oneCell'=true/\Rep F φ (v.cells.getD i undef) (p.cells.getD i pvu):=by
 by_cases hp:∃ l,p=.agg l
 . obtain ⟨l, rfl⟩ := hp;obtain⟨vs,rfl,hl,h1,hr⟩:=h.agg_inv;exact⟨hl,fun i hi=>⟨h1 i hi,hr i hi⟩⟩
 . have hone : p.one = true := by
    cases p<;>first|exact hf|exact absurd ⟨_,rfl⟩ hp
   have hc:p.cells = [p]:=by
    cases p<;>first|rfl|exact absurd ⟨_,rfl⟩ hp
   rw [Z85 (h.oneCell hone),hc];refine⟨rfl,fun i hi=>?_⟩;obtain rfl:i=0:=by simpa using hi
   exact⟨h.oneCell hone,h⟩
def X4 (P:Program) (C:Ctx) (Fr:Nat->Prop) (e:Env) (F:XC) (φ:XE) (a:Act) (w:World) (s:Sem Value) (id:Nat) (v:PV) (h':X0):Prop :=
 ∃ val w' F' φ',s.run P w=.ok val w'/\St' C (fun i=>Fr i/\(h' id≠none->i≠id)) e h' F' φ' a w'/\Rep F' φ' val v
theorem St'.made {id:Nat} {b:Bx} (s:St' C (fun i=>Fr i/\i≠id) e (h.upd id b) F φ a w):St' C (fun i=>Fr i/\((h.upd id b) id≠none->i≠id)) e (h.upd id b) F φ a w :=
 s.weaken fun i hi=>⟨hi.1,hi.2 (by rw [X0.upd_same]; simp)⟩
theorem X4.quiet (s:St' C Fr e h F φ a w) {m:Sem Value} {val:Value} {v:PV} {id:Nat} (hr:m.run P w=.ok val w) (hv:Rep F φ val v):X4 P C Fr e F φ a w m id v h :=
 ⟨val,w,F,φ,hr,s.weaken fun _ h=>h.1,hv⟩
theorem Z10 (x:Addr) (n:Nat) (hs:x.spot=none):x.add n=⟨x.block,x.off+n,none⟩:=by
 obtain⟨b,o,sp⟩:=x;obtain rfl:sp=none:=hs;exact Addr.add_lit b o n
theorem Z4v (x:Addr) (hs:x.spot=none):x=⟨x.block,x.off,none⟩:=by
 obtain⟨b,o,sp⟩:=x;obtain rfl:sp=none:=hs
 rfl
theorem St'.objCell (s:St' C Fr e h F φ a w) {k:Nat} {b:Bx} {loc:Loc} (hb:h k=some b) (hl:φ k=some loc) {i j:Nat} (hi:i<b.elems.length) (hj:j<b.esz) {x:Addr} (hx:loc.base=some x) :
 ∃ c,w.cell? ⟨x.block,x.off+(i*loc.esz+j),none⟩=some c/\c.oneCell'=true/\Rep F φ c ((b.elems.getD i []).getD j pvu):=by
 obtain⟨loc',h1,h2,_⟩:=s.live k b hb;obtain rfl:loc'=loc:=by rw [h1] at hl; simpa using hl
 have h2:=h2.cellsB (by omega);have hi':i<loc'.len:=by rw [<- h2.len]; exact hi
 have hj':j<loc'.esz:=by rw [<- h2.esz]; exact hj
 have hc:loc'.cap≠0:=by have:=h2.cap; omega
 obtain⟨y,hy,hs,cells,t,hg,hsz,hr⟩:=h2.room hc;obtain rfl:y=x:=by rw [hy] at hx; simpa using hx
 have hlt:y.off+(i*loc'.esz+j)<cells.size:=by
  have h3:i*loc'.esz+j<loc'.cap*loc'.esz:=by
   have h4:(i+1)*loc'.esz<=loc'.cap*loc'.esz:=YM _ (by have:=h2.cap;omega);have h5:=Y2Z i loc'.esz;simp only [Y2o] at h5;omega
  omega
 refine⟨cells.getD (y.off+(i*loc'.esz+j)) undef,?_,(hr i j hi' hj').1,(hr i j hi' hj').2⟩;rw [cell_of_row w y.block _ cells t (0,0) hg];simp [Array.getD,hlt]
theorem Z4w {t:TypeId} {n:Nat} (hl:XY P t=some (true,n)):∃ d i,P.underlying t=some d/\X6n d=true/\P.info? t=some i/\i.size=n:=by
 unfold XY at hl
 split at hl
 . rename_i d i hd hi
   split at hl
   . exact⟨d,i,hd,by assumption,hi,by simpa using hl⟩
   . split at hl<;>simp at hl
 . simp at hl
theorem Z2u {t:TypeId} {n:Nat} (hl:XY P t=some (false,n)):n=1/\∃ d i,P.underlying t=some d/\X6n d=false/\P.info? t=some i/\i.size=1:=by
 unfold XY at hl
 split at hl
 . rename_i d i hd hi
   split at hl
   . simp at hl
   . split at hl
     . exact⟨by simpa using hl.symm,d,i,hd,by assumption,hi,by assumption⟩
     . simp at hl
 . simp at hl
theorem Z26 {t:TypeId} {d:TypeDesc} (hu:P.underlying t=some d) {b:Bool} (hd:X6n d=b):(isAgg t).run P w=.ok b w:=by
 subst hd;simp only [isAgg,YT,Y6 hu,YG];cases d<;>rfl
theorem Zd {t:TypeId} {i:TypeInfo} (hi:P.info? t=some i):(sizeOf t).run P w=.ok i.size w:=by
 simp [sizeOf,typeInfo,hi]
theorem Z3M (n:Nat) (f:Nat->Value) (j:Nat) (hj:j<n):((List.range n).map f).toArray.getD j undef=f j:=by
 simp [Array.getD,hj]
theorem Z4x {t:TypeId} {agg:Bool} {size:Nat} (hlay:XY P t=some (agg,size)) {ad:Addr} (hs:ad.spot=none) {l:List PV} {off:Nat} {p:PV} (hcut:X1t agg size off l=some p)
 (hc:∀ j,j<size->∃ c,w.cell? ⟨ad.block,ad.off+j,none⟩=some c/\c.oneCell'=true/\Rep F φ c (l.getD (off+j) pvu)):∃ val,(loadVar t ad).run P w=.ok val w/\Rep F φ val p:=by
 unfold X1t at hcut
 split at hcut
 case isFalse=>simp at hcut
 rename_i hle;cases agg with
 | true =>
   obtain⟨d,i,hu,hd,hi,rfl⟩:=Z4w hlay;obtain rfl:PV.agg _=p:=by simpa using hcut
   let f:Nat->Value:=fun j=>if hj:j<i.size then (hc j hj).choose else undef
   have hf:∀ j,(hj:j<i.size)->w.cell? ⟨ad.block,ad.off+j,none⟩=some (f j)/\(f j).oneCell'=true/\Rep F φ (f j) (l.getD (off+j) pvu):=fun j hj=>by
    simp only [f,hj,dif_pos]; exact (hc j hj).choose_spec
   refine⟨.agg ((List.range i.size).map f).toArray,?_,.agg _ _ (by simp;omega) (fun j hj=>?_) fun j hj=>?_⟩
   . simp only [loadVar,YT,Z26 hu hd,YG,Y1P,Zd hi,run_loadCells w ad i.size f (fun j hj=>by rw [Z10 _ _ hs]; exact (hf j hj).1),Y1C]
   . have hj' : j < i.size := by simp at hj; omega
     rw [Z3M _ _ _ hj']; exact (hf j hj').2.1
   . have hj' : j < i.size := by simp at hj; omega
     rw [Z3M _ _ _ hj'];have:=(hf j hj').2.2;simpa [Y0b,Y1k,hj',Y18] using this
 | false =>
   obtain⟨rfl,d,i,hu,hd,hi,hsz⟩:=Z2u hlay;obtain⟨c,hc1,hc2,hc3⟩:=hc 0 (by omega);refine⟨c,?_,?_⟩
   . rw [YX, <- Z4v ad hs] at hc1;simp [loadVar,Z26 hu hd,hc1]
   . simp only at hcut
     split at hcut
     . rename_i q r hq;obtain rfl:q=p:=by simpa using hcut
       have hg:l[off]?=some q:=by
        have:=congrArg (fun x=>x[0]?) hq;simpa using this
       simpa [Y0b,hg] using hc3
     . simp at hcut
theorem Z3N {t:TypeId} {agg:Bool} {size:Nat} (hlay:XY P t=some (agg,size)) {vs:Array Value} {l:List PV} {off:Nat} {p:PV} (hcut:X1t agg size off l=some p) (hl:vs.size=l.length)
 (h1:∀ i,i<l.length->(vs.getD i undef).oneCell'=true) (hr:∀ i,i<l.length->Rep F φ (vs.getD i undef) (l.getD i pvu)):∃ val,(part t vs off).run P w=.ok val w/\Rep F φ val p:=by
 unfold X1t at hcut
 split at hcut
 case isFalse=>simp at hcut
 rename_i hle;cases agg with
 | true =>
   obtain⟨d,i,hu,hd,hi,rfl⟩:=Z4w hlay;obtain rfl:PV.agg _=p:=by simpa using hcut
   have hget:∀ j,j<i.size->(vs.extract off (off+i.size)).getD j undef=vs.getD (off+j) undef:=fun j hj=>by
    have h2:(vs.extract off (off+i.size))[j]?=vs[off+j]?:=by rw [Array.getElem?_extract,Y7 (by omega)]
    simp only [Y0d,h2]
   refine⟨.agg (vs.extract off (off+i.size)),?_,.agg _ _ (by simp;omega) (fun j hj=>?_) fun j hj=>?_⟩
   . simp only [part,YT,Z26 hu hd,YG,Y1P,Zd hi,Y1C]
   . have hj' : j < i.size := by simp at hj; omega
     rw [hget j hj']; exact h1 _ (by omega)
   . have hj' : j < i.size := by simp at hj; omega
     rw [hget j hj'];have:=hr (off+j) (by omega);simpa [Y0b,Y1k,hj',Y18] using this
 | false =>
   obtain⟨rfl,d,i,hu,hd,hi,hsz⟩:=Z2u hlay;have hlt:off<vs.size:=by omega
   refine⟨vs.getD off undef,?_,?_⟩
   . simp [part,Z26 hu hd,hlt,Array.getD]
   . simp only at hcut
     split at hcut
     . rename_i q r hq;obtain rfl:q=p:=by simpa using hcut
       have hg:l[off]?=some q:=by
        have:=congrArg (fun x=>x[0]?) hq;simpa using this
       have:=hr off (by omega);simpa [Y0b,hg] using this
     . simp at hcut
end
section
variable {P:Program} {C:Ctx} {Fr:Nat->Prop} {e:Env} {h:X0} {F:XC} {φ:XE} {a:Act} {w:World}
theorem ZcE {op:BinOp} {t:TypeId} {x y:Operand} {va vb r:Value} (hs:X3R op va vb=some r):(do eqGuard op t x y va vb; binOp op t va vb:Sem Value).run P w=.ok r w:=by
 unfold X3R at hs
 split at hs
 . rename_i k n k' m;cases op<;>simp only at hs <;>
    first
     | (split at hs
        . first
           | (obtain rfl := by simpa using hs
              subst_vars
              first
               | (simp [eqGuard,binOp,Op.intArith,Op.intBits,Op.intCmp,bits]; done)
               | (rename_i hb
                  have hb':¬ m<0:=by omega
                  simp [eqGuard,binOp,Op.shift,hb']; done))
           | (split at hs
              . simp at hs
              . obtain rfl := by simpa using hs
                subst_vars
                rename_i hb
                simp [eqGuard,binOp,Op.intDiv,hb])
        . simp at hs)
     | (simp at hs)
 . rename_i s t';cases op<;>simp only at hs <;>
    first
     | (obtain rfl := by simpa using hs
        simp [eqGuard,binOp,Op.stringOp]; done)
     | (split at hs
        . rename_i hl;cases hs;have hl':¬ ((s.size+t'.size:Nat):Int)>IntKind.i64.max:=by
           have:IntKind.i64.max=9223372036854775807:=by decide
           omega
          simp only [eqGuard,binOp,Op.stringOp,Y8 hl'];simp
        . cases hs)
     | (simp at hs)
 . simp at hs
def X69:TypeDesc->Option BC
 | .int _=>some .num
 | .string=>some .num
 | .bool=>some .bool
 | .pointer _=>some .ptr
 | _=>none
theorem Rep.isNil {v:Value} {p:PV} {b:Bool} (hr:Rep F φ v p) (hn:p.isNil=some b):∃ o:Option Addr,v=.pointer o/\o.isNone=b:=by
 unfold PV.isNil at hn
 split at hn
 . obtain rfl := by simpa using hn
   exact⟨none,hr.val_inv,rfl⟩
 . obtain rfl := by simpa using hn
   obtain⟨x,cs,rfl,_⟩:=hr.cp_inv;exact⟨some x,rfl,rfl⟩
 . obtain rfl := by simpa using hn
   obtain⟨loc,x,_,_,_,_,rfl⟩:=hr.ptr_inv;exact⟨_,rfl,rfl⟩
 . simp at hn
theorem Zhp {op:BinOp} {t:TypeId} {d:TypeDesc} {c:BC} (hu:P.underlying t=some d) (hc:X69 d=some c) {x y:Operand} {va vb:Value} {p q r:PV} (hx:Rep F φ va p) (hy:Rep F φ vb q) (hs:X3T op c p q=some r) :
 ∃ val,(do eqGuard op t x y va vb; binOp op t va vb:Sem Value).run P w=.ok val w/\Rep F φ val r:=by
 unfold X3T at hs
 split at hs
 . split at hs
   . rename_i u v;obtain rfl:=hx.val_inv;obtain rfl:=hy.val_inv;cases hb:X3R op va vb with
     | none=>simp [hb] at hs
     | some val =>
       obtain rfl:=by simpa [hb] using hs
       exact⟨val,ZcE hb,.val _⟩
   . simp at hs
 . have hd : d = .bool := by cases d <;> simp_all [X69]
   subst hd
   split at hs
   . obtain rfl := hx.val_inv;obtain rfl:=hy.val_inv
     split at hs
     . obtain rfl := by simpa using hs
       exact⟨_,by simp [eqGuard,run_eql_bool w t _ _ hu],.val _⟩
     . obtain rfl := by simpa using hs
       exact⟨_,by simp [eqGuard,run_neq_bool w t _ _ hu],.val _⟩
     . simp at hs
   . simp at hs
 . have hd : ∃ e, d = .pointer e := by cases d <;> simp_all [X69]
   obtain⟨el,rfl⟩:=hd;have hp:P.underlying t=some (.pointer (P.pointee t)):=by simp [Program.pointee,hu]
   split at hs
   . split at hs
     . rename_i b hb;obtain⟨o,rfl,rfl⟩:=hx.isNil hb;obtain rfl:=hy.val_inv;obtain rfl:=by simpa using hs
       exact⟨_,by simp [eqGuard,run_eql_pointer_nil w t o hp],.val _⟩
     . simp at hs
   . split at hs
     . rename_i b hb;obtain⟨o,rfl,rfl⟩:=hx.isNil hb;obtain rfl:=hy.val_inv;obtain rfl:=by simpa using hs
       exact⟨_,by simp [eqGuard,run_neq_pointer_nil w t o hp],.val _⟩
     . simp at hs
   . simp at hs
 . cases d<;>simp_all [X69]
theorem ZcF {op:UnOp} {v:Value} {p r:PV} (hx:Rep F φ v p) (hs:X6j op p=some r):∃ val,(Op.unary op v).run P w=.ok val w/\Rep F φ val r:=by
 unfold X6j at hs
 split at hs
 . obtain rfl := hx.val_inv
   split at hs
   . cases hs;exact⟨_,rfl,.val _⟩
   . cases hs;exact⟨_,rfl,.val _⟩
   . simp at hs
 . obtain rfl := hx.val_inv
   split at hs
   . cases hs;exact⟨_,rfl,.val _⟩
   . simp at hs
 . simp at hs
theorem ZN {t:TypeId} {z:List Value} (hz:XJ P t=some z):∃ i v,P.info? t=some i/\i.zero=some v/\z=v.cells.toList/\(∀ u∈z,u.oneCell'=true)/\z.length=i.size/\0<z.length:=by
 unfold XJ at hz
 split at hz
 . rename_i i hi
   split at hz
   . rename_i v hv
     split at hz
     . rename_i hc;obtain rfl:v.cells.toList=z:=by simpa using hz
       simp only [Y0k,YA,Y1s,Y0n] at hc;exact⟨i,v,hi,hv,rfl,hc.1.1,by simp [hc.1.2],by simp [hc.1.2,hc.2]⟩
     . simp at hz
   . simp at hz
 . simp at hz
theorem Z86 (z:List Value) (j:Nat) (hj:j<z.length):(zpv z).getD j pvu=X2p (z.getD j undef):=by
 simp [zpv,Y0b,hj]
theorem ZT {t:TypeId} {i:TypeInfo} {v:Value} (hi:P.info? t=some i) (hv:i.zero=some v):(zeroValue t).run P w=.ok v w:=by
 simp [zeroValue,typeInfo,hi,hv]
theorem Z1m (vs:Array Value) (j:Nat):vs.toList.getD j undef=vs.getD j undef:=by
 simp [Y0b,Y0d]
theorem St'.newVar (s:St' C Fr e h F φ a w) {id:Nat} (hid:Fr id) (t:TypeId) (v:Value) (cs:List PV) (hpos:0<cs.length) (hsz:v.cells.size=cs.length)
 (hr:∀ j,j<cs.length->(v.cells.getD j undef).oneCell'=true/\Rep F φ (v.cells.getD j undef) (cs.getD j pvu)) :
 St' C (fun i=>Fr i/\i≠id) e (h.upd id ⟨cs.length,[cs]⟩) F (Xb φ id ⟨some ⟨w.heap.size,0,none⟩,cs.length,1,1⟩) a (w.alloc (.cells v.cells t)) /\
  Rep F (Xb φ id ⟨some ⟨w.heap.size,0,none⟩,cs.length,1,1⟩) (.pointer (some ⟨w.heap.size,0,none⟩)) (.ptr id 0 0):=by
 refine⟨s.alloc hid v.cells t cs.length 1 1 [cs] hpos rfl (Y0m _) (by simp [Xd]) (by simp) (by omega) (fun i j hi hj=>?_),?_⟩
 . obtain rfl : i = 0 := by omega
   simpa using hr j hj
 . have := Rep.ptr (F := F) (φ := Xb φ id ⟨some ⟨w.heap.size, 0, none⟩, cs.length, 1, 1⟩) id 0 0 _ ⟨w.heap.size, 0, none⟩ (by simp [Xb]; rfl) hpos rfl rfl;simpa using this
theorem Zfd (s:St' C Fr e h F φ a w) {id:Nat} (hid:Fr id) {t:TypeId} {z:List Value} (hz:XJ P t=some z) (old:Value) :
 X4 P C Fr e F φ a w (Instr.alloc t true old) id (.ptr id 0 0) (h.upd id ⟨z.length,[zpv z]⟩):=by
 obtain⟨i,v,hi,hv,rfl,h1,hl,hp⟩:=ZN hz;have hl2:(zpv v.cells.toList).length=v.cells.toList.length:=by simp [zpv]
 obtain⟨s',r'⟩:=s.newVar hid t v (zpv v.cells.toList) (by rw [hl2]; exact hp) (by rw [hl2]; simp) (fun j hj=>by
  rw [hl2] at hj;rw [Z86 _ _ hj,Z1m];refine⟨h1 _ ?_,Z2h _⟩;have:j<v.cells.size:=by simpa using hj
  simp [Array.getD,this])
 rw [hl2] at s' r';exact⟨_,_,F,_,by simp [Instr.alloc,ZT hi hv,Go.newVar,newRow],s'.made,r'⟩
theorem Zjl (s:St' C Fr e h F φ a w) {id:Nat} (hid:Fr id) {t:TypeId} {v:Value} {p:PV} (hv:Rep F φ v p) (hf:p.flat=true) (hp:0<p.cells.length) :
 X4 P C Fr e F φ a w (Instr.box t v) id (.ptr id 0 0) (h.upd id ⟨p.cells.length,[p.cells]⟩):=by
 obtain⟨hc1,hc2⟩:=hv.cellsOf hf;obtain⟨s',r'⟩:=s.newVar hid t v p.cells hp hc1 hc2;exact⟨_,_,F,_,by simp [Instr.box,Go.newVar,newRow],s'.made,r'⟩
def X23 (F:XC) (φ:XE) (vs:Array Value) (l:List PV):Prop:=vs.size=l.length/\∀ i,i<l.length->(vs.getD i undef).oneCell'=true/\Rep F φ (vs.getD i undef) (l.getD i pvu)
theorem X23.zero {z:Array Value} (h1:∀ u∈z.toList,u.oneCell'=true):X23 F φ z (zpv z.toList):=by
 refine⟨by simp [zpv],fun i hi=>?_⟩;have hi':i<z.toList.length:=by simpa [zpv] using hi
 rw [Z86 _ _ hi',Z1m];refine⟨h1 _ ?_,Z2h _⟩;have:i<z.size:=by simpa using hi'
 simp [Array.getD,this]
theorem Z9s (off:Nat) (cs:List Value):∀ (k:Nat) (acc:Array Value),off+k+cs.length<=acc.size ->
 ((cs.zipIdx k).foldl (fun (r:Array Value) (x:Value×Nat)=>r.setIfInBounds (off+x.2) x.1) acc).size=acc.size /\
 ∀ i,((cs.zipIdx k).foldl (fun (r:Array Value) (x:Value×Nat)=>r.setIfInBounds (off+x.2) x.1) acc).getD i undef=if off+k<=i/\i<off+k+cs.length then cs.getD (i-(off+k)) undef else acc.getD i undef:=by
 induction cs with
 | nil=>intro k acc _; simp; intro i h1 h2; omega
 | cons c r ih =>
   intro k acc hle;simp only [Y04] at hle;obtain⟨h1,h2⟩:=ih (k+1) (acc.setIfInBounds (off+k) c) (by simp;omega);simp only [List.zipIdx_cons,Y1d];refine⟨by rw [h1]; simp,fun i=>?_⟩;rw [h2,Z1c _ _ _ _ (by omega)];by_cases hi:i=off+k
   . subst hi;rw [Y8 (by omega),Y7 rfl,Y7 (by simp)];simp
   . rw [Y8 hi];by_cases hr:off+(k+1)<=i/\i<off+(k+1)+r.length
     . rw [Y7 hr, Y7 (by simp; omega)];have:i-(off+k)=(i-(off+(k+1)))+1:=by omega
       rw [this];simp
     . rw [Y8 hr,Y8 (by simp;omega)]
theorem Z2D (l:List PV) (off:Nat) (cs:List PV) (h:off+cs.length<=l.length):(XK l off cs).length=l.length:=by
 simp [XK]; omega
theorem Z5e (l:List PV) (off:Nat) (cs:List PV) (h:off+cs.length<=l.length) (i:Nat):(XK l off cs).getD i pvu=if off<=i/\i<off+cs.length then cs.getD (i-off) pvu else l.getD i pvu:=by
 have hm:min off l.length=off:=by omega
 simp only [XK,Y0b,Y1b];by_cases h1:i<off
 . rw [Y8 (by omega),Y11 (by simp;omega),Y1k,Y7 h1]
 . rw [YV (by simp; omega)];simp only [Y0o,hm];by_cases h2:i<off+cs.length
   . rw [Y7 (by omega),Y11 (by omega)]
   . rw [Y8 (by omega), YV (by omega), Y18];congr 2;omega
theorem X23.set {vs:Array Value} {l:List PV} (hc:X23 F φ vs l) {v:Value} {p:PV} (hv:Rep F φ v p) (hf:p.flat=true) {off:Nat} (hle:off+p.cells.length<=l.length) :
 X23 F φ (v.cells.zipIdx.foldl (fun cs (c,j)=>cs.setIfInBounds (off+j) c) vs) (XK l off p.cells):=by
 obtain⟨h1,h2⟩:=hv.cellsOf hf;have hz:v.cells.zipIdx.foldl (fun cs (c,j)=>cs.setIfInBounds (off+j) c) vs=(v.cells.toList.zipIdx 0).foldl (fun (r:Array Value) (x:Value×Nat)=>r.setIfInBounds (off+x.2) x.1) vs:=by
  rw [<- Y3P]; simp
 have hl:v.cells.toList.length=p.cells.length:=by simpa using h1
 obtain⟨f1,f2⟩:=Z9s off v.cells.toList 0 vs (by rw [hl,hc.1]; simpa using hle);rw [hz];refine⟨by rw [f1,hc.1,Z2D _ _ _ hle],fun i hi=>?_⟩;rw [Z2D _ _ _ hle] at hi;rw [f2,Z5e _ _ _ hle,hl];simp only [YX];by_cases hr:off<=i/\i<off+p.cells.length
 . rw [Y7 hr, Y7 hr, Z1m];exact h2 _ (by omega)
 . rw [Y8 hr, Y8 hr];exact hc.2 i hi
theorem ZdA (s:St' C Fr e h F φ a w) {fs:Array Field} {places:Array (Nat×Nat)} (hpl:∀ (i:Nat) (f:Field) (inf:TypeInfo),fs[i]?=some f->P.info? f.type=some inf->places[i]?=some (f.offset,inf.size)) :
 ∀ (ps : List (Nat × Operand)) (qs : List (Nat × Nat × Operand)) (vs : Array Value) (l r : List PV), X2w P fs ps = some qs -> X23 F φ vs l -> X1P e l qs = some r ->
   ∃ vs',Instr.fill (places[·]?) vs (ps.map fun (i,x)=>(i,a.eval x))=some vs'/\X23 F φ vs' r:=by
 intro ps
 induction ps with
 | nil =>
   intro qs vs l r hq hc hb;obtain rfl : []=qs:=by simpa [X2w] using hq
   obtain rfl:l=r:=by simpa [X1P] using hb
   exact⟨vs,rfl,hc⟩
 | cons q ps ih =>
   intro qs vs l r hq hc hb;obtain⟨i,x⟩:=q;simp only [X2w] at hq
   split at hq
   case h_2=>simp at hq
   rename_i f hf
   split at hq
   case h_2=>simp at hq
   rename_i inf qs' hinf hqs;obtain rfl:=by simpa using hq
   simp only [X1P] at hb
   split at hb
   case h_2=>simp at hb
   rename_i p hp
   split at hb
   case isFalse=>simp at hb
   rename_i hcond;simp only [Y0k,Y1s,Y0n] at hcond;obtain⟨⟨hflat,hsz⟩,hle⟩:=hcond;have hv:=s.eval hp;obtain⟨h1,_⟩:=hv.cellsOf hflat;obtain⟨vs',hfill,hc'⟩:=ih qs' _ _ r hqs (hc.set hv hflat (off:=f.offset) (by omega)) hb;refine⟨vs',?_,hc'⟩;simp only [Y1c,Instr.fill,hpl i f inf hf hinf];rw [Y8 (by simp [h1,hsz,hc.1];omega)];exact hfill
theorem Zfe (s:St' C Fr e h F φ a w) (size:Nat):∀ (ps:List (Nat×Operand)) (vs:Array Value) (l r:List PV),X23 F φ vs l->X1P e l (ps.map fun (k,x)=>(k*size,size,x))=some r ->
 ∃ vs',Instr.fill (fun i=>some (i*size,size)) vs (ps.map fun (i,x)=>(i,a.eval x))=some vs'/\X23 F φ vs' r:=by
 intro ps
 induction ps with
 | nil =>
   intro vs l r hc hb;obtain rfl:l=r:=by simpa [X1P] using hb
   exact⟨vs,rfl,hc⟩
 | cons q ps ih =>
   intro vs l r hc hb;obtain⟨i,x⟩:=q;simp only [Y1c,X1P] at hb
   split at hb
   case h_2=>simp at hb
   rename_i p hp
   split at hb
   case isFalse=>simp at hb
   rename_i hcond;simp only [Y0k,Y1s,Y0n] at hcond;obtain⟨⟨hflat,hsz⟩,hle⟩:=hcond;have hv:=s.eval hp;obtain⟨h1,_⟩:=hv.cellsOf hflat;obtain⟨vs',hfill,hc'⟩:=ih _ _ r (hc.set hv hflat (off:=i*size) (by omega)) hb;refine⟨vs',?_,hc'⟩;simp only [Y1c,Instr.fill];rw [Y8 (by simp [h1,hsz,hc.1];omega)];exact hfill
structure XQ (F:XC) (φ:XE) (esz:Nat) (vs:Array Value) (l:List (List PV)):Prop where
 size:vs.size=l.length*esz
 el:∀ i,i<l.length->(l.getD i []).length=esz
 rep:∀ i j,i<l.length->j<esz->(vs.getD (i*esz+j) undef).oneCell'=true/\Rep F φ (vs.getD (i*esz+j) undef) ((l.getD i []).getD j pvu)
theorem Z2f {i n j esz:Nat} (hi:i<n) (hj:j<esz):i*esz+j<n*esz:=by
 have h4:(i+1)*esz<=n*esz:=YM _ hi;have h5:=Y2Z i esz;simp only [Y2o] at h5;omega
theorem ZaU {i k j esz:Nat} (hj:j<esz) (hne:i≠k):¬ (k*esz<=i*esz+j/\i*esz+j<k*esz+esz):=by
 rintro⟨h1,h2⟩;have h5:=Y2Z i esz;have h6:=Y2Z k esz;simp only [Y2o] at h5 h6;rcases Y32 i k with h|h
 . have h4 : (i + 1) * esz <= k * esz := YM _ h;omega
 . have h4 : (k + 1) * esz <= i * esz := YM _ (by omega);omega
theorem XQ.set {esz:Nat} {vs:Array Value} {l:List (List PV)} (hc:XQ F φ esz vs l) {v:Value} {p:PV} (hv:Rep F φ v p) (hf:p.flat=true) (hsz:p.cells.length=esz) {k:Nat} (hk:k<l.length) :
 XQ F φ esz (v.cells.zipIdx.foldl (fun cs (c,j)=>cs.setIfInBounds (k*esz+j) c) vs) (l.set k p.cells):=by
 obtain⟨h1,h2⟩:=hv.cellsOf hf;have hz:v.cells.zipIdx.foldl (fun cs (c,j)=>cs.setIfInBounds (k*esz+j) c) vs=(v.cells.toList.zipIdx 0).foldl (fun (r:Array Value) (x:Value×Nat)=>r.setIfInBounds (k*esz+x.2) x.1) vs:=by
  rw [<- Y3P]; simp
 have hl:v.cells.toList.length=esz:=by rw [<- hsz]; simpa using h1
 have hle:k*esz+0+esz<=vs.size:=by
  rw [hc.size];have h4:(k+1)*esz<=l.length*esz:=YM _ hk;have h5:=Y2Z k esz;simp only [Y2o] at h5;omega
 obtain⟨f1,f2⟩:=Z9s (k*esz) v.cells.toList 0 vs (by rw [hl]; exact hle);rw [hz];refine⟨by rw [f1,hc.size]; simp,fun i hi=>?_,fun i j hi hj=>?_⟩
 . have hi' : i < l.length := by simpa using hi
   simp only [Y0b,Y1o];by_cases he:k=i
   . subst he; simp [hk,hsz]
   . simp only [he, Y1G];have:=hc.el i hi';simpa [Y0b] using this
 . have hi' : i < l.length := by simpa using hi
   rw [f2,hl];simp only [YX];by_cases he:i=k
   . subst he;rw [Y7 ⟨Y46 _ _,by omega⟩,Z1m];have:(l.set i p.cells).getD i []=p.cells:=by simp [Y0b,hk]
     rw [this,show i*esz+j-i*esz=j by omega];exact h2 j (by omega)
   . rw [Y8 (ZaU hj he)];have:(l.set k p.cells).getD i []=l.getD i []:=by simp [Y0b,Y2t he]
     rw [this];exact hc.rep i j hi' hj
theorem Zff (s:St' C Fr e h F φ a w) (size:Nat):∀ (ps:List (Nat×Operand)) (vs:Array Value) (l r:List (List PV)),XQ F φ size vs l->X1A e size l ps=some r ->
 ∃ vs',Instr.fill (fun i=>some (i*size,size)) vs (ps.map fun (i,x)=>(i,a.eval x))=some vs'/\XQ F φ size vs' r/\r.length=l.length:=by
 intro ps
 induction ps with
 | nil =>
   intro vs l r hc hb;obtain rfl:l=r:=by simpa [X1A] using hb
   exact⟨vs,rfl,hc,rfl⟩
 | cons q ps ih =>
   intro vs l r hc hb;obtain⟨i,x⟩:=q;simp only [X1A] at hb
   split at hb
   case h_2=>simp at hb
   rename_i p hp
   split at hb
   case isFalse=>simp at hb
   rename_i hcond;simp only [Y0k,Y1s,Y0n] at hcond;obtain⟨⟨hflat,hsz⟩,hle⟩:=hcond;have hv:=s.eval hp;obtain⟨h1,_⟩:=hv.cellsOf hflat;obtain⟨vs',hfill,hc',hl'⟩:=ih _ _ r (hc.set hv hflat hsz hle) hb;refine⟨vs',?_,hc',by simpa using hl'⟩;have hb:i*size+size<=vs.size:=by
    rw [hc.size];have h4:(i+1)*size<=l.length*size:=YM _ hle;have h5:=Y2Z i size;simp only [Y2o] at h5;omega
   simp only [Y1c,Instr.fill];rw [Y8 (by simp [h1,hsz];omega)];exact hfill
theorem XQ.zero {z:List Value} (h1:∀ u∈z,u.oneCell'=true) (n:Nat):XQ F φ z.length ((Array.range (n*z.length)).map (z.toArray[· % z.length]!)) (List.replicate n (zpv z)):=by
 refine⟨by simp,fun i hi=>?_,fun i j hi hj=>?_⟩
 . have hi' : i < n := by simpa using hi
   simp [Y0b,hi',zpv]
 . have hi' : i < n := by simpa using hi
   have hlt:=Z2f hi' hj;have hmod:(i*z.length+j) % z.length=j:=by rw [Y33,Y4g,Y1a hj]
   have hget:((Array.range (n*z.length)).map (z.toArray[· % z.length]!)).getD (i*z.length+j) undef=z.getD j undef:=by
    simp only [Y0d,Array.getElem?_map,Array.getElem?_range,Y7 hlt,Y1m,Y1R,hmod];simp [Y0b,hj]
   rw [hget];have:(List.replicate n (zpv z)).getD i []=zpv z:=by simp [Y0b,hi']
   rw [this,Z86 _ _ hj];refine⟨h1 _ ?_,Z2h _⟩;simp [Y0b,hj]
theorem X23.rep {vs:Array Value} {l:List PV} (hc:X23 F φ vs l):Rep F φ (.agg vs) (.agg l):=.agg vs l hc.1 (fun i hi=>(hc.2 i hi).1) fun i hi=>(hc.2 i hi).2
end
section
variable {P:Program} {C:Ctx} {Fr:Nat->Prop} {e:Env} {h:X0} {F:XC} {φ:XE} {a:Act} {w:World}
theorem X3p (s:St' C Fr e h F φ a w) {v:Value} {l:List PV} (hv:Rep F φ v (.cp l)):∃ x:Addr,v=.pointer (some x)/\x.spot=none/\∀ j,j<l.length->∃ c,w.cell? ⟨x.block,x.off+j,none⟩=some c/\c.oneCell'=true/\Rep F φ c (l.getD j pvu):=by
 obtain⟨x,cs,rfl,hs,hF,hR⟩:=hv.cp_inv;exact⟨x,rfl,hs,fun j hj=>⟨cs j,(s.froz _ _ (hF j hj)).2.2,(s.froz _ _ (hF j hj)).2.1,hR j hj⟩⟩
theorem Z5V {agg:Bool} {size off:Nat} {l:List PV} {p:PV} (h:X1t agg size off l=some p):off+size<=l.length:=by
 unfold X1t at h
 split at h
 . assumption
 . simp at h
theorem Zhq (s:St' C Fr e h F φ a w) {id:Nat} {t:TypeId} {agg:Bool} {size:Nat} (hlay:XY P t=some (agg,size)) {x:Operand} {p:PV} {h':X0} (hd:X1 (.load agg size x) e h id=some (p,h')) :
 X4 P C Fr e F φ a w (Instr.loadAt t (a.eval x)) id p h':=by
 simp only [X1] at hd
 split at hd
 . rename_i l hl
   split at hd
   . rename_i q hq;cases hd;obtain⟨ad,hv,hs,hc⟩:=X3p s (s.eval hl);have hle:=Z5V hq;obtain⟨val,hr,hrep⟩:=Z4x (w:=w) hlay hs hq (fun j hj=>by simpa using hc j (by omega));exact X4.quiet s (by simp [Instr.loadAt,hv,Instr.sureAddr,hr]) hrep
   . simp at hd
 . rename_i k i off hl
   split at hd
   . rename_i b hb
     split at hd
     case isFalse=>simp at hd
     rename_i hi
     split at hd
     . rename_i q hq;cases hd;obtain⟨loc,ad,hloc,hz,hbase,hs,hv⟩:=(s.eval hl).ptr_inv;have hle:=Z5V hq;obtain⟨loc',h1,h2,_⟩:=s.live k b hb;obtain rfl:loc'=loc:=by rw [h1] at hloc; simpa using hloc
       have h2:=h2.cells hz;have hel:(b.elems.getD i []).length=b.esz:=by
        rw [h2.esz];refine h2.el _ ?_;simp [Y0b,hi]
       obtain⟨val,hr,hrep⟩:=Z4x (w:=w) (ad:=⟨ad.block,ad.off+(i*loc'.esz+off),none⟩) hlay rfl hq (fun j hj=>by
        have:=s.objCell hb hloc hi (j:=off+j) (by omega) hbase;rw [show ad.off+(i*loc'.esz+(off+j))=ad.off+(i*loc'.esz+off)+j by omega] at this
        exact this)
       exact X4.quiet s (by simp [Instr.loadAt,hv,Instr.sureAddr,hr]) hrep
     . simp at hd
   . simp at hd
 . simp at hd
theorem Zfg (s:St' C Fr e h F φ a w) {id:Nat} {t:TypeId} {i:Nat} {fs:Array Field} {f:Field} {inf:TypeInfo} (hu:P.underlying t=some (.struct fs)) (hf:fs[i]?=some f) (hi:P.info? f.type=some inf) (hp:0<inf.size)
 {x:Operand} {p:PV} {h':X0} (hd:X1 (.faddr f.offset x) e h id=some (p,h')):X4 P C Fr e F φ a w (Instr.fieldAt t (a.eval x) i) id p h':=by
 have hne:inf.size≠0:=by omega
 have hfp:∀ ad:Addr,(fieldPlace ad f).run P w=.ok (ad.add f.offset) w:=fun ad=>by
  simp [fieldPlace,Zd hi,hne]
 simp only [X1] at hd
 split at hd
 . rename_i l hl;cases hd;obtain⟨ad,cs,hv,hs,hF,hR⟩:=(s.eval hl).cp_inv;refine X4.quiet s (val:=.pointer (some (ad.add f.offset))) (by simp [Instr.fieldAt,Y6 hu,hf,hv,Instr.sureAddr,hfp]) ?_;rw [Z10 _ _ hs];refine .cp _ _ (fun j=>cs (f.offset+j)) rfl (fun j hj=>?_) (fun j hj=>?_)
   . have : f.offset + j < l.length := by simp at hj; omega
     simpa [YL] using hF _ this
   . have : f.offset + j < l.length := by simp at hj; omega
     simpa [Y0b] using hR _ this
 . rename_i k i0 o hl;cases hd;obtain⟨loc,ad,hloc,hz,hbase,hs,hv⟩:=(s.eval hl).ptr_inv
   refine X4.quiet s (val:=.pointer (some ⟨ad.block,ad.off+(i0*loc.esz+(o+f.offset)),none⟩)) (by
    simp [Instr.fieldAt,Y6 hu,hf,hv,Instr.sureAddr,hfp,Addr.add_lit,YL]) (.ptr k i0 _ loc ad hloc hz hbase hs)
 . simp at hd
theorem Zfh (s:St' C Fr e h F φ a w) {id:Nat} {x:Operand} {p:PV} {h':X0} (hd:X1 (.nilck x) e h id=some (p,h')):h'=h/\Rep F φ (a.eval x) p/\((∃ ad,a.eval x=.pointer (some ad)) \/ ∃ f vs,a.eval x=.func (.func f) #[] vs):=by
 simp only [X1] at hd
 split at hd
 . rename_i l hl;cases hd;obtain⟨ad,cs,hv,_⟩:=(s.eval hl).cp_inv;exact⟨rfl,s.eval hl,.inl ⟨_,hv⟩⟩
 . rename_i k i off hl;cases hd;obtain⟨loc,ad,hloc,hz,hbase,hs,hv⟩:=(s.eval hl).ptr_inv;exact⟨rfl,s.eval hl,.inl ⟨_,hv⟩⟩
 . rename_i f l hl;cases hd;obtain⟨vs,hv,_⟩:=(s.eval hl).fn_inv;exact⟨rfl,s.eval hl,.inr ⟨_,_,hv⟩⟩
 . simp at hd
theorem Zfi (s:St' C Fr e h F φ a w) {id:Nat} {t:TypeId} {i:Nat} {fs:Array Field} {f:Field} {agg:Bool} {size:Nat} (hu:P.underlying t=some (.struct fs)) (hf:fs[i]?=some f) (hlay:XY P f.type=some (agg,size))
 {x:Operand} {p:PV} {h':X0} (hd:X1 (.field agg size f.offset x) e h id=some (p,h')):X4 P C Fr e F φ a w (Instr.field t (a.eval x) i) id p h':=by
 simp only [X1] at hd
 split at hd
 . rename_i l hl
   split at hd
   . rename_i q hq;cases hd;obtain⟨vs,hv,h1,h2,h3⟩:=(s.eval hl).agg_inv;obtain⟨val,hr,hrep⟩:=Z3N (w:=w) hlay hq h1 h2 h3;exact X4.quiet s (by simp [Instr.field,Y6 hu,hf,hv,asAgg,hr]) hrep
   . simp at hd
 . simp at hd
theorem Zfj (s:St' C Fr e h F φ a w) {id:Nat} {t el:TypeId} {inf:TypeInfo} (hu:P.underlying t=some (.slice el)) (hi:P.info? el=some inf)
 {x i:Operand} {p:PV} {h':X0} (hd:X1 (.iaddr inf.size x i) e h id=some (p,h')):X4 P C Fr e F φ a w (Instr.indexAt t (a.eval x) (a.eval i)) id p h':=by
 have hel:P.elem t=el:=by simp [Program.elem,hu]
 have hu':P.underlying t=some (.slice (P.elem t)):=by rw [hel]; exact hu
 simp only [X1] at hd
 split at hd
 . rename_i l full k n hx hn
   split at hd
   case isFalse=>simp at hd
   rename_i hb
   split at hd
   case isFalse=>simp at hd
   rename_i hlen;cases hd;have hvn:=(s.eval hn).val_inv;have hlt:n.toNat<l.length:=by omega
   rcases (s.eval hx).vec_inv with⟨rfl,_⟩|⟨ad,cap,esz,cs,hv,hs,hcap,_,_,he,hF,hR⟩
   . simp at hlt
   have hesz:esz=inf.size:=by rw [<- hlen]; exact (he _ hlt).symm
   subst hesz
   refine X4.quiet s (val:=.pointer (some (ad.add (n.toNat*inf.size)))) (by
    rw [hv,hvn,Y2B w t ad l.length cap k n hu',Y7 hb,hel,Zd hi]; rfl) ?_
   rw [Z10 _ _ (hs (by rintro rfl; simp at hlt))];refine .cp _ _ (fun j=>cs n.toNat j) rfl (fun j hj=>?_) (fun j hj=>?_)
   . have := hF n.toNat j hlt (by omega);simpa [YL] using this
   . exact hR n.toNat j hlt (by omega)
 . rename_i k kk n hx hn
   split at hd
   . rename_i b hb
     split at hd
     case isFalse=>simp at hd
     rename_i hbd
     split at hd
     case isFalse=>simp at hd
     rename_i hlen;cases hd;have hvn:=(s.eval hn).val_inv;obtain⟨loc',h1,hz,hv⟩:=(s.eval hx).own_inv;obtain⟨h2,_⟩:=s.cellAt hb h1 hz;have hlt:n.toNat<b.elems.length:=by omega
     have hl2:=h2.len;have hc:loc'.cap≠0:=by have:=h2.cap; omega
     obtain⟨ad,hbase,hs,_⟩:=h2.room hc;have hbd':0<=n/\n<(loc'.len:Int):=by rw [<- hl2]; exact hbd
     refine X4.quiet s (val:=.pointer (some (ad.add (n.toNat*inf.size)))) (by
      rw [hv,hvn,hbase,Y2B w t ad loc'.len loc'.cap kk n hu',Y7 hbd',hel,Zd hi]; rfl) ?_
     rw [Z10 _ _ hs];have:=Rep.ptr (F:=F) (φ:=φ) k n.toNat 0 loc' ad h1 hz hbase hs;rw [<- h2.esz,hlen] at this;simpa using this
   . simp at hd
 . rename_i k lo len kk n hx hn
   split at hd
   . rename_i b hb
     split at hd
     case isFalse=>simp at hd
     rename_i hbd
     split at hd
     case isFalse=>simp at hd
     rename_i hlen;cases hd;have hvn:=(s.eval hn).val_inv;obtain⟨loc,base,hloc,hz,hcap,hbs,hv⟩:=(s.eval hx).view_inv;obtain⟨loc',h1,h2,_⟩:=s.live k b hb;obtain rfl:loc'=loc:=by rw [h1] at hloc; simpa using hloc
     have h2:=h2.cells hz;have hl2:=h2.len;have hc:loc'.cap≠0:=by have:=h2.cap; omega
     obtain⟨ad,hbase,hs,_⟩:=h2.room hc;have hbv:=hbs (by omega);rw [hbase] at hbv;have hbd':0<=n/\n<(len:Int):=⟨hbd.1,hbd.2.1⟩
     refine X4.quiet s (val:=.pointer (some ((ad.add (lo*loc'.esz)).add (n.toNat*inf.size)))) (by
      rw [hv,hvn,hbv,Y1m,Y2B w t _ len _ kk n hu',Y7 hbd',hel,Zd hi]; rfl) ?_
     rw [Z10 _ _ hs,Z10 _ _ rfl];have:=Rep.ptr (F:=F) (φ:=φ) k (lo+n.toNat) 0 loc' ad h1 hz hbase hs;rw [<- h2.esz,hlen,Y1i] at this;rw [<- h2.esz,hlen];simpa [YL] using this
   . simp at hd
 . rename_i k i0 o len cap kk n hx hn
   split at hd
   case isFalse=>simp at hd
   rename_i hbd;obtain⟨b0,b1,b2⟩:=hbd;cases hd;have hvn:=(s.eval hn).val_inv;obtain⟨loc,ad,hloc,hz,hbase,hs,hl,hv⟩:=(s.eval hx).sl_inv
   refine X4.quiet s (val:=.pointer (some ((⟨ad.block,ad.off+(i0*loc.esz+o),none⟩:Addr).add (n.toNat*inf.size)))) (by
    rw [hv,hvn,Y2B w t _ len _ kk n hu',Y7 ⟨b0,b1⟩,hel,Zd hi]; rfl) ?_
   rw [Z10 _ _ rfl,b2,Y24];have:=Rep.ptr (F:=F) (φ:=φ) k i0 (o+n.toNat) loc ad hloc hz hbase hs;rw [show ad.off+(i0*loc.esz+o)+n.toNat=ad.off+(i0*loc.esz+(o+n.toNat)) by omega];exact this
 . simp at hd
theorem ZdB (s:St' C Fr e h F φ a w) {id:Nat} {t el:TypeId} {n:Nat} {inf:TypeInfo} (hu:P.underlying t=some (.array n el)) (hi:P.info? el=some inf)
 {x i:Operand} {p:PV} {h':X0} (hd:X1 (.iaddrA n inf.size x i) e h id=some (p,h')):X4 P C Fr e F φ a w (Instr.indexAt t (a.eval x) (a.eval i)) id p h':=by
 have hel:P.elem t=el:=by simp [Program.elem,hu]
 have hlen:P.arrayLen t=n:=by simp [Program.arrayLen,hu]
 have hu':P.underlying t=some (.array (P.arrayLen t) (P.elem t)):=by rw [hel,hlen]; exact hu
 simp only [X1] at hd
 split at hd
 . rename_i l k j hx hn
   split at hd
   case isFalse=>simp at hd
   rename_i hb;cases hd;have hvn:=(s.eval hn).val_inv;obtain⟨ad,cs,hv,hs,hF,hR⟩:=(s.eval hx).cp_inv
   refine X4.quiet s (val:=.pointer (some (ad.add (j.toNat*inf.size)))) (by
    rw [hv,hvn,run_indexAt_array w t ad k j hu',Y7 (by rw [hlen]; exact hb),hel,Zd hi]; rfl) ?_
   rw [Z10 _ _ hs];refine .cp _ _ (fun q=>cs (j.toNat*inf.size+q)) rfl (fun q hq=>?_) (fun q hq=>?_)
   . have : j.toNat * inf.size + q < l.length := by simp at hq; omega
     simpa [YL] using hF _ this
   . have : j.toNat * inf.size + q < l.length := by simp at hq; omega
     simpa [Y0b] using hR _ this
 . rename_i k i0 o kk j hx hn
   split at hd
   case isFalse=>simp at hd
   rename_i hb;cases hd;have hvn:=(s.eval hn).val_inv;obtain⟨loc,ad,hloc,hz,hbase,hs,hv⟩:=(s.eval hx).ptr_inv
   refine X4.quiet s (val:=.pointer (some ⟨ad.block,ad.off+(i0*loc.esz+(o+j.toNat*inf.size)),none⟩)) (by
    rw [hv,hvn,run_indexAt_array w t _ kk j hu',Y7 (by rw [hlen]; exact hb),hel,Zd hi]
    simp [Addr.add_lit,YL]) (.ptr k i0 _ loc ad hloc hz hbase hs)
 . simp at hd
theorem ZdC (s:St' C Fr e h F φ a w) {id:Nat} {t el:TypeId} {n:Nat} {agg:Bool} {size:Nat} (hu:P.underlying t=some (.array n el)) (hlay:XY P el=some (agg,size))
 {x i:Operand} {p:PV} {h':X0} (hd:X1 (.indexA agg n size x i) e h id=some (p,h')):X4 P C Fr e F φ a w (Instr.index t (a.eval x) (a.eval i)) id p h':=by
 have hsz:(sizeOf el).run P w=.ok size w:=by
  cases agg with
  | true=>obtain⟨d,inf,_,_,hi,rfl⟩:=Z4w hlay; exact Zd hi
  | false=>obtain⟨rfl,d,inf,_,_,hi,h1⟩:=Z2u hlay; rw [<- h1]; exact Zd hi
 simp only [X1] at hd
 split at hd
 . rename_i l k j hx hn
   split at hd
   case isFalse=>simp at hd
   rename_i hb
   split at hd
   . rename_i q hq;cases hd;have hvn:=(s.eval hn).val_inv;obtain⟨vs,hv,h1,h2,h3⟩:=(s.eval hx).agg_inv;obtain⟨val,hr,hrep⟩:=Z3N (w:=w) hlay hq h1 h2 h3;exact X4.quiet s (by simp [Instr.index,Y6 hu,hv,hvn,asIntOf,hb,hsz,hr]) hrep
   . simp at hd
 . simp at hd
theorem ZdD (s:St' C Fr e h F φ a w) {id:Nat} {t:TypeId} (hu:P.underlying t=some .string)
 {x i:Operand} {p:PV} {h':X0} (hd:X1 (.indexS x i) e h id=some (p,h')):X4 P C Fr e F φ a w (Instr.index t (a.eval x) (a.eval i)) id p h':=by
 simp only [X1] at hd
 split at hd
 . rename_i str k j hx hn
   split at hd
   case isFalse=>simp at hd
   rename_i hb;cases hd;have hvn:=(s.eval hn).val_inv;have hv:=(s.eval hx).val_inv;have hlt:j.toNat<str.size:=by omega
   refine X4.quiet s (val:=.int .u8 (str.data.toList.getD j.toNat 0).toNat) ?_ (.val _);have hg:str[j.toNat]?=some str[j.toNat]:=by simp [hlt]
   simp only [Instr.index,YT,hvn,asIntOf,Y1C,YG,Y6 hu,hv];rw [Y7 hb.1,hg];have:str.data.toList.getD j.toNat 0=str[j.toNat]:=by
    rw [Y0b,Y2J];have h1:j.toNat<str.data.size:=hlt;rw [Y1r h1]
    rfl
   simp only [Y1C,YG,this]
 . simp at hd
theorem Zjm (s:St' C Fr e h F φ a w) {id:Nat} {t ty el:TypeId} (hu:P.underlying t=some (.slice el))
 {x:Operand} {p:PV} {h':X0} (hd:X1 (.len x) e h id=some (p,h')):X4 P C Fr e F φ a w (Builtin.len_ #[t] ty #[a.eval x]) id p h':=by
 simp only [X1] at hd
 split at hd
 . rename_i l full hx;cases hd;rcases (s.eval hx).vec_inv with⟨rfl,hv⟩|⟨ad,cap,esz,cs,hv,_⟩
   . exact X4.quiet s (val:=.int .i64 0) (by simp [Builtin.len_,Y6 hu,hv,goInt]) (.val _)
   . exact X4.quiet s (val:=.int .i64 l.length) (by simp [Builtin.len_,Y6 hu,hv,goInt]) (.val _)
 . rename_i k hx
   split at hd
   . rename_i b hb;cases hd;obtain⟨loc',h1,hz,hv⟩:=(s.eval hx).own_inv;obtain⟨h2,_⟩:=s.cellAt hb h1 hz;exact X4.quiet s (val:=.int .i64 b.elems.length) (by simp [Builtin.len_,Y6 hu,hv,goInt,<- h2.len]) (.val _)
   . simp at hd
 . rename_i k lo n hx;cases hd;obtain⟨loc,base,hloc,hz,hcap,hbs,hv⟩:=(s.eval hx).view_inv;exact X4.quiet s (val:=.int .i64 n) (by simp [Builtin.len_,Y6 hu,hv,goInt]) (.val _)
 . rename_i k i0 o n cap hx;cases hd;obtain⟨loc,ad,hloc,hz,hbase,hs,hl,hv⟩:=(s.eval hx).sl_inv;exact X4.quiet s (val:=.int .i64 n) (by simp [Builtin.len_,Y6 hu,hv,goInt]) (.val _)
 . simp at hd
theorem Zhr (s:St' C Fr e h F φ a w) {id:Nat} {t ty:TypeId} (hu:P.underlying t=some .string)
 {x:Operand} {p:PV} {h':X0} (hd:X1 (.lenS x) e h id=some (p,h')):X4 P C Fr e F φ a w (Builtin.len_ #[t] ty #[a.eval x]) id p h':=by
 simp only [X1] at hd
 split at hd
 . rename_i str hx;cases hd;have hv:=(s.eval hx).val_inv;exact X4.quiet s (val:=.int .i64 str.size) (by simp [Builtin.len_,Y6 hu,hv,goInt]) (.val _)
 . simp at hd
theorem Z7o (s:St' C Fr e h F φ a w) {id:Nat} (hid:Fr id) {t el:TypeId} {z:List Value} {n:Nat} {parts:Array (Nat×Operand)} (hu:P.underlying t=some (.slice el)) (hz:XJ P el=some z) (hle:n*z.length<=16777216)
 {l:List (List PV)} (hb:X1A e z.length (List.replicate n (zpv z)) parts.toList=some l) :
 ∃ vs':Array Value,(Instr.buildSlice t n (parts.map fun (i,x)=>(i,a.eval x))).run P w=.ok (.slice (some ⟨w.heap.size,0,none⟩) n n) (w.alloc (.cells vs' el))/\XQ F φ z.length vs' l/\l.length=n:=by
 obtain⟨i,v,hi,hv,rfl,h1,hl,hp⟩:=ZN hz;have hl':i.size=v.cells.size:=by simpa using hl.symm
 obtain⟨vs',hfill,hc,hlen⟩:=Zff s v.cells.toList.length parts.toList _ _ _ (XQ.zero (F:=F) (φ:=φ) h1 n) hb;refine⟨vs',?_,hc,by simpa using hlen⟩;have hfill':Instr.fill (fun j=>some (j*i.size,i.size)) ((Array.range (n*i.size)).map (v.cells[· % v.cells.size]!)) (parts.toList.map fun (i,x)=>(i,a.eval x))=some vs':=by
  rw [<- hfill];simp only [Y2N,hl];rw [hl']
 have hnle:¬ (16777216<n*i.size):=by rw [<- hl]; omega
 simp only [Instr.buildSlice,YT,Y6 hu,YG,Zd hi,Nat.reducePow];rw [Y8 (by simpa using hnle)];by_cases hn:n*i.size=0
 . rw [Y7 hn];rw [hn] at hfill' ⊢;simp only [Array.range_zero',List.map_toArray,List.map_nil] at hfill';simp [Array.range_zero',hfill',newRow]
 . rw [Y8 hn];simp [ZT hi hv,hfill',newRow]
end
section
variable {P:Program} {C:Ctx} {Fr:Nat->Prop} {e:Env} {h:X0} {F:XC} {φ:XE} {a:Act} {w:World}
theorem St'.allocBlock (s:St' C Fr e h F φ a w) (o:Obj):St' C Fr e h F φ a (w.alloc o):=by
 have hold:∀ k,k<w.heap.size->(w.alloc o).heap[k]?=w.heap[k]?:=fun k hk=>Y4c w _ k hk
 refine { nt := s.nt, glob := s.glob, marks := s.marks.mono (fun k hk => by rw [hold k (Y9.1 hk).1]; exact hk), loc0 := s.loc0, free := s.free, env := s.env, froz := fun x v hx => ?_, ext := s.ext, old := s.old, os := s.os, tape := s.tape, output := s.output,
          size:=by have:=s.size; simp; omega,kept:=fun k hk hG=>by rw [hold k (by have:=s.size;omega)]; exact s.kept k hk hG,live:=fun i b hb=>?_,sep:=s.sep }
 . obtain ⟨h1, h2, h3⟩ := s.froz x v hx;exact⟨h1,h2,by rw [Y1Y (w:=w) (hold _ (Y3h h3))]; exact h3⟩
 . obtain ⟨loc, h1, h2, h3⟩ := s.live i b hb;exact⟨loc,h1,h2.mono (fun _ _ h=>h) (fun _ _ h=>h) (fun k hk=>hold k (s.has_lt hb h1 hk)),h3⟩
def XP (F:XC) (g:Nat) (cells:Array Value):XC:=fun x =>
 if x.block=g then (if x.spot=none then (match cells[x.off]? with|some v=>if v.oneCell'=true then some v else none|none=>none) else none) else F x
theorem Z2p (F:XC) (g:Nat) (cells:Array Value) {o:Nat} (ho:o<cells.size) (h1:(cells.getD o undef).oneCell'=true):XP F g cells ⟨g,o,none⟩=some (cells.getD o undef):=by
 have hg:cells[o]?=some (cells.getD o undef):=by simp [Array.getD,ho]
 simp only [XP,Y1P];rw [hg];simp only [h1,Y1P]
theorem Z2v {g:Nat} (hF:∀ x:Addr,x.block=g->F x=none) (cells:Array Value):∀ x v,F x=some v->XP F g cells x=some v:=by
 intro x v hx;have:x.block≠g:=fun e=>by rw [hF x e] at hx; cases hx
 simp [XP,this,hx]
theorem St'.frz (s:St' C Fr e h F φ a w) {g:Nat} {cells:Array Value} {t:TypeId} {fr:Nat×Nat} (hg:w.heap[g]?=some (.cells cells t fr)) (hF:∀ x:Addr,x.block=g->F x=none)
 (hno:∀ i b loc,h i=some b->φ i=some loc->¬ loc.has g) (hown:C.w0.heap.size<=g \/ C.G g):St' C Fr e h (XP F g cells) φ a w:=by
 have hext:=Z2v hF cells
 refine { nt := s.nt, glob := fun g j v hv => hext _ _ (s.glob g j v hv), marks := s.marks, loc0 := s.loc0, free := s.free, env := fun k p hp => ⟨(s.env k p hp).1, (s.env k p hp).2.mono hext fun _ _ h => h⟩, froz := fun x v hx => ?_, ext := fun x v hx => hext _ _ (s.ext x v hx), old := fun x hx hG => ?_,
          os:=s.os,tape:=s.tape,output:=s.output,size:=s.size,kept:=s.kept,live:=fun i b hb=>?_,sep:=s.sep }
 . by_cases hb : x.block = g
   . simp only [XP, hb, Y1P] at hx
     split at hx
     case isFalse=>cases hx
     rename_i hs
     split at hx
     case h_2=>cases hx
     rename_i u hu
     split at hx
     case isFalse=>cases hx
     rename_i h1;cases hx;refine⟨hs,h1,?_⟩;rw [Z4v x hs,hb,cell_of_row w g _ cells t fr hg];exact hu
   . simp only [XP, hb, Y1G] at hx;exact s.froz x v hx
 . have : x.block ≠ g := by
    rintro rfl;rcases hown with h' | h'
    . omega
    . exact hG h'
   simp only [XP,this,Y1G];exact s.old x hx hG
 . obtain ⟨loc, h1, h2, h3⟩ := s.live i b hb;refine⟨loc,h1,h2.mono hext (fun _ _ h=>h) (fun _ _=>rfl),fun k hk=>⟨(h3 k hk).1,fun x hx=>?_⟩⟩;have:x.block≠g:=by rintro rfl; subst hx; exact hno i b loc hb h1 hk
   simp only [XP,this,Y1G];exact (h3 k hk).2 x hx
theorem St'.allocFrz (s:St' C Fr e h F φ a w) (cells:Array Value) (t:TypeId):St' C Fr e h (XP F w.heap.size cells) φ a (w.alloc (.cells cells t))/\∀ x v,F x=some v->XP F w.heap.size cells x=some v:=by
 have hF:∀ x:Addr,x.block=w.heap.size->F x=none:=fun x hx=>by
  cases hFx:F x with
  | none=>rfl
  | some v=>have:=s.lt hFx; omega
 refine⟨(s.allocBlock (.cells cells t)).frz (Y35 w _) hF (fun i b loc hb hl hk=>?_) (.inl s.size),Z2v hF cells⟩;have:=s.has_lt hb hl hk;omega
theorem Rep.frozVec {vs:Array Value} {esz:Nat} {l:List (List PV)} (hc:XQ F φ esz vs l) (g:Nat) (hF:∀ x v,F x=some v->XP F g vs x=some v) {cap:Nat} (hcap:l.length<=cap) {full:Bool} (hfull:full=true->cap=l.length) (hmax:l.length<=Xd) :
 Rep (XP F g vs) φ (.slice (some ⟨g,0,none⟩) l.length cap) (.vec l full):=by
 refine .vec ⟨g,0,none⟩ cap esz l full (fun i j=>vs.getD (i*esz+j) undef) (fun _=>rfl) hcap hfull hmax hc.el (fun i j hi hj=>?_) (fun i j hi hj=>(hc.rep i j hi hj).2.mono hF fun _ _ h=>h);simp only [YQ];exact Z2p F g vs (by rw [hc.size]; exact Z2f hi hj) (hc.rep i j hi hj).1
theorem Rep.frozCp {vs:Array Value} {l:List PV} (hc:X23 F φ vs l) (g:Nat) (hF:∀ x v,F x=some v->XP F g vs x=some v):Rep (XP F g vs) φ (.pointer (some ⟨g,0,none⟩)) (.cp l):=by
 refine .cp ⟨g,0,none⟩ l (fun j=>vs.getD j undef) rfl (fun j hj=>?_) (fun j hj=>(hc.2 j hj).2.mono hF fun _ _ h=>h);simp only [YQ];exact Z2p F g vs (by rw [hc.1]; exact hj) (hc.2 j hj).1
theorem ZdE (s:St' C Fr e h F φ a w) (id:Nat) {t:TypeId} {z:List Value} (hz:XJ P t=some z) (old:Value):X4 P C Fr e F φ a w (Instr.alloc t true old) id (.cp (zpv z)) h:=by
 obtain⟨i,v,hi,hv,rfl,h1,hl,hp⟩:=ZN hz;obtain⟨s',hx⟩:=s.allocFrz v.cells t;exact⟨_,_,_,φ,by simp [Instr.alloc,ZT hi hv,Go.newVar,newRow],s'.weaken fun _ h=>h.1,Rep.frozCp (X23.zero h1) _ hx⟩
theorem Zhs (s:St' C Fr e h F φ a w) (id:Nat) {t:TypeId} {v:Value} {p:PV} (hv:Rep F φ v p) (hf:p.flat=true):X4 P C Fr e F φ a w (Instr.box t v) id (.cp p.cells) h:=by
 obtain⟨s',hx⟩:=s.allocFrz v.cells t;exact⟨_,_,_,φ,by simp [Instr.box,Go.newVar,newRow],s'.weaken fun _ h=>h.1,Rep.frozCp (hv.cellsOf hf) _ hx⟩
theorem ZaV (s:St' C Fr e h F φ a w) {id:Nat} (hid:Fr id) {t el:TypeId} {z:List Value} {n:Nat} {parts:Array (Nat×Operand)} (hu:P.underlying t=some (.slice el)) (hz:XJ P el=some z) (hle:n*z.length<=16777216)
 {l:List (List PV)} (hb:X1A e z.length (List.replicate n (zpv z)) parts.toList=some l):X4 P C Fr e F φ a w (Instr.buildSlice t n (parts.map fun (i,x)=>(i,a.eval x))) id (.vec l true) h:=by
 obtain⟨vs',hr,hc,hl⟩:=Z7o s hid hu hz hle hb;obtain⟨s',hx⟩:=s.allocFrz vs' el;obtain⟨_,_,_,_,_,_,_,hp⟩:=ZN hz;have hn:n<=16777216:=Y03 (Y3b _ hp) hle;have:=Rep.frozVec hc w.heap.size hx (cap:=n) (full:=true) (by omega) (fun _=>hl.symm) (by simp [Xd];omega);rw [hl] at this;exact⟨_,_,_,φ,hr,s'.weaken fun _ h=>h.1,this⟩
theorem ZaW (s:St' C Fr e h F φ a w) {id:Nat} (hid:Fr id) {t el:TypeId} {z:List Value} {n:Nat} {parts:Array (Nat×Operand)} (hu:P.underlying t=some (.slice el)) (hz:XJ P el=some z) (hle:n*z.length<=16777216)
 {l:List (List PV)} (hb:X1A e z.length (List.replicate n (zpv z)) parts.toList=some l):X4 P C Fr e F φ a w (Instr.buildSlice t n (parts.map fun (i,x)=>(i,a.eval x))) id (.own id) (h.upd id ⟨z.length,l⟩):=by
 obtain⟨vs',hr,hc,hl⟩:=Z7o s hid hu hz hle hb;obtain⟨_,_,_,_,_,_,_,hp⟩:=ZN hz;have hn:n<=16777216:=Y03 (Y3b _ hp) hle;refine⟨_,_,F,_,hr,St'.made <| s.alloc hid vs' el z.length n n l hp hl (Y0m _) (by simp [Xd];omega) (fun c hc'=>?_) (by rw [hc.size,hl]; exact Y0m _) (fun i j hi hj=>hc.rep i j (by omega) hj),?_⟩
 . obtain ⟨k, hk, rfl⟩ := YE hc';have:=hc.el k hk;simpa [Y0b,hk] using this
 . exact .own id ⟨some ⟨w.heap.size,0,none⟩,z.length,n,n⟩ (by simp [Xb]) (ZN hz).choose_spec.choose_spec.2.2.2.2.2
theorem Z36 (cur:Array Value) (o:Nat) (vs:List Value) (hle:o+vs.length<=cur.size) (i:Nat):(cur.toList.take o++vs++cur.toList.drop (o+vs.length)).toArray.getD i undef=if o<=i/\i<o+vs.length then vs.getD (i-o) undef else cur.getD i undef:=by
 have hm:min o cur.size=o:=by omega
 simp only [Y0d,List.getElem?_toArray,Y1b,Y0b];by_cases h1:i<o
 . rw [Y8 (by omega),Y11 (by simp;omega),Y1k,Y7 h1,Y2J]
 . rw [YV (by simp; omega)];simp only [Y0o,Y26,hm];by_cases h2:i<o+vs.length
   . rw [Y7 (by omega),Y11 (by omega)]
   . rw [Y8 (by omega), YV (by omega), Y18, Y2J];congr 2;omega
theorem Zfk (s:St' C Fr e h F φ a w) {id:Nat} {t:TypeId} {agg:Bool} {size:Nat} (hlay:XY P t=some (agg,size)) {x y:Operand} {p:PV} {h':X0} (hd:X1 (.store size x y) e h id=some (p,h')) :
 p=pvu/\∃ w',(Instr.storeAt t (a.eval x) (a.eval y)).run P w=.ok () w'/\St' C Fr e h' F φ a w':=by
 have hsize:(sizeOf t).run P w=.ok size w:=by
  cases agg with
  | true=>obtain⟨d,inf,_,_,hi,rfl⟩:=Z4w hlay; exact Zd hi
  | false=>obtain⟨rfl,d,inf,_,_,hi,h1⟩:=Z2u hlay; rw [<- h1]; exact Zd hi
 simp only [X1] at hd
 split at hd
 case h_2=>simp at hd
 rename_i k i off q hx hy
 split at hd
 case h_2=>simp at hd
 rename_i b hb
 split at hd
 case isFalse=>simp at hd
 rename_i hcond;simp only [Y0k,Y1s,Y0n] at hcond;obtain⟨⟨⟨hflat,hsz⟩,hi⟩,hoff⟩:=hcond;cases hd;refine⟨rfl,?_⟩;obtain⟨hc1,hc2⟩:=(s.eval hy).cellsOf hflat;obtain⟨loc',ad,h1,hz,hbase,hs,hv⟩:=(s.eval hx).ptr_inv;obtain⟨h2,h3⟩:=s.cellAt hb h1 hz;have hilen:i<loc'.len:=by rw [<- h2.len]; exact hi
 have hcapne:loc'.cap≠0:=by have:=h2.cap; omega
 obtain⟨ad',hbase',_,cells,ct,hg,hroom,hrep⟩:=h2.room hcapne;obtain rfl:ad'=ad:=by rw [hbase] at hbase'; simpa using hbase'.symm
 have hesz:b.esz=loc'.esz:=h2.esz;have hcl:(b.elems.getD i []).length=loc'.esz:=h2.el _ (by simp [Y0b,hi]);have hpos:ad'.off+(i*loc'.esz+off)+(a.eval y).cells.toList.length<=cells.size:=by
  have:=Z2f (esz:=loc'.esz) (j:=loc'.esz-1) (YW hilen h2.cap) (by have:=h2.pos;omega);have hl:(a.eval y).cells.toList.length=size:=by rw [<- hsz]; simpa using hc1
  have:=h2.pos;omega
 have hlen:(a.eval y).cells.toList.length=size:=by rw [<- hsz]; simpa using hc1
 have hst:=Y37 P ad'.block (ad'.off+(i*loc'.esz+off)) ct (a.eval y).cells.toList 0 cells w hg (by simpa using hpos) (fun v hv=>by
  obtain⟨j,hj,rfl⟩:=YE hv;have:=(hc2 j (by rw [hsz,<- hlen]; exact hj)).1;have hj':j<(a.eval y).cells.size:=by simpa using hj
  simpa [Array.getD,hj'] using this)
 simp only [YX] at hst;generalize hw:w.setRow ad'.block _=w' at hst;refine⟨w',by simp [Instr.storeAt,hv,Instr.sureAddr,storeVar,hsize,hc1,hsz,hst],?_⟩;subst hw;have hkey:h.upd k ⟨b.esz,b.elems.set i (XK (b.elems.getD i []) off q.cells)⟩=(h.del k).upd k ⟨b.esz,b.elems.set i (XK (b.elems.getD i []) off q.cells)⟩:=(X0.del_upd h k _).symm;rw [hkey];have hhas:loc'.has ad'.block:=⟨hcapne,ad',hbase,rfl⟩
 refine (s.sub (fun _ _ h=>h) (fun _ _ hh=>(X0.del_some hh).2)).adopt (loc':=loc') (φ':=φ) hg (h3 _ hhas).1 (h3 _ hhas).2 (s.del_no hb h1 hhas) h1 (fun _ _ h=>h) (fun _ _=>rfl) s.free (fun k' hk'=>?_) ?_
 . obtain ⟨_, y', hy', rfl⟩ := hk';rw [hbase] at hy';cases hy'
   rfl
 . refine ⟨hesz, h2.pos, by simpa using h2.len, h2.cap, h2.max, fun c hc => ?_, fun _ => ⟨ad', hbase, hs, _, ct, Y3z w _ cells _ ct _ hg, ?_, fun i' j' hi' hj' => ?_⟩⟩
   . obtain ⟨k', hk', rfl⟩ := YE hc;have hk2:k'<b.elems.length:=by simpa using hk'
     by_cases he:i=k'
     . subst he;simp only [List.getElem_set_self];rw [Z2D _ _ _ (by rw [hsz,hcl];omega),hcl]
     . simp only [List.getElem_set_ne he];exact h2.el _ (Y0j hk2)
   . simp only [Y2e,Y0e,Y0o,Y17,Y26]; omega
   . rw [Z36 _ _ _ hpos, hlen];by_cases he:i'=i
     . subst he;have hset:(b.elems.set i' (XK (b.elems.getD i' []) off q.cells)).getD i' []=XK (b.elems.getD i' []) off q.cells:=by simp [Y0b,hi]
       rw [hset,Z5e _ _ _ (by rw [hsz,hcl];omega),hsz];by_cases hr:off<=j'/\j'<off+size
       . rw [Y7 (by omega), Y7 hr, Z1m, show ad'.off + (i' * loc'.esz + j') - (ad'.off + (i' * loc'.esz + off)) = j' - off by omega];exact hc2 _ (by omega)
       . rw [Y8 (by omega), Y8 hr];exact hrep i' j' hi' hj'
     . have hset : (b.elems.set i (XK (b.elems.getD i []) off q.cells)).getD i' [] = b.elems.getD i' [] := by simp [Y0b, Y1o, Y2t he]
       have hout:=ZaU (k:=i) hj' he;rw [hset,Y8 (by omega)];exact hrep i' j' hi' hj'
end
section
variable {P:Program} {C:Ctx} {Fr:Nat->Prop} {e:Env} {h:X0} {F:XC} {φ:XE} {a:Act} {w:World}
theorem Z1V (s:St' C Fr e h F φ a w) {x:Operand} {n:Int} (hx:X1T (ev e x)=some n):∃ k,a.eval x=.int k n:=by
 unfold X1T at hx
 split at hx
 . rename_i k m hm;cases hx;exact⟨k,(s.eval hm).val_inv⟩
 . simp at hx
theorem ZdF (s:St' C Fr e h F φ a w) {id:Nat} (hid:Fr id) {t el:TypeId} {z:List Value} {i:TypeInfo} (hu:P.underlying t=some (.slice el)) (hz:XJ P el=some z) (hi:P.info? el=some i) (hby:0<i.bytes)
 {x y:Operand} {p:PV} {h':X0} (hd:X1 (.mslice z i.bytes x y) e h id=some (p,h')):X4 P C Fr e F φ a w (Instr.makeSlice t (a.eval x) (a.eval y)) id p h':=by
 simp only [X1] at hd
 split at hd
 case h_2=>simp at hd
 rename_i n m hn hm
 split at hd
 case isFalse=>simp at hd
 rename_i hb;cases hd;obtain⟨kn,hvn⟩:=Z1V s hn;obtain⟨km,hvm⟩:=Z1V s hm;obtain⟨i',v,hi',hv,rfl,h1,hl,hp⟩:=ZN hz;obtain rfl:i'=i:=by rw [hi'] at hi; simpa using hi
 have hm48:m<=281474976710656:=by
  have h2:(1:Int)*m<=(i'.bytes:Int)*m:=Y42 (by omega) (by omega);omega
 have hr:=run_make (P:=P) w t el i' v hu hi' hv kn km n m hb.1 hb.2.1 hb.2.2 (by omega);have hc:=XQ.zero (F:=F) (φ:=φ) h1 m.toNat;have hmade:madeCells v.cells (m.toNat*i'.size)=(Array.range (m.toNat*v.cells.toList.length)).map (v.cells.toList.toArray[· % v.cells.toList.length]!):=by
  rw [hl,Y2N];have:i'.size=v.cells.size:=by rw [<- hl]; simp
  rw [this]
  rfl
 rw [<- hmade] at hc;refine⟨_,_,F,_,by rw [hvn,hvm]; exact hr,St'.made <| s.alloc hid _ el v.cells.toList.length n.toNat m.toNat _ hp (by simp) (by omega) (by simp [Xd];omega) (fun c hc'=>?_) ?_ (fun j k hj hk=>?_),?_⟩
 . obtain rfl := Y22 hc';simp [zpv]
 . rw [hc.size]; simp
 . have := hc.rep j k (by simp; omega) hk;have e1:(List.replicate m.toNat (zpv v.cells.toList)).getD j []=(List.replicate n.toNat (zpv v.cells.toList)).getD j []:=by
    have:j<m.toNat:=by omega
    simp [Y0b,hj,this]
   rw [e1] at this;exact this
 . exact .own id ⟨some ⟨w.heap.size,0,none⟩,v.cells.toList.length,n.toNat,m.toNat⟩ (by simp [Xb]) hp
theorem ZaX (s:St' C Fr e h F φ a w) {id:Nat} (hid:Fr id) {t el:TypeId} {z:List Value} {i:TypeInfo} (hu:P.underlying t=some (.slice el)) (hz:XJ P el=some z) (hi:P.info? el=some i) (hby:0<i.bytes)
 {x y:Operand} {p:PV} {h':X0} (hd:Xv (.mslice z i.bytes x y) e h id=some (p,h')):X4 P C Fr e F φ a w (Instr.makeSlice t (a.eval x) (a.eval y)) id p h':=by
 simp only [Xv] at hd
 split at hd
 case h_2=>simp at hd
 rename_i n m hn hm
 split at hd
 case isFalse=>simp at hd
 rename_i hb;obtain⟨hb1,rfl,hb3⟩:=hb;cases hd;obtain⟨kn,hvn⟩:=Z1V s hn;obtain⟨km,hvm⟩:=Z1V s hm;obtain⟨i',v,hi',hv,rfl,h1,hl,hp⟩:=ZN hz;obtain rfl:i'=i:=by rw [hi'] at hi; simpa using hi
 have hm48:n<=281474976710656:=by
  have h2:(1:Int)*n<=(i'.bytes:Int)*n:=Y42 (by omega) (by omega);omega
 have hr:=run_make (P:=P) w t el i' v hu hi' hv kn km n n hb1 (Int.le_refl n) hb3 (by omega);have hc:=XQ.zero (F:=F) (φ:=φ) h1 n.toNat;have hmade:madeCells v.cells (n.toNat*i'.size)=(Array.range (n.toNat*v.cells.toList.length)).map (v.cells.toList.toArray[· % v.cells.toList.length]!):=by
  rw [hl,Y2N];have:i'.size=v.cells.size:=by rw [<- hl]; simp
  rw [this]
  rfl
 rw [<- hmade] at hc;obtain⟨s',hx⟩:=s.allocFrz (madeCells v.cells (n.toNat*i'.size)) el;have hln:(List.replicate n.toNat (zpv v.cells.toList)).length=n.toNat:=by simp
 have:=Rep.frozVec hc w.heap.size hx (cap:=n.toNat) (full:=true) (by omega) (fun _=>hln.symm) (by rw [hln]; simp [Xd];omega);rw [hln] at this;exact⟨_,_,_,φ,by rw [hvn,hvm]; exact hr,s'.weaken fun _ h=>h.1,this⟩
theorem Z2E (s:St' C Fr e h F φ a w) {d:Int} {x:Option Operand} {n:Int} (hx:XD e d x=some n):(x=none/\n=d) \/ ∃ k y,x=some y/\a.eval y=.int k n:=by
 cases x with
 | none=>exact .inl ⟨rfl,by simpa [XD] using hx.symm⟩
 | some y =>
   obtain⟨k,hk⟩:=Z1V s (x:=y) (by simpa [XD] using hx);exact .inr ⟨k,y,rfl,hk⟩
theorem Rep.cut {l:List (List PV)} {full:Bool} {v:Value} (hv:Rep F φ v (.vec l full)) {lo hi:Nat} (h1:lo<=hi) (h2:hi<=l.length) {esz:Nat} (hesz:l = [] \/ ∀ c∈l,c.length=esz) :
 ∃ base len cap,v=.slice base len cap/\len=l.length/\l.length<=cap/\∀ m,hi<=m->m<=cap->∀ b:Bool,(b=true->m=hi)->Rep F φ (sliced base lo hi m esz) (.vec ((l.take hi).drop lo) b):=by
 rcases hv.vec_inv with⟨rfl,rfl⟩|⟨ad,cap,esz',cs,rfl,hs,hcap,_,hmax,he,hF,hR⟩
 . refine ⟨none, 0, 0, rfl, rfl, Y0m _, fun m hm1 hm2 b hb => ?_⟩;obtain rfl:hi=0:=by simpa using h2
   obtain rfl:m=0:=by omega
   obtain rfl:lo=0:=by omega
   simpa [sliced] using Rep.vecnil b
 . refine ⟨some ad, l.length, cap, rfl, rfl, hcap, fun m hm1 hm2 b hb => ?_⟩;have hlen:((l.take hi).drop lo).length=hi-lo:=by simp; omega
   by_cases hml:m=lo
   . have : hi = lo := by omega
     subst this;subst hml;have e1:(l.take m).drop m = []:=YD (by omega);rw [e1];simp only [sliced,Y1P,Y2E];exact Rep.vec (F:=F) (φ:=φ) ad 0 0 [] b cs (fun h=>absurd rfl h) (Y0m _) (fun _=>rfl) (by simp) (by simp) (by simp) (by simp)
   . by_cases hl0 : l = []
     . subst hl0;obtain rfl:hi=0:=by simpa using h2
       obtain rfl:lo=0:=by omega
       simp only [sliced,Y8 hml,Y1m,List.take_nil,List.drop_nil];exact Rep.vec (F:=F) (φ:=φ) _ (m-0) 0 [] b cs (fun h=>absurd rfl h) (Y0l _) (fun hb'=>by have:=hb hb'; simp;omega) (by simp) (by simp) (by simp) (by simp)
     have hspot:ad.add (lo*esz)=⟨ad.block,ad.off+lo*esz,none⟩:=Z10 _ _ (hs hl0);simp only [sliced,Y8 hml,Y1m,hspot];rw [<- hlen];refine Rep.vec (F:=F) (φ:=φ) _ (m-lo) esz _ b (fun i j=>cs (lo+i) j) (fun _=>rfl) (by rw [hlen];omega) (fun hb'=>by rw [hlen]; have:=hb hb';omega) (by rw [hlen];omega) (fun i hi'=>?_) (fun i j hi' hj=>?_) (fun i j hi' hj=>?_)
     all_goals
      rw [hlen] at hi';have hne:l≠[]:=by rintro rfl; simp at h2; omega
      have hall:=hesz.resolve_left hne;have hget:((l.take hi).drop lo).getD i []=l.getD (lo+i) []:=by
       simp only [Y0b,Y18,Y1k];rw [Y7 (by omega)]
      have hlt:lo+i<l.length:=by omega
      have hesz':esz'=esz:=by
       rw [<- he (lo+i) hlt];exact hall _ (by simp [Y0b,hlt])
      subst hesz'
     . rw [hget]; exact he _ hlt
     . have := hF (lo + i) j hlt hj;rw [Y1i] at this;simpa [YL] using this
     . rw [hget]; exact hR _ _ hlt hj
theorem Z1W (s:St' C Fr e h F φ a w) {len cap:Nat} {lo hi:Option Operand} {A B:Int} (hlo:XD e 0 lo=some A) (hhi:XD e len hi=some B) (h0:0<=A) (h1:A<=B) (h2:B<=(len:Int)) (hc:len<=cap) :
 (Instr.sliceBounds true len cap (lo.map a.eval) (hi.map a.eval) none).run P w=.ok (A.toNat,B.toNat,cap) w:=by
 have hB:(B.toNat:Int)=B:=Y3I (by omega);rcases Z2E s hlo with⟨rfl,rfl⟩|⟨kl,x,rfl,hx⟩<;>rcases Z2E s hhi with⟨rfl,rfl⟩|⟨kh,y,rfl,hy⟩
 . simp [Instr.sliceBounds]
 . simp [Instr.sliceBounds,hy,Y1V w kh B cap .sliceAcap (by omega) (by omega)]
 . simp [Instr.sliceBounds,hx,Y1V w kl A len .sliceB (by omega) (by omega)]
 . simp [Instr.sliceBounds,hx,hy,Y1V w kh B cap .sliceAcap (by omega) (by omega),Y1V w kl A B.toNat .sliceB (by omega) (by omega)]
theorem ZaY (s:St' C Fr e h F φ a w) {len cap:Nat} {lo hi:Option Operand} {z:Operand} {A B M:Int} (hlo:XD e 0 lo=some A) (hhi:XD e len hi=some B) (hs:hi.isSome=true) (hm:X1T (ev e z)=some M) (h0:0<=A) (h1:A<=B) (h2:B<=M) (hc:M<=(cap:Int)) :
 (Instr.sliceBounds true len cap (lo.map a.eval) (hi.map a.eval) (some (a.eval z))).run P w=.ok (A.toNat,B.toNat,M.toNat) w:=by
 have hB:(B.toNat:Int)=B:=Y3I (by omega);have hM:(M.toNat:Int)=M:=Y3I (by omega);obtain⟨km,hz⟩:=Z1V s hm;rcases Z2E s hhi with⟨rfl,rfl⟩|⟨kh,y,rfl,hy⟩
 . simp at hs
 rcases Z2E s hlo with⟨rfl,rfl⟩|⟨kl,x,rfl,hx⟩
 . simp [Instr.sliceBounds,hz,hy,Y1V w km M cap .slice3Acap (by omega) (by omega),Y1V w kh B M.toNat .slice3B (by omega) (by omega)]
 . simp [Instr.sliceBounds,hz,hy,hx,Y1V w km M cap .slice3Acap (by omega) (by omega),Y1V w kh B M.toNat .slice3B (by omega) (by omega),Y1V w kl A B.toNat .slice3C (by omega) (by omega)]
theorem Zjn (s:St' C Fr e h F φ a w) {id:Nat} (hid:Fr id) {t el:TypeId} {inf:TypeInfo} (hu:P.underlying t=some (.slice el)) (hi:P.info? el=some inf)
 {x:Operand} {lo hi' mx:Option Operand} {p:PV} {h':X0} (hd:X1 (.slc inf.size x lo hi' mx) e h id=some (p,h')):X4 P C Fr e F φ a w (Instr.sliceAt t (a.eval x) (lo.map a.eval) (hi'.map a.eval) (mx.map a.eval)) id p h':=by
 have hel:P.elem t=el:=by simp [Program.elem,hu]
 have hu':P.underlying t=some (.slice (P.elem t)):=by rw [hel]; exact hu
 simp only [X1] at hd
 split at hd
 case h_3=>simp at hd
 . rename_i l full hx
   split at hd
   case h_2=>simp at hd
   rename_i A B hA hB
   split at hd
   . split at hd
     case isFalse=>simp at hd
     rename_i hb;cases hd;obtain⟨base,len,cap,hv,hlen,hcap,hrep⟩:=(s.eval hx).cut (lo:=A.toNat) (hi:=B.toNat) (by omega) (by omega) (.inr hb.2);subst hlen;refine X4.quiet s ?_ (hrep cap (by omega) (Y0m _) false (by simp));rw [hv,Y20 w t _ _ _ _ hu',Y2r w t base l.length cap hu',Option.map_none,Z1W s hA hB hb.1.1 hb.1.2.1 hb.1.2.2 hcap];simp [hel,Zd hi]
   . rename_i m
     split at hd
     case h_2=>simp at hd
     rename_i c y hm
     split at hd
     case isFalse=>simp at hd
     rename_i hb;cases hd;obtain⟨base,len,cap,hv,hlen,hcap,hrep⟩:=(s.eval hx).cut (lo:=A.toNat) (hi:=B.toNat) (by omega) (by omega) (.inr hb.2);subst hlen;have hflag:(B == c)=true->c.toNat=B.toNat:=fun hbc=>by
      have:B=c:=by simpa using hbc
      rw [this]
     refine X4.quiet s ?_ (hrep c.toNat (by omega) (by omega) (B == c) hflag);have hbs:=ZaY (P:=P) (cap:=cap) s hA hB rfl hm hb.1.1 hb.1.2.1 hb.1.2.2.1 (by omega);rw [hv,Y20 w t _ _ _ _ hu',Y2r w t base l.length cap hu',Y1m (a:=m),hbs];simp [hel,Zd hi]
 . rename_i k hx
   split at hd
   case h_2=>simp at hd
   rename_i b hb
   split at hd
   case h_2=>simp at hd
   rename_i A B hA hB
   split at hd
   case h_2=>simp at hd
   split at hd
   case isFalse=>simp at hd
   rename_i hbd;cases hd;obtain⟨loc',h1,hz,hv⟩:=(s.eval hx).own_inv;obtain⟨h2,h3⟩:=s.cellAt hb h1 hz;have hlen:=h2.len;have hkey:(fun j=>bif Nat.beq j id then some (⟨b.esz,(b.elems.take B.toNat).drop A.toNat⟩:Bx) else bif Nat.beq j k then none else h j)=(h.del k).upd id ⟨b.esz,(b.elems.take B.toNat).drop A.toNat⟩:=rfl;rw [hkey];have hne:id≠k:=fun e=>by subst e; rw [s.free _ hid] at h1; cases h1
   have hrun:(Instr.sliceAt t (a.eval x) (lo.map a.eval) (hi'.map a.eval) (none:Option Value)).run P w=.ok (sliced loc'.base A.toNat B.toNat loc'.cap inf.size) w:=by
    rw [hv,Y20 w t _ _ _ _ hu',Y2r w t loc'.base loc'.len loc'.cap hu',Z1W s (by exact hA) (by rw [<- hlen]; exact hB) hbd.1.1 hbd.1.2.1 (by rw [<- hlen]; exact hbd.1.2.2) h2.cap];simp [hel,Zd hi]
   have hesz:inf.size=loc'.esz:=by rw [<- h2.esz]; exact hbd.2.symm
   have s1:St' C Fr e (h.del k) F φ a w:=s.sub (fun _ _ h=>h) (fun _ _ hh=>(X0.del_some hh).2);have hcap:=h2.cap;by_cases hc0:loc'.cap=A.toNat
   . -- nothing is left
     have hB0:B.toNat=A.toNat:=by omega
     have he0:(b.elems.take B.toNat).drop A.toNat = []:=YD (by simp;omega);rw [he0,h2.esz];refine⟨_,w,F,_,hrun,(s1.allocNil hid loc'.base loc'.esz h2.pos).made,?_⟩;simp only [sliced,hc0,Y1P,hB0,Y2E];exact .own id ⟨loc'.base,loc'.esz,0,0⟩ (by simp [Xb]) hz
   . have hcne : loc'.cap ≠ 0 := by omega
     obtain⟨ad,hbase,hs,cells,ct,hg,hroom,hrep⟩:=h2.room hcne;have hhas:loc'.has ad.block:=⟨hcne,ad,hbase,rfl⟩
     have hadd:ad.add (A.toNat*loc'.esz)=⟨ad.block,ad.off+A.toNat*loc'.esz,none⟩:=Z10 _ _ hs
     let locN:Loc:=⟨some ⟨ad.block,ad.off+A.toNat*loc'.esz,none⟩,loc'.esz,B.toNat-A.toNat,loc'.cap-A.toNat⟩
     have hs2:=s1.adopt (id:=id) (loc':=locN) (b':=⟨b.esz,(b.elems.take B.toNat).drop A.toNat⟩) (φ':=Xb φ id locN) (Fr':=fun i=>Fr i/\i≠id) (cur':=cells) hg (h3 _ hhas).1 (h3 _ hhas).2 (s.del_no hb h1 hhas) (by simp [Xb]) (Z1A (s.free id hid) locN) (fun i hi=>by simp [Xb,hi])
      (fun i hi => by simp [Xb, hi.2, s.free i hi.1]) (fun k' hk' => by obtain ⟨_, y, hy, rfl⟩ := hk'; simp only [locN] at hy; cases hy; rfl) (by
        rw [setRow_self w ad.block cells ct (0,0) hg];refine⟨h2.esz,h2.pos,by simp [locN]; omega,by simp only [locN]; omega,by have:=h2.max; simp only [locN]; omega,fun c hc=>h2.el c ?_,fun _=>⟨_,rfl,rfl,cells,ct,hg,?_,fun i j hi hj=>?_⟩⟩
        . exact Y1w (List.mem_of_mem_drop hc)
        . simp only [locN];have:(A.toNat+(loc'.cap-A.toNat))*loc'.esz=A.toNat*loc'.esz+(loc'.cap-A.toNat)*loc'.esz:=Y1i _ _ _;rw [show A.toNat+(loc'.cap-A.toNat)=loc'.cap by omega] at this;omega
        . simp only [locN] at hi hj ⊢;have hget:((b.elems.take B.toNat).drop A.toNat).getD i []=b.elems.getD (A.toNat+i) []:=by
           simp only [Y0b,Y18,Y1k];rw [Y7 (by omega)]
          have hr:=hrep (A.toNat+i) j (by omega) hj;rw [Y1i] at hr;rw [hget,show ad.off+A.toNat*loc'.esz+(i*loc'.esz+j)=ad.off+(A.toNat*loc'.esz+i*loc'.esz+j) by omega]
          exact⟨hr.1,hr.2.mono (fun _ _ h=>h) (Z1A (s.free id hid) locN)⟩)
     rw [setRow_self w ad.block cells ct (0,0) hg] at hs2;refine⟨_,w,F,_,hrun,hs2.made,?_⟩;simp only [sliced,Y8 hc0,hbase,Y1m,hesz,hadd];exact .own id locN (by simp [Xb]) hz
theorem X2L (s:St' C Fr e h F φ a w) {v:Value} {m:List (List PV)} {full:Bool} (hv:Rep F φ v (.vec m full)) {esz:Nat} (hm:∀ c∈m,c.length=esz) {n:Nat} (hn:n<=m.length) :
 ∃ base cap,∃ news:List Value,v=.slice base m.length cap/\(Builtin.firstCells esz n v).run P w=.ok news.toArray w/\news.length=n*esz/\∀ i j,i<n->j<esz->(news.toArray.getD (i*esz+j) undef).oneCell'=true/\Rep F φ (news.toArray.getD (i*esz+j) undef) ((m.getD i []).getD j pvu):=by
 have hel:∀ i,i<m.length->(m.getD i []).length=esz:=fun i hi=>hm _ (by simp [Y0b,hi]);rcases hv.vec_inv with⟨rfl,rfl⟩|⟨ad,cap,esz',cs,rfl,hs,hcap,_,hmax,he,hF,hR⟩
 . have h0 : n = 0 := by simpa using hn
   subst h0;exact⟨none,0,[],rfl,by simp [Builtin.firstCells],by simp,fun i j hi=>by omega⟩
 . have hesz : ∀ i, i < m.length -> esz' = esz := fun i hi => by rw [<- he i hi]; exact hel i hi
   have hpos:∀ k,k<n*esz->0<esz/\k / esz<n/\k % esz<esz:=fun k hk=>by
    have h0:0<esz:=by
     rcases Nat.eq_zero_or_pos esz with h|h
     . subst h; simp at hk
     . exact h
    exact⟨h0,Y3v (by rw [Y1t]; exact hk),Y28 _ h0⟩
   have hF':∀ k,k<n*esz->F ⟨ad.block,ad.off+k,none⟩=some (cs (k / esz) (k % esz)):=fun k hk=>by
    obtain⟨h0,h1,h2⟩:=hpos k hk;have h3:k / esz<m.length:=YW h1 hn;have:=hF (k / esz) (k % esz) h3 (by rw [hesz _ h3]; exact h2);rw [hesz (k / esz) h3] at this;have hk':k / esz*esz+k % esz=k:=Y47 k esz
    rwa [hk'] at this
   refine⟨some ad,cap,(List.range (n*esz)).map fun k=>cs (k / esz) (k % esz),rfl,?_,by simp,fun i j hi hj=>?_⟩
   . refine Y3A (P := P) w esz n ad m.length cap _ (by simp) (fun j v hj => ?_);have hj':j<n*esz:=by have:=(Yy.1 hj).1; simpa using this
     have hv:cs (j / esz) (j % esz)=v:=by simpa [hj'] using hj
     have hne:m≠[]:=by
      rintro rfl;have h0:n=0:=by simpa using hn
      subst h0;simp at hj'
     rw [Z10 _ _ (hs hne),<- hv];exact (s.froz _ _ (hF' j hj')).2.2
   . have hlt := Z2f hi hj;have e1:(i*esz+j) / esz=i:=by rw [Y33,Nat.add_mul_div_right _ _ (by omega),Y1y hj]; omega
     have e2:(i*esz+j) % esz=j:=by rw [Y33,Y4g,Y1a hj]
     have hget:((List.range (n*esz)).map fun k=>cs (k / esz) (k % esz)).toArray.getD (i*esz+j) undef=cs i j:=by
      rw [Z3M _ _ _ hlt,e1,e2]
     rw [hget];have hj2:j<esz':=by rw [hesz i (by omega)]; exact hj
     exact⟨(s.froz _ _ (hF i j (by omega) hj2)).2.1,hR i j (by omega) hj2⟩
theorem X2b (s:St' C Fr e h F φ a w) {v:Value} {m:List (List PV)} {full:Bool} (hv:Rep F φ v (.vec m full)) {esz:Nat} (hm:∀ c∈m,c.length=esz) :
 ∃ base cap,∃ news:List Value,v=.slice base m.length cap/\(Builtin.firstCells esz m.length v).run P w=.ok news.toArray w/\XQ F φ esz news.toArray m:=by
 obtain⟨base,cap,news,h1,h2,h3,h4⟩:=X2L (P:=P) s hv hm (Y0m _);exact⟨base,cap,news,h1,h2,by simpa using h3,fun i hi=>hm _ (by simp [Y0b,hi]),h4⟩
theorem X4H (s:St' C Fr e h F φ a w) {k:Nat} {b:Bx} {loc:Loc} (hb:h k=some b) (hl:φ k=some loc) (hz:0<loc.esz) :
 ∃ olds:List Value,(Builtin.firstCells loc.esz loc.len (.slice loc.base loc.len loc.cap)).run P w=.ok olds.toArray w/\XQ F φ loc.esz olds.toArray b.elems:=by
 obtain⟨loc',h1,h2,h3⟩:=s.live k b hb;obtain rfl:loc'=loc:=by rw [h1] at hl; simpa using hl
 have h2:=h2.cells hz;have hel:∀ i,i<b.elems.length->(b.elems.getD i []).length=loc'.esz:=fun i hi=>h2.el _ (by simp [Y0b,hi]);by_cases hc0:loc'.cap=0
 . have hl0 : loc'.len = 0 := by have := h2.cap; omega
   have he0:b.elems = []:=YD (by rw [h2.len,hl0]);refine⟨[],?_,⟨by simp [he0],by simp [he0],by simp [he0]⟩⟩;rw [hl0];cases loc'.base with
   | none=>simp [Builtin.firstCells]
   | some x=>simp [Builtin.firstCells,loadCells,loadCellsFrom]
 . obtain ⟨ad, hbase, hs, cells, ct, hg, hroom, hrep⟩ := h2.room hc0;have hle:loc'.len*loc'.esz<=loc'.cap*loc'.esz:=YM _ h2.cap;refine⟨(List.range (loc'.len*loc'.esz)).map fun k=>cells.getD (ad.off+k) undef,?_,⟨by simp [h2.len],hel,fun i j hi hj=>?_⟩⟩
   . rw [hbase];refine Y3A (P:=P) w loc'.esz loc'.len ad loc'.len loc'.cap _ (by simp) (fun j v hj=>?_);have hj':j<loc'.len*loc'.esz:=by have:=(Yy.1 hj).1; simpa using this
     have hv:cells.getD (ad.off+j) undef=v:=by simpa [hj'] using hj
     rw [Z10 _ _ hs,<- hv,cell_of_row w _ _ cells ct (0,0) hg];have:ad.off+j<cells.size:=by omega
     simp [Array.getD,this]
   . have hlt : i * loc'.esz + j < loc'.len * loc'.esz := Z2f (by rw [<- h2.len]; exact hi) hj;rw [Z3M _ _ _ hlt];exact hrep i j (by rw [<- h2.len]; exact hi) hj
theorem XQ.append {esz:Nat} {xs ys:Array Value} {l m:List (List PV)} (h1:XQ F φ esz xs l) (h2:XQ F φ esz ys m) (rest:Array Value) :
 ∀ i j,i<(l++m).length->j<esz->(((xs++ys)++rest).getD (i*esz+j) undef).oneCell'=true/\Rep F φ (((xs++ys)++rest).getD (i*esz+j) undef) (((l++m).getD i []).getD j pvu):=by
 intro i j hi hj;have hlt:=Z2f hi hj;have hsz:(xs++ys).size=(l++m).length*esz:=by rw [Y1J,h1.size,h2.size,Y0e,Y1i]
 have e0:((xs++ys)++rest).getD (i*esz+j) undef=(xs++ys).getD (i*esz+j) undef:=by
  simp only [Y0d];rw [YP (by rw [hsz]; exact hlt)]
 rw [e0];by_cases hil:i<l.length
 . have hlt1 : i * esz + j < xs.size := by rw [h1.size]; exact Z2f hil hj
   have e1:(xs++ys).getD (i*esz+j) undef=xs.getD (i*esz+j) undef:=by
    simp only [Y0d];rw [YP hlt1]
   have e2:(l++m).getD i []=l.getD i []:=by
    simp only [Y0b];rw [Y11 hil]
   rw [e1,e2];exact h1.rep i j hil hj
 . have him : i - l.length < m.length := by simp at hi; omega
   have hsub:i*esz+j=xs.size+((i-l.length)*esz+j):=by
    rw [h1.size,<- YL,<- Y1i];congr 2;omega
   have e1:(xs++ys).getD (i*esz+j) undef=ys.getD ((i-l.length)*esz+j) undef:=by
    simp only [Y0d];rw [hsub,Y1O (by omega)];congr 2;omega
   have e2:(l++m).getD i []=m.getD (i-l.length) []:=by
    simp only [Y0b];rw [YV (by omega)]
   rw [e1,e2];exact h2.rep _ j him hj
theorem Z4y {sT xT ty el el2:TypeId} {i:TypeInfo} (hu:P.underlying sT=some (.slice el)) (hux:P.underlying xT=some (.slice el2)) (hi:P.info? el=some i) {base xb:Option Addr} {sLen sCap n xc:Nat} {news:List Value}
 (hf:(Builtin.firstCells i.size n (.slice xb n xc)).run P w=.ok news.toArray w) (hroom:sLen+n<=sCap) :
 (Builtin.append_ #[sT, xT] ty #[.slice base sLen sCap, .slice xb n xc]).run P w =
   match base with
   | some x=>((storeCells (x.add (sLen*i.size)) news).run P w).andThen fun _ w'=>.ok (.slice base (sLen+n) sCap) w'
   | none=>.ok (.slice base (sLen+n) sCap) w:=by
 cases base<;>simp [Builtin.append_,Y6 hu,Y6 hux,Zd hi,Builtin.lenOf,hroom,hf]
theorem Z46 {sT xT ty el el2:TypeId} {i:TypeInfo} {z:Value} (hu:P.underlying sT=some (.slice el)) (hux:P.underlying xT=some (.slice el2)) (hi:P.info? el=some i) (hz:i.zero=some z) (hby:0<i.bytes)
 {base xb:Option Addr} {sLen sCap n xc:Nat} {olds news:List Value} (ho:(Builtin.firstCells i.size sLen (.slice base sLen sCap)).run P { w with drawn:=w.drawn+1 }=.ok olds.toArray { w with drawn:=w.drawn+1 })
 (hf:(Builtin.firstCells i.size n (.slice xb n xc)).run P { w with drawn:=w.drawn+1 }=.ok news.toArray { w with drawn:=w.drawn+1 }) (hroom:sCap<sLen+n) (hb:(sLen+n)*i.bytes<=140737488355328) :
 (Builtin.append_ #[sT, xT] ty #[.slice base sLen sCap, .slice xb n xc]).run P w =
   .ok (.slice (some ⟨w.heap.size,0,none⟩) (sLen+n) (grownCap w (sLen+n) sCap el))
    (World.alloc { w with drawn:=w.drawn+1 } (.cells (olds.toArray++news.toArray++Builtin.zeroCells z.cells (grownCap w (sLen+n) sCap el-(sLen+n))) el)):=by
 have hn:¬ (sLen+n<=sCap):=by omega
 have hby':¬ i.bytes=0:=by omega
 have h48:=growslice_fits (bytes:=i.bytes) hroom hb;have h48':¬ (281474976710656<Builtin.nextslicecap (sLen+n) sCap*i.bytes):=by omega
 simp [Builtin.append_,Y6 hu,Y6 hux,sizeOf,typeInfo,zeroValue,hi,hz,Builtin.lenOf,hn,hby',h48',Question.forced] at ho hf ⊢;simp [ho,hf,newRow,grownCap];congr 2;apply Y3W;simp [Y1b]
theorem ZdG (s:St' C Fr e h F φ a w) {id:Nat} (hid:Fr id) {sT xT ty el el2:TypeId} {z:List Value} {i:TypeInfo} (hu:P.underlying sT=some (.slice el)) (hux:P.underlying xT=some (.slice el2)) (hz:XJ P el=some z) (hi:P.info? el=some i) (hby:0<i.bytes)
 {x y:Operand} {p:PV} {h':X0} (hd:X1 (.append z i.bytes x y) e h id=some (p,h')):X4 P C Fr e F φ a w (Builtin.append_ #[sT,xT] ty #[a.eval x,a.eval y]) id p h':=by
 obtain⟨i',zv,hi',hzv,rfl,h1z,hlz,hpz⟩:=ZN hz;obtain rfl:i'=i:=by rw [hi'] at hi; simpa using hi
 simp only [X1] at hd
 split at hd
 case h_2=>simp at hd
 rename_i k m full hx hy
 split at hd
 case h_2=>simp at hd
 rename_i b hb
 split at hd
 case isFalse=>simp at hd
 rename_i hcond;obtain⟨hm,hbesz,hbytes⟩:=hcond;cases hd;obtain⟨loc',h1,hz,hv⟩:=(s.eval hx).own_inv;obtain⟨h2,h3⟩:=s.cellAt hb h1 hz;have hlen:=h2.len;have hesz:loc'.esz=i'.size:=by rw [<- h2.esz,hbesz,hlz]
 have hne:id≠k:=fun e=>by subst e; rw [s.free _ hid] at h1; cases h1
 have hkey:(fun j=>bif Nat.beq j id then some (⟨b.esz,b.elems++m⟩:Bx) else bif Nat.beq j k then none else h j)=(h.del k).upd id ⟨b.esz,b.elems++m⟩:=rfl;rw [hkey];have s1:St' C Fr e (h.del k) F φ a w:=s.sub (fun _ _ h=>h) (fun _ _ hh=>(X0.del_some hh).2);have hm':∀ c∈m,c.length=i'.size:=fun c hc=>by rw [hm c hc,hlz]
 have h48:b.elems.length+m.length<=281474976710656:=by
  have:(b.elems.length+m.length)*1<=(b.elems.length+m.length)*i'.bytes:=Y3C _ hby;omega
 have hallel:∀ c∈b.elems++m,c.length=i'.size:=fun c hc=>by
  rcases Y0h.1 hc with h|h
  . rw [<- hesz]; exact h2.el c h
  . exact hm' c h
 by_cases hroom:loc'.len+m.length<=loc'.cap
 . obtain ⟨xb, xc, news, hvy, hf, hnc⟩ := X2b (P := P) s (s.eval hy) hm';rw [hvy] at hf;have hrun:=Z4y (ty:=ty) (base:=loc'.base) hu hux hi hf hroom;by_cases hc0:loc'.cap=0
   . have hm0 : m = [] := YD (by omega);have hb0:b.elems = []:=YD (by omega);have hl0:loc'.len=0:=by omega
     subst hm0;have hn0:news = []:=by have:=hnc.size; simpa using this
     subst hn0;have hrun':(Builtin.append_ #[sT,xT] ty #[a.eval x,a.eval y]).run P w=.ok (.slice loc'.base 0 0) w:=by
      rw [hv,hvy,hrun];cases loc'.base<;>simp [storeCells,hl0,hc0]
     refine⟨_,w,F,_,hrun',by rw [hb0,h2.esz]; exact (s1.allocNil hid loc'.base loc'.esz h2.pos).made,.own id ⟨loc'.base,loc'.esz,0,0⟩ (by simp [Xb]) hz⟩
   . obtain ⟨ad, hbase, hs, cells, ct, hg, hroom2, hrep⟩ := h2.room hc0;have hhas:loc'.has ad.block:=⟨hc0,ad,hbase,rfl⟩
     have hnl:news.length=m.length*i'.size:=by have:=hnc.size; simpa using this
     have hfit:ad.off+loc'.len*i'.size+news.length<=cells.size:=by
      have:(loc'.len+m.length)*loc'.esz<=loc'.cap*loc'.esz:=YM _ hroom;rw [Y1i] at this;rw [hnl,<- hesz];omega
     have h1n:∀ v∈news,v.oneCell'=true:=fun v hv=>by
      obtain⟨j,hj,rfl⟩:=YE hv;have hj':j<m.length*i'.size:=by rw [<- hnl]; exact hj
      have hp:0<i'.size:=by rw [<- hlz]; exact hpz
      have:=(hnc.rep (j / i'.size) (j % i'.size) (Y3v (by rw [Y1t]; exact hj')) (Y28 _ hp)).1;rw [Y47 j i'.size] at this;simpa [Array.getD,hj] using this
     have hst:=Y37 P ad.block (ad.off+loc'.len*i'.size) ct news 0 cells w hg (by simpa using hfit) h1n;simp only [YX] at hst
     let locN:Loc:=⟨some ad,loc'.esz,loc'.len+m.length,loc'.cap⟩
     have hrun':(Builtin.append_ #[sT,xT] ty #[a.eval x,a.eval y]).run P w=.ok (.slice (some ad) (loc'.len+m.length) loc'.cap) (w.setRow ad.block (cells.toList.take (ad.off+loc'.len*i'.size)++news++cells.toList.drop (ad.off+loc'.len*i'.size+news.length)).toArray):=by
      rw [hv,hvy,hrun,hbase];simp only [Z10 _ _ hs,hst,YG]
     have hs2:=s1.adopt (id:=id) (loc':=locN) (b':=⟨b.esz,b.elems++m⟩) (φ':=Xb φ id locN) (Fr':=fun i=>Fr i/\i≠id) (cur':=(cells.toList.take (ad.off+loc'.len*i'.size)++news++cells.toList.drop (ad.off+loc'.len*i'.size+news.length)).toArray) hg (h3 _ hhas).1 (h3 _ hhas).2 (s.del_no hb h1 hhas)
      (by simp [Xb]) (Z1A (s.free id hid) locN) (fun i hi => by simp [Xb, hi]) (fun i hi => by simp [Xb, hi.2, s.free i hi.1]) (fun k' hk' => by obtain ⟨_, y, hy, rfl⟩ := hk'; simp only [locN] at hy; cases hy; rfl) (by
        refine⟨h2.esz,h2.pos,by simp [locN]; omega,hroom,by simp only [locN,Xd]; omega,fun c hc=>by rw [hallel c hc,<- hesz],fun _=>⟨ad,rfl,hs,_,ct,Y3z w _ cells _ ct _ hg,?_,fun i j hi hj=>?_⟩⟩
        . simp only [locN,Y2e,Y0e,Y0o,Y17,Y26]; omega
        . simp only [locN] at hi hj ⊢;rw [Z36 _ _ _ hfit];by_cases hil:i<loc'.len
          . have hlt : i * loc'.esz + j < loc'.len * loc'.esz := Z2f hil hj;rw [Y8 (by rw [<- hesz];omega)];have e2:(b.elems++m).getD i []=b.elems.getD i []:=by
             simp only [Y0b];rw [Y11 (by omega)]
            rw [e2];have:=hrep i j hil hj;exact⟨this.1,this.2.mono (fun _ _ h=>h) (Z1A (s.free id hid) locN)⟩
          . have him : i - loc'.len < m.length := by omega
            have hsub:i*loc'.esz=loc'.len*loc'.esz+(i-loc'.len)*loc'.esz:=by
             rw [<- Y1i]; congr 1; omega
            have hlt:=Z2f him hj;rw [Y7 (by rw [<- hesz,hnl,<- hesz];omega)];have e2:(b.elems++m).getD i []=m.getD (i-loc'.len) []:=by
             simp only [Y0b];rw [YV (by omega),hlen]
            have e3:ad.off+(i*loc'.esz+j)-(ad.off+loc'.len*i'.size)=(i-loc'.len)*i'.size+j:=by rw [<- hesz]; omega
            rw [e2,e3];have:=hnc.rep (i-loc'.len) j him (by rw [<- hesz]; exact hj);have e4:news.toArray.getD ((i-loc'.len)*i'.size+j) undef=news.getD ((i-loc'.len)*i'.size+j) undef:=by simp [Y0b,Y0d]
            rw [e4] at this
            exact⟨this.1,this.2.mono (fun _ _ h=>h) (Z1A (s.free id hid) locN)⟩)
     exact⟨_,_,F,_,hrun',hs2.made,.own id locN (by simp [Xb]) hz⟩
 . have sd := s.drew;obtain⟨xb,xc,news,hvy,hf,hnc⟩:=X2b (P:=P) sd (sd.eval hy) hm';obtain⟨olds,ho,hoc⟩:=X4H (P:=P) sd hb h1 hz;rw [hvy] at hf;rw [hesz] at ho hoc;have hrun:=Z46 (ty:=ty) hu hux hi hzv hby ho hf (by omega) (by rw [<- hlen]; exact hbytes);have s1d:=s1.drew;have hge:=Y4d w (loc'.len+m.length) loc'.cap el;have hsz0:zv.cells.size=i'.size:=by rw [<- hlz]; simp
   refine⟨_,_,F,Xb φ id ⟨some ⟨w.heap.size,0,none⟩,i'.size,loc'.len+m.length,grownCap w (loc'.len+m.length) loc'.cap el⟩,by rw [hv,hvy]; exact hrun,?_,.own id ⟨some ⟨w.heap.size,0,none⟩,i'.size,loc'.len+m.length,grownCap w (loc'.len+m.length) loc'.cap el⟩ (by simp [Xb]) (by show 0<i'.size; rw [<- hlz]; exact hpz)⟩;rw [h2.esz,hesz];refine St'.made <| s1d.alloc hid _ el i'.size (loc'.len+m.length) (grownCap w (loc'.len+m.length) loc'.cap el) (b.elems++m) (by rw [<- hlz]; exact hpz) (by simp;omega) hge (by simp only [Xd];omega) hallel ?_ (fun i j hi hj=>?_)
   . have e1 : (olds.toArray ++ news.toArray ++ Builtin.zeroCells zv.cells (grownCap w (loc'.len + m.length) loc'.cap el - (loc'.len + m.length))).size = loc'.len * i'.size + m.length * i'.size + (grownCap w (loc'.len + m.length) loc'.cap el - (loc'.len + m.length)) * i'.size := by
      rw [Y1J,Y1J,hoc.size,hnc.size,Y3w,hsz0,hlen]
     rw [e1,<- Y1i,<- Y1i];exact YM _ (by omega)
   . exact hoc.append hnc _ i j (by rw [Y0e,hlen]; exact hi) hj
theorem ZaZ (s:St' C Fr e h F φ a w) (id:Nat) {sT xT ty el el2:TypeId} {z:List Value} {i:TypeInfo} (hu:P.underlying sT=some (.slice el)) (hux:P.underlying xT=some (.slice el2)) (hz:XJ P el=some z) (hi:P.info? el=some i) (hby:0<i.bytes)
 {x y:Operand} {p:PV} {h':X0} (hd:Xv (.append z i.bytes x y) e h id=some (p,h')):X4 P C Fr e F φ a w (Builtin.append_ #[sT,xT] ty #[a.eval x,a.eval y]) id p h':=by
 obtain⟨i',zv,hi',hzv,rfl,h1z,hlz,hpz⟩:=ZN hz;obtain rfl:i'=i:=by rw [hi'] at hi; simpa using hi
 simp only [Xv] at hd
 split at hd
 case h_2=>simp at hd
 rename_i l m full hx hy
 split at hd
 case isFalse=>simp at hd
 rename_i hcond;obtain⟨hl,hm,hbytes⟩:=hcond;cases hd;have hl':∀ c∈l,c.length=i'.size:=fun c hc=>by rw [hl c hc,hlz]
 have hm':∀ c∈m,c.length=i'.size:=fun c hc=>by rw [hm c hc,hlz]
 have sd:=s.drew;obtain⟨base,cap,olds,hv,ho,hoc⟩:=X2b (P:=P) sd (sd.eval hx) hl';obtain⟨xb,xc,news,hvy,hf,hnc⟩:=X2b (P:=P) sd (sd.eval hy) hm';have hcap:cap=l.length:=by
  rcases (s.eval hx).vec_inv with⟨rfl,hv'⟩|⟨ad,cap',esz',cs,hv',_,_,hfull,_⟩
  . rw [hv] at hv'; cases hv'; rfl
  . rw [hv] at hv'; cases hv'; exact hfull rfl
 subst hcap;by_cases hm0:m = []
 . subst hm0;obtain⟨xb,xc,news,hvy,hf,hnc⟩:=X2b (P:=P) s (s.eval hy) hm';rw [hvy] at hf;have hrun:=Z4y (ty:=ty) (base:=base) (sLen:=l.length) (sCap:=l.length) hu hux hi hf (by simp);have hn0:news = []:=by have:=hnc.size; simpa using this
   subst hn0;have hrun':(Builtin.append_ #[sT,xT] ty #[a.eval x,a.eval y]).run P w=.ok (a.eval x) w:=by
    rw [hv,hvy,hrun];cases base<;>simp [storeCells]
   have hr:=s.eval hx;rw [Y0p];refine X4.quiet s hrun' ?_;rcases hr.vec_inv with⟨rfl,hv'⟩|⟨ad,cap',esz',cs,hv',hs,hc,_,hmax,he,hF,hR⟩
   . rw [hv']; exact .vecnil false
   . rw [hv']; exact .vec ad cap' esz' l false cs hs hc (by simp) hmax he hF hR
 . have hmpos : 0 < m.length := Y1N.2 hm0;have hrun:=Z46 (ty:=ty) (base:=base) (xb:=xb) (xc:=xc) hu hux hi hzv hby (by rw [<- hv]; exact ho) (by rw [<- hvy]; exact hf) (by omega) hbytes;have hge:=Y4d w (l.length+m.length) l.length el;have hsz0:zv.cells.size=i'.size:=by rw [<- hlz]; simp
   have h48:l.length+m.length<=281474976710656:=by
    have:(l.length+m.length)*1<=(l.length+m.length)*i'.bytes:=Y3C _ hby;omega
   have hall:=hoc.append hnc (Builtin.zeroCells zv.cells (grownCap w (l.length+m.length) l.length el-(l.length+m.length)));have hsz:(l.length+m.length)*i'.size<=(olds.toArray++news.toArray++Builtin.zeroCells zv.cells (grownCap w (l.length+m.length) l.length el-(l.length+m.length))).size:=by
    rw [Y1J,Y1J,hoc.size,hnc.size,<- Y1i];omega
   generalize olds.toArray++news.toArray++Builtin.zeroCells zv.cells (grownCap w (l.length+m.length) l.length el-(l.length+m.length))=arr at hrun hall hsz;obtain⟨s',hx'⟩:=sd.allocFrz arr el;refine⟨_,_,_,φ,by rw [hv,hvy]; exact hrun,s'.weaken fun _ h=>h.1,?_⟩;rw [<- Y0e];refine .vec ⟨w.heap.size,0,none⟩ _ i'.size (l++m) false (fun i j=>arr.getD (i*i'.size+j) undef) (fun _=>rfl)
    (by rw [Y0e]; exact hge) (by simp) (by rw [Y0e]; exact h48) (fun j hj=>?_) (fun j k hj hk=>?_) (fun j k hj hk=>(hall j k hj hk).2.mono hx' fun _ _ h=>h)
   . have hmem : (l ++ m).getD j [] ∈ l ++ m := by
      rw [Y0b,Y0c hj]; exact Y0j hj
     rcases Y0h.1 hmem with h|h
     . exact hl' _ h
     . exact hm' _ h
   . simp only [YQ];have hlt:=Z2f hj hk;rw [Y0e] at hlt;exact Z2p F _ _ (by omega) (hall j k hj hk).1
theorem X4x (s:St' C Fr e h F φ a w) {v:Value} {k i o len cap:Nat} (hv:Rep F φ v (.sl k i o len cap)) {b:Bx} (hb:h k=some b) (hi:i<b.elems.length) (ho:o+len<=b.esz) {n:Nat} (hn:n<=len) :
 ∃ base cap,∃ news:List Value,v=.slice base len cap/\(Builtin.firstCells 1 n v).run P w=.ok news.toArray w/\news.length=n/\∀ j,j<n->(news.getD j undef).oneCell'=true/\Rep F φ (news.getD j undef) ((b.elems.getD i []).getD (o+j) pvu):=by
 obtain⟨loc',ad,h1,hz,hbase,hs,hl,rfl⟩:=hv.sl_inv;obtain⟨h2,h3⟩:=s.cellAt hb h1 hz;have hilen:i<loc'.len:=by rw [<- h2.len]; exact hi
 have hcapne:loc'.cap≠0:=by have:=h2.cap; omega
 obtain⟨ad',hbase',_,cells,ct,hg,hroom,hrep⟩:=h2.room hcapne;obtain rfl:ad'=ad:=by rw [hbase] at hbase'; simpa using hbase'.symm
 have hesz:b.esz=loc'.esz:=h2.esz;have hin:∀ j,j<n->ad'.off+(i*loc'.esz+(o+j))<cells.size:=fun j hj=>by
  have:=Z2f (esz:=loc'.esz) (j:=o+j) (YW hilen h2.cap) (by omega);omega
 have hget:∀ j,j<n->((List.range n).map fun j=>cells.getD (ad'.off+(i*loc'.esz+(o+j))) undef).getD j undef=cells.getD (ad'.off+(i*loc'.esz+(o+j))) undef:=fun j hj=>by
  simp [Y0b,hj]
 refine⟨_,cap,(List.range n).map fun j=>cells.getD (ad'.off+(i*loc'.esz+(o+j))) undef,rfl,?_,by simp,fun j hj=>?_⟩
 . refine Y3A (P := P) w 1 n ⟨ad'.block, ad'.off + (i * loc'.esz + o), none⟩ len cap _ (by simp) fun j v hj => ?_;have hjn:j<n:=by have:=(Yy.1 hj).1; simpa using this
   have hv':v=cells.getD (ad'.off+(i*loc'.esz+(o+j))) undef:=by
    rw [<- hget j hjn,Y0b,hj]; rfl
   rw [Z10 _ _ rfl,hv'];have hlt:=hin j hjn;show w.cell? ⟨ad'.block,ad'.off+(i*loc'.esz+o)+j,none⟩=_;rw [show ad'.off+(i*loc'.esz+o)+j=ad'.off+(i*loc'.esz+(o+j)) by omega];unfold World.cell?;simp only [hg];simp [Array.getD,hlt]
 . rw [hget j hj];exact hrep i (o+j) hilen (by omega)
theorem X4v (s:St' C Fr e h F φ a w) {v:Value} {k i o len cap:Nat} (hv:Rep F φ v (.sl k i o len cap)) {b:Bx} (hb:h k=some b) (hi:i<b.elems.length) (ho:o+len<=b.esz) (news:List Value) (q:List PV) (hq:news.length=q.length) (hle:q.length<=len)
 (hrepN:∀ j,j<q.length->(news.getD j undef).oneCell'=true/\Rep F φ (news.getD j undef) (q.getD j pvu)) :
 ∃ ad w',v=.slice (some ad) len cap/\(storeCells ad news).run P w=.ok () w'/\St' C Fr e (h.upd k ⟨b.esz,b.elems.set i (XK (b.elems.getD i []) o q)⟩) F φ a w':=by
 obtain⟨loc',ad,h1,hz,hbase,hs,hl,rfl⟩:=hv.sl_inv;obtain⟨h2,h3⟩:=s.cellAt hb h1 hz;have hilen:i<loc'.len:=by rw [<- h2.len]; exact hi
 have hcapne:loc'.cap≠0:=by have:=h2.cap; omega
 obtain⟨ad',hbase',_,cells,ct,hg,hroom,hrep⟩:=h2.room hcapne;obtain rfl:ad'=ad:=by rw [hbase] at hbase'; simpa using hbase'.symm
 have hesz:b.esz=loc'.esz:=h2.esz;have hcl:(b.elems.getD i []).length=loc'.esz:=h2.el _ (by simp [Y0b,hi]);have hpos:ad'.off+(i*loc'.esz+o)+news.length<=cells.size:=by
  have:=Z2f (esz:=loc'.esz) (j:=loc'.esz-1) (YW hilen h2.cap) (by have:=h2.pos;omega);have:=h2.pos;omega
 have hst:=Y37 P ad'.block (ad'.off+(i*loc'.esz+o)) ct news 0 cells w hg (by simpa using hpos) (fun v hv=>by
  obtain⟨j,hj,rfl⟩:=YE hv;have:=(hrepN j (by rw [<- hq]; exact hj)).1
  simpa [Y0b,hj] using this)
 simp only [YX] at hst;refine⟨⟨ad'.block,ad'.off+(i*loc'.esz+o),none⟩,_,rfl,hst,?_⟩;have hkey:h.upd k ⟨b.esz,b.elems.set i (XK (b.elems.getD i []) o q)⟩=(h.del k).upd k ⟨b.esz,b.elems.set i (XK (b.elems.getD i []) o q)⟩:=(X0.del_upd h k _).symm;rw [hkey];have hhas:loc'.has ad'.block:=⟨hcapne,ad',hbase,rfl⟩
 refine (s.sub (fun _ _ h=>h) (fun _ _ hh=>(X0.del_some hh).2)).adopt (loc':=loc') (φ':=φ) hg (h3 _ hhas).1 (h3 _ hhas).2 (s.del_no hb h1 hhas) h1 (fun _ _ h=>h) (fun _ _=>rfl) s.free (fun k' hk'=>?_) ?_
 . obtain ⟨_, y', hy', rfl⟩ := hk';rw [hbase] at hy';cases hy'
   rfl
 . refine ⟨hesz, h2.pos, by simpa using h2.len, h2.cap, h2.max, fun c hc => ?_, fun _ => ⟨ad', hbase, hs, _, ct, Y3z w _ cells _ ct _ hg, ?_, fun i' j' hi' hj' => ?_⟩⟩
   . obtain ⟨k', hk', rfl⟩ := YE hc;have hk2:k'<b.elems.length:=by simpa using hk'
     by_cases he:i=k'
     . subst he;simp only [List.getElem_set_self];rw [Z2D _ _ _ (by rw [hcl];omega),hcl]
     . simp only [List.getElem_set_ne he];exact h2.el _ (Y0j hk2)
   . simp only [Y2e,Y0e,Y0o,Y17,Y26]; omega
   . rw [Z36 _ _ _ hpos, hq];by_cases he:i'=i
     . subst he;have hset:(b.elems.set i' (XK (b.elems.getD i' []) o q)).getD i' []=XK (b.elems.getD i' []) o q:=by simp [Y0b,hi]
       rw [hset,Z5e _ _ _ (by rw [hcl];omega)];by_cases hr:o<=j'/\j'<o+q.length
       . rw [Y7 (by omega), Y7 hr, show ad'.off + (i' * loc'.esz + j') - (ad'.off + (i' * loc'.esz + o)) = j' - o by omega];exact hrepN _ (by omega)
       . rw [Y8 (by omega), Y8 hr];exact hrep i' j' hi' hj'
     . have hset : (b.elems.set i (XK (b.elems.getD i []) o q)).getD i' [] = b.elems.getD i' [] := by simp [Y0b, Y1o, Y2t he]
       have hout:=ZaU (k:=i) hj' he;rw [hset,Y8 (by omega)];exact hrep i' j' hi' hj'
theorem X3M (s:St' C Fr e h F φ a w) {k:Nat} {b:Bx} {loc:Loc} (hb:h k=some b) (hl:φ k=some loc) (hz:0<loc.esz) (hc0:loc.cap≠0) {ad:Addr} (hbase:loc.base=some ad) {lo:Nat} {news:List Value} {m:List (List PV)} (hnl:news.length=m.length*loc.esz) (hel:∀ c∈m,c.length=loc.esz) (hle:lo+m.length<=loc.len)
 (hnc:∀ i j,i<m.length->j<loc.esz->(news.getD (i*loc.esz+j) undef).oneCell'=true/\Rep F φ (news.getD (i*loc.esz+j) undef) ((m.getD i []).getD j pvu)) :
 ∃ w',(storeCells ⟨ad.block,ad.off+lo*loc.esz,none⟩ news).run P w=.ok () w'/\St' C Fr e (h.upd k ⟨b.esz,b.elems.take lo++(m++b.elems.drop (lo+m.length))⟩) F φ a w':=by
 obtain⟨h2,h3⟩:=s.cellAt hb hl hz;have hlen:=h2.len;have hcap:=h2.cap;obtain⟨ad',hbase',hs,cells,ct,hg,hroom2,hrep⟩:=h2.room hc0;obtain rfl:ad'=ad:=by rw [hbase'] at hbase; exact Y13 hbase
 have hhas:loc.has ad'.block:=⟨hc0,ad',hbase',rfl⟩
 have hfit:ad'.off+lo*loc.esz+news.length<=cells.size:=by
  have e1:(lo+m.length)*loc.esz<=loc.cap*loc.esz:=YM _ (by omega);rw [Y1i] at e1;omega
 have hst:=Y37 P ad'.block (ad'.off+lo*loc.esz) ct news 0 cells w hg (by simpa using hfit) fun u hu=>by
  obtain⟨j,hj,rfl⟩:=YE hu;have:=(hnc (j / loc.esz) (j % loc.esz) (Y3v (by rw [Y1t,<- hnl]; exact hj)) (Y28 _ hz)).1;rw [Y47 j loc.esz] at this;simpa [Y0b,hj] using this
 simp only [YX] at hst;refine⟨_,hst,?_⟩;rw [<- X0.del_upd h k];refine (s.sub (fun _ _ h=>h) (fun _ _ hh=>(X0.del_some hh).2):St' C Fr e (h.del k) F φ a w).adopt (loc':=loc) (φ':=φ) hg (h3 _ hhas).1 (h3 _ hhas).2 (s.del_no hb hl hhas) hl (fun _ _ h=>h) (fun _ _=>rfl) s.free (fun k' hk'=>?_) (⟨h2.esz,h2.pos,by simp; omega,hcap,h2.max,fun c hc=>?_,fun _=>⟨ad',hbase',hs,_,ct,Y3z w _ cells _ ct _ hg,?_,fun i j hi hj=>?_⟩⟩)
 . obtain ⟨_, y, hy, rfl⟩ := hk';rw [hbase'] at hy; cases hy; rfl
 . rcases Y0h.1 hc with h | h
   . exact h2.el c (Y1w h)
   . exact (Y0h.1 h).elim (hel c) fun h=>h2.el c (List.mem_of_mem_drop h)
 . simp only [Y2e,Y0e,Y0o,Y17,Y26]; omega
 . rw [Z36 _ _ _ hfit];have hput:∀ {q:List PV} {v:Value},(b.elems.take lo++(m++b.elems.drop (lo+m.length))).getD i []=q->v.oneCell'=true/\Rep F φ v (q.getD j pvu)->v.oneCell'=true/\Rep F φ v (((b.elems.take lo++(m++b.elems.drop (lo+m.length))).getD i []).getD j pvu):=fun e h=>by rw [e]; exact h
   simp only [Y0b] at hput;rcases Y32 i lo with h1|h1
   . have := YM loc.esz (show i + 1 <= lo from h1);rw [Y1i] at this;rw [Y8 (by omega)];simp only [Y0b] at hrep ⊢;exact hput (by rw [Y11 (by rw [Y0o];omega),Y1k,Y7 h1]) (hrep i j hi hj)
   obtain⟨i,rfl⟩:∃ q,i=lo+q:=⟨i-lo,by omega⟩
   have e0:(lo+i)*loc.esz=lo*loc.esz+i*loc.esz:=Y1i ..;have er:(b.elems.take lo++(m++b.elems.drop (lo+m.length)))[lo+i]?=(m++b.elems.drop (lo+m.length))[i]?:=by rw [YV (by rw [Y0o];omega),Y0o,Y2v (by omega),Y4t]
   rcases Y32 i m.length with h4|h4
   . have := Z2f h4 hj;rw [Y7 (by omega),show ad'.off+((lo+i)*loc.esz+j)-(ad'.off+lo*loc.esz)=i*loc.esz+j by omega];simp only [Y0b] at hnc ⊢;exact hput (by rw [er,Y11 h4]) (hnc i j h4 hj)
   . have := YM loc.esz h4;rw [Y8 (by omega)];simp only [Y0b] at hrep ⊢;exact hput (by rw [er,YV h4,Y18,show lo+m.length+(i-m.length)=lo+i by omega]) (hrep _ j hi hj)
theorem Zht (s:St' C Fr e h F φ a w) {id:Nat} {dT sT ty el el2:TypeId} {inf:TypeInfo} (hu:P.underlying dT=some (.slice el)) (hux:P.underlying sT=some (.slice el2)) (hi:P.info? el=some inf)
 {x y:Operand} {p:PV} {h':X0} (hd:X1 (.copy inf.size x y) e h id=some (p,h')):X4 P C Fr e F φ a w (Builtin.copy_ #[dT,sT] ty #[a.eval x,a.eval y]) id p h':=by
 simp only [X1] at hd
 split at hd
 case h_4=>simp at hd
 case h_2 =>
  rename_i k i o len cap m full hx hy
  split at hd
  case h_2=>simp at hd
  rename_i b hb
  split at hd
  case isFalse=>simp at hd
  rename_i hcond;obtain⟨hm,he1,hi0,ho⟩:=hcond;cases hd;have hn:min m.length len<=m.length:=Y3s _ _;obtain⟨xb,xc,news,hvy,hf,hnl,hrepN⟩:=X2L (P:=P) s (s.eval hy) hm hn;rw [he1,Y24] at hnl;have hql:((m.take len).map fun c=>c.getD 0 pvu).length=min m.length len:=by rw [Y0f,Y0o,Nat.min_comm]
  obtain⟨ad,w',hvx,hst,s'⟩:=X4v (P:=P) s (s.eval hx) hb hi0 ho news ((m.take len).map fun c=>c.getD 0 pvu) (by rw [hnl,hql]) (by rw [hql]; exact Y45 _ _) (fun j hj=>by
   rw [hql] at hj;have:=hrepN j 0 hj (by omega);rw [he1,Y24,YX] at this;have e1:news.toArray.getD j undef=news.getD j undef:=by simp [Y0b,Y0d]
   rw [e1] at this;have e2:((m.take len).map fun c=>c.getD 0 pvu).getD j pvu=(m.getD j []).getD 0 pvu:=by
    have hj1:j<m.length:=by omega
    have hj2:j<len:=by omega
    simp [Y0b,Y1k,hj1,hj2]
   rw [e2]
   exact this)
  rw [hvy] at hf;refine⟨_,w',F,φ,?_,s'.weaken fun _ h=>h.1,.val _⟩;rw [hvx,hvy];simp [Builtin.copy_,Y6 hu,Zd hi,Builtin.lenOf,hf,goInt,hst]
 case h_3 =>
  rename_i k i o len cap k2 i2 o2 len2 cap2 hx hy
  split at hd
  case h_2=>simp at hd
  rename_i b b2 hb hb2
  split at hd
  case isFalse=>simp at hd
  rename_i hcond;obtain⟨he1,hi0,ho,hi2,ho2⟩:=hcond;cases hd;obtain⟨xb,xc,news,hvy,hf,hnl,hrepN⟩:=X4x (P:=P) s (s.eval hy) hb2 hi2 ho2 (n:=min len2 len) (Y3s _ _);have hrl:(b2.elems.getD i2 []).length=b2.esz:=by
   obtain⟨loc',ad,h1,hz,_⟩:=(s.eval hy).sl_inv;obtain⟨h2,_⟩:=s.cellAt hb2 h1 hz;rw [h2.esz];exact h2.el _ (by simp [Y0b,hi2])
  have hql:((((b2.elems.getD i2 []).drop o2).take len2).take len).length=min len2 len:=by
   rw [Y0o,Y0o,Y17,hrl]; omega
  obtain⟨ad,w',hvx,hst,s'⟩:=X4v (P:=P) s (s.eval hx) hb hi0 ho news _ (by rw [hnl,hql]) (by rw [hql]; exact Y45 _ _) (fun j hj=>by
   rw [hql] at hj;have:=hrepN j hj;have e2:((((b2.elems.getD i2 []).drop o2).take len2).take len).getD j pvu=(b2.elems.getD i2 []).getD (o2+j) pvu:=by
    have hj1:j<len2:=by omega
    have hj2:j<len:=by omega
    simp only [Y0b,Y1k,Y18];rw [Y7 hj2,Y7 hj1]
   rw [e2]
   exact this)
  rw [hvy] at hf;refine⟨_,w',F,φ,?_,s'.weaken fun _ h=>h.1,.val _⟩;rw [hvx,hvy];have hsz:(sizeOf el).run P w=.ok 1 w:=by rw [<- he1]; exact Zd hi
  simp [Builtin.copy_,Y6 hu,hsz,Builtin.lenOf,hf,goInt,hst]
 rename_i k m full hx hy
 split at hd
 case h_2=>simp at hd
 rename_i b hb
 split at hd
 case isFalse=>simp at hd
 rename_i hcond;obtain⟨hm,hbesz⟩:=hcond;cases hd;obtain⟨loc',h1,hz,hv⟩:=(s.eval hx).own_inv;obtain⟨h2,h3⟩:=s.cellAt hb h1 hz;have hlen:=h2.len;have hesz:loc'.esz=inf.size:=by rw [<- h2.esz,hbesz]
 have hn:min m.length loc'.len<=m.length:=Y3s _ _;obtain⟨xb,xc,news,hvy,hf,hnl,hrepN⟩:=X2L (P:=P) s (s.eval hy) hm hn;rw [hvy] at hf;have hmin:min m.length b.elems.length=min m.length loc'.len:=by rw [hlen]
 have hnlt:min m.length loc'.len<=loc'.len:=Y45 _ _;have hpre:(Builtin.copy_ #[dT,sT] ty #[a.eval x,a.eval y]).run P w=match loc'.base with
  | some ad=>((storeCells ad news).run P w).andThen fun _ w'=>.ok (.int .i64 (min m.length loc'.len:Nat)) w'
  | none=>.ok (.int .i64 (min m.length loc'.len:Nat)) w:=by
  rw [hv,hvy];cases loc'.base<;>simp [Builtin.copy_,Y6 hu,Zd hi,Builtin.lenOf,hf,goInt]
 by_cases hc0:loc'.cap=0
 . have hl0 : loc'.len = 0 := by have := h2.cap; omega
   have hb0:b.elems = []:=YD (by omega);have hn0:min m.length loc'.len=0:=by omega
   have hnw:news = []:=YD (by rw [hnl,hn0];omega);have hrun:(Builtin.copy_ #[dT,sT] ty #[a.eval x,a.eval y]).run P w=.ok (.int .i64 (min m.length loc'.len:Nat)) w:=by
    rw [hpre,hnw];cases loc'.base<;>simp [storeCells]
   have hsame:h.upd k ⟨b.esz,m.take b.elems.length++b.elems.drop m.length⟩=h:=by
    funext j;by_cases hj:j=k
    . subst hj;rw [X0.upd_same,hb];obtain⟨besz,bel⟩:=b;simp only at hb0;subst hb0;simp
    . rw [X0.upd_ne _ _ hj]
   rw [hsame,hmin];exact⟨_,w,F,φ,hrun,s.weaken fun _ h=>h.1,.val _⟩
 . obtain ⟨ad, hbase, hs, _⟩ := h2.room hc0;have hln:(m.take (min m.length loc'.len)).length=min m.length loc'.len:=by rw [Y0o]; omega
   obtain⟨w',hst,s'⟩:=X3M (P:=P) s hb h1 hz hc0 hbase (lo:=0) (news:=news) (m:=m.take (min m.length loc'.len)) (by rw [hnl,hln,hesz]) (fun c hc=>by rw [hm c (Y1w hc),hesz]) (by rw [hln];omega) (fun i j hi hj=>by
    rw [hln] at hi;have:=hrepN i j hi (by rw [<- hesz]; exact hj);have e1:(m.take (min m.length loc'.len)).getD i []=m.getD i []:=by rw [Y0b,Y1k,Y7 hi,<- Y0b]
    rw [hesz,e1]
    simpa [Y0b,Y0d] using this)
   have e2:b.elems.take 0++(m.take (min m.length loc'.len)++b.elems.drop (0+(m.take (min m.length loc'.len)).length))=m.take b.elems.length++b.elems.drop m.length:=by
    rw [hln,<- hlen,Y3x,Y1M,YQ];rcases Nat.le_total m.length b.elems.length with h|h
    . rw [Y2v h,Y2a h,Y0q]
    . rw [Nat.min_eq_right h,List.drop_length,List.drop_of_length_le h]
   rw [e2] at s';simp only [Y3q,YX,<- Z4v ad hs] at hst;rw [hmin];refine⟨_,w',F,φ,?_,s'.weaken fun _ h=>h.1,.val _⟩;rw [hpre,hbase];simp only [hst,YG]
theorem Zb0 (s:St' C Fr e h F φ a w) {id:Nat} {x:Operand} {i:Nat} {p:PV} {h':X0} (hd:X1 (.extract x i) e h id=some (p,h')):X4 P C Fr e F φ a w (Instr.extract (a.eval x) i) id p h':=by
 simp only [X1] at hd
 split at hd
 . rename_i l hl
   split at hd
   case isFalse=>simp at hd
   rename_i hi;cases hd;obtain⟨vs,hv,h1,h2⟩:=(s.eval hl).tup_inv;have hi':i<vs.size:=by omega
   exact X4.quiet s (val:=vs.getD i undef) (by simp [Instr.extract,hv,hi',Array.getD]) (h2 i hi)
 . simp at hd
theorem Zhu (s:St' C Fr e h F φ a w) {id:Nat} {f:FuncId} {caps:Array Operand} {p:PV} {h':X0} (hd:X1 (.mkfn f caps.toList) e h id=some (p,h')):X4 P C Fr e F φ a w (Instr.makeFunc (.func f) (#[].map a.eval) (caps.map a.eval)) id p h':=by
 simp only [X1] at hd
 split at hd
 . rename_i l hl;cases hd;obtain⟨h1,h2⟩:=s.evals hl;refine X4.quiet s (val:=.func (.func f) #[] (caps.map a.eval)) (by simp [Instr.makeFunc]) (.fn f _ l (by simpa using h1) fun i hi=>?_);have:=h2 i hi;rw [<- Z1m];simpa using this
 . simp at hd
theorem Zhv (s:St' C Fr e h F φ a w) {id:Nat} {f:FuncId} {caps:Array Operand} {p:PV} {h':X0} (hd:X1 (.mkbf f caps.toList) e h id=some (p,h')):X4 P C Fr e F φ a w (Instr.makeFunc (.func f) (caps.map a.eval) (#[].map a.eval)) id p h':=by
 simp only [X1] at hd
 split at hd
 . rename_i l hl;cases hd;obtain⟨h1,h2⟩:=s.evals hl;refine X4.quiet s (val:=.func (.func f) (caps.map a.eval) #[]) (by simp [Instr.makeFunc]) (.bf f _ l (by simpa using h1) fun i hi=>?_);have:=h2 i hi;rw [<- Z1m];simpa using this
 . simp at hd
theorem Zke (s:St' C Fr e h F φ a w) {id:Nat} {ts:Array TypeId} {ty:TypeId} {x y:Operand} {p:PV} {h':X0} (hd:X1 (.mx x y) e h id=some (p,h')):X4 P C Fr e F φ a w (Builtin.max_ ts ty #[a.eval x,a.eval y]) id p h':=by
 simp only [X1] at hd
 split at hd
 . rename_i k n k' m hx hy;cases hd;exact X4.quiet s (by rw [(s.eval hx).val_inv,(s.eval hy).val_inv]; exact run_max_int2 w ts ty k k' n m) (.val _)
 . simp at hd
theorem Zkf (s:St' C Fr e h F φ a w) {id:Nat} {ts:Array TypeId} {ty:TypeId} {x y:Operand} {p:PV} {h':X0} (hd:X1 (.mn x y) e h id=some (p,h')):X4 P C Fr e F φ a w (Builtin.min_ ts ty #[a.eval x,a.eval y]) id p h':=by
 simp only [X1] at hd
 split at hd
 . rename_i k n k' m hx hy;cases hd;exact X4.quiet s (by rw [(s.eval hx).val_inv,(s.eval hy).val_inv]; exact run_min_int2 w ts ty k k' n m) (.val _)
 . simp at hd
end
section
variable {P:Program} {C:Ctx} {Fr:Nat->Prop} {e:Env} {h:X0} {F:XC} {φ:XE} {a:Act} {w:World}
theorem Z2i {t:TypeId} {k:Nat} (ht:XX P t=some k):(k=0/\∃ i,P.underlying t=some (.int i)) \/ (k=1/\P.underlying t=some .bool) \/ (k=2/\P.underlying t=some .string):=by
 unfold XX at ht
 split at ht
 . rename_i i hu; cases ht; exact .inl ⟨rfl,i,hu⟩
 . rename_i hu; cases ht; exact .inr (.inl ⟨rfl,hu⟩)
 . rename_i hu; cases ht; exact .inr (.inr ⟨rfl,hu⟩)
 . cases ht
theorem Z3O {k:Nat} {p q:PV} {b:Bool} (he:X1z k p q=some b):(k=0/\∃ i x y,p=.val (.int i x)/\q=.val (.int i y)/\b=(x == y)) \/ (k=1/\∃ x y,p=.val (.bool x)/\q=.val (.bool y)/\b=(x == y)) \/ (k=2/\∃ x y,p=.val (.string x)/\q=.val (.string y)/\b=(x == y)):=by
 unfold X1z at he
 split at he
 . split at he
   . rename_i hc; obtain⟨rfl,rfl⟩:=hc; cases he; exact .inl ⟨rfl,_,_,_,rfl,rfl,rfl⟩
   . cases he
 . split at he
   . rename_i hc; subst hc; cases he; exact .inr (.inl ⟨rfl,_,_,rfl,rfl,rfl⟩)
   . cases he
 . split at he
   . rename_i hc; subst hc; cases he; exact .inr (.inr ⟨rfl,_,_,rfl,rfl,rfl⟩)
   . cases he
 . cases he
theorem Z87 {t:TypeId} {k:Nat} (ht:XX P t=some k) {u v:Value} {p q:PV} (hp:Rep F φ u p) (hq:Rep F φ v q) {b:Bool} (he:X1z k p q=some b) (d:Nat):(Op.equalIn (d+1) t u v).run P w=.ok b w:=by
 rcases Z3O he with⟨rfl,i,x,y,rfl,rfl,rfl⟩|⟨rfl,x,y,rfl,rfl,rfl⟩|⟨rfl,x,y,rfl,rfl,rfl⟩
 all_goals
  obtain rfl:=hp.val_inv;obtain rfl:=hq.val_inv;rcases Z2i ht with⟨h1,i,hu⟩|⟨h1,hu⟩|⟨h1,hu⟩
  all_goals first
   | (cases h1; done)
   | (unfold Op.equalIn
      simp [Y6 hu])
theorem Z1D:∀ {ks:List Nat} {l m:List PV} {b:Bool},Xa ks l m=some b->l.length=ks.length/\m.length=ks.length
 | [],[],[],_,_=>⟨rfl,rfl⟩
 | k :: ks, x :: l, y :: m, b, h => by
   simp only [Xa] at h
   split at h
   . rename_i b1 b2 h1 h2;have:=Z1D h2;exact⟨by simp [this.1],by simp [this.2]⟩
   . cases h
 | [],[],_ :: _,_,h=>by simp [Xa] at h
 | [],_ :: _,_,_,h=>by simp [Xa] at h
 | _ :: _,[],_,_,h=>by simp [Xa] at h
 | _ :: _,_ :: _,[],_,h=>by simp [Xa] at h
theorem Z3P {t:TypeId} (hl:XY P t=some (false,1)) {vs:Array Value} {i:Nat} (hi:i<vs.size):(part t vs i).run P w=.ok (vs.getD i undef) w:=by
 obtain⟨_,d,inf,hu,hd,hinf,hsz⟩:=Z2u hl;simp [part,Z26 hu hd,hi,Array.getD]
theorem toList_getD' (vs:Array Value) (i:Nat):vs.toList.getD i undef=vs.getD i undef:=by simp [Y0b,Y0d]
theorem Z1r (x:PV) (l:List PV) (j:Nat):(x :: l).getD (j+1) pvu=l.getD j pvu:=rfl
theorem ZcG {d:Nat} {xs ys:Array Value}:∀ {fs:List Field} {i:Nat} {ks:List Nat} {l m:List PV} {b:Bool},X2H P fs i=some ks->Xa ks l m=some b->i+l.length<=xs.size->i+m.length<=ys.size ->
 (∀ j,j<l.length->Rep F φ (xs.getD (i+j) undef) (l.getD j pvu))->(∀ j,j<m.length->Rep F φ (ys.getD (i+j) undef) (m.getD j pvu)) ->
 (forIn fs ((none, ()) : Option Bool × Unit) fun f __s =>
   if f.name = "_" then pure (ForInStep.yield (none,()))
   else do
    let __do_lift <- part f.type xs f.offset
    let __do_lift_1 <- part f.type ys f.offset
    let __do_lift <- Op.equalIn (d+1) f.type __do_lift __do_lift_1
    if __do_lift=false then pure (ForInStep.done (some false,())) else pure (ForInStep.yield (none,())):Sem (Option Bool×Unit)).run P w=.ok (if b=true then none else some false,()) w
 | [], i, ks, l, m, b, hf, he, _, _, _, _ => by
   obtain rfl : []=ks:=by simpa [X2H] using hf
   obtain⟨h1,h2⟩:=Z1D he;obtain rfl:l = []:=YD h1;obtain rfl:m = []:=YD h2;obtain rfl:true=b:=by simpa [Xa] using he
   simp
 | f :: fs, i, ks, l, m, b, hf, he, hx, hy, hrx, hry => by
   simp only [X2H] at hf
   split at hf
   case h_2=>cases hf
   rename_i k ks' hk hks
   split at hf
   case isFalse=>cases hf
   rename_i hc;cases hf;simp only [Y0k,Y0n,bne_iff_ne,ne_eq,Y1s] at hc;obtain⟨⟨hn,hlay⟩,hoff⟩:=hc;cases l with
   | nil=>simp [Xa] at he
   | cons p l =>
     cases m with
     | nil=>simp [Xa] at he
     | cons q m =>
       simp only [Xa] at he
       split at he
       case h_2=>cases he
       rename_i b1 b2 h1 h2;cases he;have hxi:i<xs.size:=by simp at hx; omega
       have hyi:i<ys.size:=by simp at hy; omega
       have r1:=hrx 0 (by simp);have r2:=hry 0 (by simp);simp only [YX] at r1 r2;have e0:=Z87 (w:=w) hk r1 r2 h1 d;have ih:=ZcG (d:=d) (xs:=xs) (ys:=ys) (fs:=fs) (i:=i+1) hks h2 (by simp at hx ⊢;omega) (by simp at hy ⊢;omega)
        (fun j hj=>by have:=hrx (j+1) (by simpa using hj); rw [Z1r] at this; rw [show i+1+j=i+(j+1) by omega]; exact this)
        (fun j hj=>by have:=hry (j+1) (by simpa using hj); rw [Z1r] at this; rw [show i+1+j=i+(j+1) by omega]; exact this)
       rw [Y2W];simp only [hn,Y1G,YT,hoff,Z3P hlay hxi,Z3P hlay hyi,YG,e0];cases b1 with
       | true=>simp only [Y3N,Y1G,Y1C,YG,Y19]; exact ih
       | false=>simp
theorem Z9t {d:Nat} {el:TypeId} {k:Nat} (hk:XX P el=some k) (hlay:XY P el=some (false,1)) {xs ys:Array Value}:∀ {n i:Nat} {l m:List PV} {b:Bool},Xa (List.replicate n k) l m=some b->i+l.length<=xs.size->i+m.length<=ys.size ->
 (∀ j,j<l.length->Rep F φ (xs.getD (i+j) undef) (l.getD j pvu))->(∀ j,j<m.length->Rep F φ (ys.getD (i+j) undef) (m.getD j pvu)) ->
 (forIn (List.range' i n) ((none, ()) : Option Bool × Unit) fun i __s => do
   let __do_lift <- part el xs (i*1)
   let __do_lift_1 <- part el ys (i*1)
   let __do_lift <- Op.equalIn (d+1) el __do_lift __do_lift_1
   if __do_lift=false then pure (ForInStep.done (some false,())) else pure (ForInStep.yield (none,())):Sem (Option Bool×Unit)).run P w=.ok (if b=true then none else some false,()) w
 | 0, i, l, m, b, he, _, _, _, _ => by
   obtain⟨h1,h2⟩:=Z1D he;obtain rfl:l = []:=YD h1;obtain rfl:m = []:=YD h2;obtain rfl:true=b:=by simpa [Xa] using he
   simp
 | n + 1, i, l, m, b, he, hx, hy, hrx, hry => by
   rw [Y3F] at he;cases l with
   | nil=>simp [Xa] at he
   | cons p l =>
     cases m with
     | nil=>simp [Xa] at he
     | cons q m =>
       simp only [Xa] at he
       split at he
       case h_2=>cases he
       rename_i b1 b2 h1 h2;cases he;have hxi:i<xs.size:=by simp at hx; omega
       have hyi:i<ys.size:=by simp at hy; omega
       have r1:=hrx 0 (by simp);have r2:=hry 0 (by simp);simp only [YX] at r1 r2;have e0:=Z87 (w:=w) hk r1 r2 h1 d;have ih:=Z9t (d:=d) hk hlay (xs:=xs) (ys:=ys) (n:=n) (i:=i+1) h2 (by simp at hx ⊢;omega) (by simp at hy ⊢;omega)
        (fun j hj=>by have:=hrx (j+1) (by simpa using hj); rw [Z1r] at this; rw [show i+1+j=i+(j+1) by omega]; exact this)
        (fun j hj=>by have:=hry (j+1) (by simpa using hj); rw [Z1r] at this; rw [show i+1+j=i+(j+1) by omega]; exact this)
       rw [List.range'_succ,Y2W];simp only [YT,Y24,Z3P hlay hxi,Z3P hlay hyi,YG,e0];cases b1 with
       | true =>
         simp only [Y3N,Y1G,Y1C,YG,Y19];simpa only [Y24] using ih
       | false=>simp
theorem Z9u {el:TypeId} (hlay:XY P el=some (false,1)):(sizeOf el).run P w=.ok 1 w:=by
 obtain⟨_,d,inf,hu,hd,hinf,hsz⟩:=Z2u hlay;rw [Zd hinf,hsz]
theorem Zb1 {t:TypeId} {ks:List Nat} (ht:X2C P t=some ks) {u v:Value} {l m:List PV} (hp:Rep F φ u (.agg l)) (hq:Rep F φ v (.agg m)) {b:Bool} (he:Xa ks l m=some b) (d:Nat):(Op.equalIn (d+2) t u v).run P w=.ok b w:=by
 obtain⟨xs,rfl,hx,_,hrx⟩:=hp.agg_inv;obtain⟨ys,rfl,hy,_,hry⟩:=hq.agg_inv;unfold X2C at ht
 split at ht
 . cases ht
 split at ht
 . rename_i fs hu
   split at ht
   . cases ht
   rename_i hs;have hs':P.stoodInHeld t=false:=by simpa using hs
   have key:=ZcG (w:=w) (d:=d) (xs:=xs) (ys:=ys) (i:=0) ht he (by omega) (by omega) (fun j hj=>by rw [YQ]; exact hrx j hj) (fun j hj=>by rw [YQ]; exact hry j hj);unfold Op.equalIn;simp only [YT,Y6 hu,YG];simp [hs',<- Array.forIn_toList];rw [key];cases b<;>rfl
 . rename_i n el hu
   split at ht
   case h_2=>cases ht
   rename_i k hk
   split at ht
   case isFalse=>cases ht
   rename_i hlay;simp only [Y0n] at hlay;cases ht;have key:=Z9t (w:=w) (d:=d) hk hlay (xs:=xs) (ys:=ys) (i:=0) he (by omega) (by omega) (fun j hj=>by rw [YQ]; exact hrx j hj) (fun j hj=>by rw [YQ]; exact hry j hj);unfold Op.equalIn;simp only [YT,Y6 hu,YG];simp [Z9u hlay];simp only [Y24] at key;rw [key];cases b<;>rfl
 . cases ht
theorem ZdH {t:TypeId} {ks:List Nat} (ht:X2C P t=some ks):P.eqGuardType P.depth t=false:=by
 unfold X2C at ht
 split at ht
 . cases ht
 . rename_i h; simpa using h
theorem Z6a:∀ {ks k2:List Nat} {l m:List PV} {b:Bool},Xa (ks++k2) l m=some b->∃ b1 b2,Xa ks (l.take ks.length) (m.take ks.length)=some b1/\Xa k2 (l.drop ks.length) (m.drop ks.length)=some b2/\b=(b1&&b2)
 | [],k2,l,m,b,h=>⟨true,b,rfl,h,rfl⟩
 | k :: ks,k2,[],m,b,h=>by simp [Xa] at h
 | k :: ks,k2,x :: l,[],b,h=>by simp [Xa] at h
 | k :: ks, k2, x :: l, y :: m, b, h => by
   simp only [Y1n,Xa] at h
   split at h
   case h_2=>cases h
   rename_i c1 c2 h1 h2;cases h;obtain⟨b1,b2,g1,g2,rfl⟩:=Z6a h2;exact⟨c1&&b1,b2,by simp only [Y04,Y3E,Xa,h1,g1],by simpa using g2,by rw [Bool.and_assoc]⟩
theorem X63 {t:TypeId} {g:Bool} {ks:List Nat} (hk:X5m P t=some (g,ks)) (hlay:XY P t=some (g,ks.length)) {xs ys:Array Value} {l m:List PV} (hp:Rep F φ (.agg xs) (.agg l)) (hq:Rep F φ (.agg ys) (.agg m)) {i:Nat} {b:Bool}
 (he:Xa ks ((l.drop i).take ks.length) ((m.drop i).take ks.length)=some b) (hil:i<=l.length) (him:i<=m.length) (d:Nat) :
 i+ks.length<=l.length/\i+ks.length<=m.length/\∃ u v,(part t xs i).run P w=.ok u w/\(part t ys i).run P w=.ok v w/\(Op.equalIn (d+2) t u v).run P w=.ok b w:=by
 obtain⟨_,hxe,hx,hx1,hrx⟩:=hp.agg_inv;cases hxe;obtain⟨_,hye,hy,hy1,hry⟩:=hq.agg_inv;cases hye;obtain⟨e1,e2⟩:=Z1D he;rw [Y0o,Y17] at e1 e2;have hl:i+ks.length<=l.length:=by omega
 have hm:i+ks.length<=m.length:=by omega
 refine⟨hl,hm,?_⟩;unfold X5m at hk
 split at hk
 . rename_i k hs;cases hk;have hl:i<l.length:=hl;have hm:i<m.length:=hm;rw [Y16 hl,Y16 hm] at he;have he:(match X1z k l[i] m[i],Xa [] [] [] with|some x,some y=>some (x&&y)|_,_=>none)=some b:=he;have hb:X1z k l[i] m[i]=some b:=by
    cases hc:X1z k l[i] m[i] with
    | none=>rw [hc] at he; cases he
    | some c=>rw [hc] at he; simpa [Xa] using he
   obtain⟨u,hu,ru⟩:=Z3N (w:=w) (F:=F) (φ:=φ) hlay (vs:=xs) (l:=l) (off:=i) (p:=l[i]) (by unfold X1t; rw [Y7 (show i + [k].length<=l.length from hl)]; simp only [Y16 hl]) (by assumption) hx1 hrx;obtain⟨v,hv,rv⟩:=Z3N (w:=w) (F:=F) (φ:=φ) hlay (vs:=ys) (l:=m) (off:=i) (p:=m[i]) (by unfold X1t; rw [Y7 (show i + [k].length<=m.length from hm)]; simp only [Y16 hm]) (by assumption) hy1 hry;exact⟨u,v,hu,hv,Z87 hs ru rv hb (d+1)⟩
 . split at hk
   . rename_i ks' hs;cases hk;obtain⟨u,hu,ru⟩:=Z3N (w:=w) (F:=F) (φ:=φ) hlay (vs:=xs) (l:=l) (off:=i) (p:=.agg ((l.drop i).take ks.length)) (by unfold X1t; rw [Y7 hl]) (by assumption) hx1 hrx;obtain⟨v,hv,rv⟩:=Z3N (w:=w) (F:=F) (φ:=φ) hlay (vs:=ys) (l:=m) (off:=i) (p:=.agg ((m.drop i).take ks.length)) (by unfold X1t; rw [Y7 hm]) (by assumption) hy1 hry;exact⟨u,v,hu,hv,Zb1 hs ru rv he d⟩
   . cases hk
theorem ZcH {d:Nat} {xs ys:Array Value} {l m:List PV} (hp:Rep F φ (.agg xs) (.agg l)) (hq:Rep F φ (.agg ys) (.agg m)):∀ {fs:List Field} {i:Nat} {ks:List Nat} {b:Bool},X3m P fs i=some ks->Xa ks (l.drop i) (m.drop i)=some b->i<=l.length->i<=m.length ->
 (forIn fs ((none, ()) : Option Bool × Unit) fun f __s =>
   if f.name = "_" then pure (ForInStep.yield (none,()))
   else do
    let __do_lift <- part f.type xs f.offset
    let __do_lift_1 <- part f.type ys f.offset
    let __do_lift <- Op.equalIn (d+2) f.type __do_lift __do_lift_1
    if __do_lift=false then pure (ForInStep.done (some false,())) else pure (ForInStep.yield (none,())):Sem (Option Bool×Unit)).run P w=.ok (if b=true then none else some false,()) w
 | [], i, ks, b, hf, he, _, _ => by
   obtain rfl : []=ks:=by simpa [X3m] using hf
   obtain rfl:true=b:=by
    generalize l.drop i=l at he;generalize m.drop i=m at he;cases l<;>cases m<;>simp [Xa] at he;exact he.symm
   simp
 | f :: fs, i, ks, b, hf, he, hil, him => by
   simp only [X3m] at hf
   split at hf
   case h_2=>cases hf
   rename_i g k1 hk
   split at hf
   case h_2=>cases hf
   rename_i k2 hks
   split at hf
   case isFalse=>cases hf
   rename_i hc;cases hf;simp only [Y0k,Y0n,bne_iff_ne,ne_eq,Y1s] at hc;obtain⟨⟨hn,hlay⟩,hoff⟩:=hc;obtain⟨b1,b2,h1,h2,rfl⟩:=Z6a he;obtain⟨hl,hm,u,v,hu,hv,huv⟩:=X63 (w:=w) hk hlay hp hq h1 hil him d;rw [Y2k,Y2k] at h2;have ih:=ZcH (d:=d) hp hq hks h2 hl hm;rw [Y2W];simp only [hn,Y1G,YT,hoff,hu,hv,YG,huv];cases b1 with
   | true=>simp only [Y3N,Y1G,Y1C,YG,Y19]; exact ih
   | false=>simp
theorem Zkg {t:TypeId} {ks:List Nat} (ht:eqT P t=some ks) {u v:Value} {l m:List PV} (hp:Rep F φ u (.agg l)) (hq:Rep F φ v (.agg m)) {b:Bool} (he:Xa ks l m=some b) (d:Nat):(Op.equalIn (d+3) t u v).run P w=.ok b w:=by
 unfold eqT at ht
 split at ht
 . rename_i ks' h;cases ht;exact Zb1 h hp hq he (d+1)
 split at ht
 . cases ht
 split at ht
 case h_2=>cases ht
 rename_i fs hu
 split at ht
 . cases ht
 rename_i hs;have hs':P.stoodInHeld t=false:=by simpa using hs
 obtain⟨xs,rfl,hx,_,hrx⟩:=hp.agg_inv;obtain⟨ys,rfl,hy,_,hry⟩:=hq.agg_inv;have key:=ZcH (w:=w) (d:=d) hp hq (i:=0) ht he (Y0l _) (Y0l _);unfold Op.equalIn;simp only [YT,Y6 hu,YG];simp [hs',<- Array.forIn_toList];rw [key];cases b<;>rfl
theorem Zfl {t:TypeId} {ks:List Nat} (ht:eqT P t=some ks):P.eqGuardType P.depth t=false:=by
 unfold eqT at ht
 split at ht
 . exact ZdH (by assumption)
 split at ht
 . cases ht
 . rename_i h; simpa using h
theorem Z7d {op:BinOp} {t:TypeId} {ks:List Nat} (ht:eqT P t=some ks) {x y:Operand} {va vb:Value} {p q r:PV} (hx:Rep F φ va p) (hy:Rep F φ vb q) (hs:X3T op (.cells ks) p q=some r) :
 ∃ val,(do eqGuard op t x y va vb; binOp op t va vb:Sem Value).run P w=.ok val w/\Rep F φ val r:=by
 simp only [X3T] at hs
 split at hs
 case h_2=>cases hs
 rename_i l m
 split at hs
 case h_2=>cases hs
 rename_i b hb;have key:=Zkg (w:=w) ht hx hy hb 9997;obtain⟨xs,rfl,_⟩:=hx.agg_inv;obtain⟨ys,rfl,_⟩:=hy.agg_inv;have hg:=Zfl ht
 split at hs
 . cases hs;exact⟨.bool b,by simp [eqGuard,hg,binOp,Op.equal,Op.maxDepth,key],.val _⟩
 . cases hs;exact⟨.bool (!b),by simp [eqGuard,hg,binOp,Op.equal,Op.maxDepth,key],.val _⟩
 . cases hs
theorem X2J {t:TypeId} {k:Nat} (ht:XX P t=some k) {u:Value} {p:PV} (hp:Rep F φ u p) {b:Bool} (he:X1z k p p=some b) (em:Bool) (n:Nat):(Instr.checkKey em (n+1) t u).run P w=.ok () w:=by
 rcases Z3O he with⟨rfl,i,x,y,rfl,hq,rfl⟩|⟨rfl,x,y,rfl,hq,rfl⟩|⟨rfl,x,y,rfl,hq,rfl⟩
 all_goals
  obtain rfl:=hp.val_inv;rcases Z2i ht with⟨h1,i,hu⟩|⟨h1,hu⟩|⟨h1,hu⟩
  all_goals first
   | (cases h1; done)
   | (unfold Instr.checkKey
      simp [Y6 hu])
theorem X4u {em:Bool} {n:Nat} {xs:Array Value}:∀ {fs:List Field} {i:Nat} {ks:List Nat} {l:List PV} {b:Bool},X2H P fs i=some ks->Xa ks l l=some b->i+l.length<=xs.size->(∀ j,j<l.length->Rep F φ (xs.getD (i+j) undef) (l.getD j pvu)) ->
 (forIn fs PUnit.unit fun f __s =>
   if f.name = "_" then pure (ForInStep.yield PUnit.unit)
   else do
    let __do_lift <- part f.type xs f.offset
    Instr.checkKey em (n+1) f.type __do_lift
    pure (ForInStep.yield PUnit.unit):Sem PUnit).run P w=.ok PUnit.unit w
 | [],i,ks,l,b,hf,he,_,_=>by simp
 | f :: fs, i, ks, l, b, hf, he, hx, hrx => by
   simp only [X2H] at hf
   split at hf
   case h_2=>cases hf
   rename_i k ks' hk hks
   split at hf
   case isFalse=>cases hf
   rename_i hc;cases hf;simp only [Y0k,Y0n,bne_iff_ne,ne_eq,Y1s] at hc;obtain⟨⟨hn,hlay⟩,hoff⟩:=hc;cases l with
   | nil=>simp [Xa] at he
   | cons p l =>
     simp only [Xa] at he
     split at he
     case h_2=>cases he
     rename_i b1 b2 h1 h2;have hxi:i<xs.size:=by simp at hx; omega
     have r1:=hrx 0 (by simp);simp only [YX] at r1;have e0:=X2J (w:=w) hk r1 h1 em n;have ih:=X4u (em:=em) (n:=n) (xs:=xs) (fs:=fs) (i:=i+1) hks h2 (by simp at hx ⊢;omega)
      (fun j hj=>by have:=hrx (j+1) (by simpa using hj); rw [Z1r] at this; rw [show i+1+j=i+(j+1) by omega]; exact this)
     rw [Y2W];simp only [hn,Y1G,YT,hoff,Z3P hlay hxi,YG,e0,Y1C];exact ih
theorem X3W {em:Bool} {n:Nat} {el:TypeId} {k:Nat} (hk:XX P el=some k) (hlay:XY P el=some (false,1)) {xs:Array Value}:∀ {c i:Nat} {l:List PV} {b:Bool},Xa (List.replicate c k) l l=some b->i+l.length<=xs.size->(∀ j,j<l.length->Rep F φ (xs.getD (i+j) undef) (l.getD j pvu)) ->
 (forIn (List.range' i c) PUnit.unit fun i __s => do
   let __do_lift <- sizeOf el
   let __do_lift <- part el xs (i*__do_lift)
   Instr.checkKey em (n+1) el __do_lift
   pure (ForInStep.yield PUnit.unit):Sem PUnit).run P w=.ok PUnit.unit w
 | 0,i,l,b,he,_,_=>by simp
 | c + 1, i, l, b, he, hx, hrx => by
   rw [Y3F] at he;cases l with
   | nil=>simp [Xa] at he
   | cons p l =>
     simp only [Xa] at he
     split at he
     case h_2=>cases he
     rename_i b1 b2 h1 h2;have hxi:i<xs.size:=by simp at hx; omega
     have r1:=hrx 0 (by simp);simp only [YX] at r1;have e0:=X2J (w:=w) hk r1 h1 em n;have ih:=X3W (em:=em) (n:=n) hk hlay (xs:=xs) (c:=c) (i:=i+1) h2 (by simp at hx ⊢;omega)
      (fun j hj=>by have:=hrx (j+1) (by simpa using hj); rw [Z1r] at this; rw [show i+1+j=i+(j+1) by omega]; exact this)
     rw [List.range'_succ,Y2W];simp only [YT,Z9u hlay,Y24,Z3P hlay hxi,YG,e0,Y1C];exact ih
theorem X4t {t:TypeId} {ks:List Nat} (ht:X2C P t=some ks) {u:Value} {l:List PV} (hp:Rep F φ u (.agg l)) {b:Bool} (he:Xa ks l l=some b) (em:Bool) (n:Nat):(Instr.checkKey em (n+2) t u).run P w=.ok () w:=by
 obtain⟨xs,rfl,hx,_,hrx⟩:=hp.agg_inv;unfold X2C at ht
 split at ht
 . cases ht
 split at ht
 . rename_i fs hu
   split at ht
   . cases ht
   have key:=X4u (w:=w) (em:=em) (n:=n) (xs:=xs) (i:=0) ht he (by omega) (fun j hj=>by rw [YQ]; exact hrx j hj);unfold Instr.checkKey;simp only [YT,Y6 hu,YG];simp only [<- Y3O,ne_eq,ite_not,YT,key,YG]
   rfl
 . rename_i c el hu
   split at ht
   case h_2=>cases ht
   rename_i k hk
   split at ht
   case isFalse=>cases ht
   rename_i hlay;simp only [Y0n] at hlay;cases ht;have key:=X3W (w:=w) (em:=em) (n:=n) hk hlay (xs:=xs) (i:=0) he (by omega) (fun j hj=>by rw [YQ]; exact hrx j hj);unfold Instr.checkKey;simp only [YT,Y6 hu,YG,Std.Legacy.Range.forIn_eq_forIn_range',Std.Legacy.Range.size,Nat.sub_zero,Y3L,Y4e,key]
   rfl
 . cases ht
theorem Z5f {t:TypeId} {c:KC} (hk:X4e P t=some c):(∃ k,c=.one k/\XX P t=some k) \/ ∃ ks,c=.agg ks/\X2C P t=some ks:=by
 unfold X4e at hk
 split at hk
 . rename_i k h; cases hk; exact .inl ⟨k,rfl,h⟩
 . cases hf : X2C P t with
   | none=>simp [hf] at hk
   | some ks=>simp [hf] at hk; exact .inr ⟨ks,hk.symm,rfl⟩
theorem Z6b {t:TypeId} {c:KC} (hk:X4e P t=some c) {u:Value} {p:PV} (hp:Rep F φ u p) (hs:X2t c p p=some true) (em:Bool):(Instr.checkKey em 10000 t u).run P w=.ok () w:=by
 rcases Z5f hk with⟨k,rfl,hk'⟩|⟨ks,rfl,hk'⟩
 . exact X2J hk' hp hs em 9999
 . simp only [X2t] at hs
   split at hs
   . exact X4t hk' hp hs em 9998
   . cases hs
theorem Zj2 {t:TypeId} {c:KC} (hk:X4e P t=some c) {u v:Value} {p q:PV} (hp:Rep F φ u p) (hq:Rep F φ v q) {b:Bool} (hs:X2t c p q=some b):(Op.equal t u v).run P w=.ok b w:=by
 rcases Z5f hk with⟨k,rfl,hk'⟩|⟨ks,rfl,hk'⟩
 . exact Z87 hk' hp hq hs 9999
 . simp only [X2t] at hs
   split at hs
   . exact Zb1 hk' hp hq hs 9998
   . cases hs
def X5u (es:List MapEntry) (i0:Nat) (r:Option Nat) (x:Option (Nat×Value)):Prop :=
 match r with
 | none=>x=none
 | some j=>∃ m,es[j]?=some m/\x=some (i0+j,m.val)
theorem Z5g {c:KC} {kp:PV} {row:List PV} {rs:List (List PV)} {r:Option Nat} (h:XT c kp (row :: rs)=some r):(X2t c kp (row.getD 0 pvu)=some true/\r=some 0) \/ (X2t c kp (row.getD 0 pvu)=some false/\∃ r',XT c kp rs=some r'/\r=r'.map (· + 1)):=by
 simp only [XT] at h
 split at h
 . rename_i h1; cases h; exact .inl ⟨h1,rfl⟩
 . rename_i h1
   split at h
   . rename_i j hj; cases h; exact .inr ⟨h1,_,hj,rfl⟩
   . rename_i hj; cases h; exact .inr ⟨h1,_,hj,rfl⟩
   . cases h
 . cases h
theorem Z7p {t:TypeId} {c:KC} (hk:X4e P t=some c) {u:Value} {kp:PV} (hp:Rep F φ u kp):∀ {es:List MapEntry} {rs:List (List PV)} {i0:Nat} {r:Option Nat},XI F φ es rs->XT c kp rs=some r->∃ x,(Instr.findAsking t u es i0).run P w=.ok x w/\X5u es i0 r x
 | [], [], i0, r, _, h => by
   obtain rfl:none=r:=by simpa [XT] using h
   exact⟨none,by simp [Instr.findAsking],rfl⟩
 | m :: es, row :: rs, i0, r, hr, h => by
   obtain⟨⟨k,v,rfl,h1,h2⟩,h3⟩:=hr;rcases Z5g h with⟨he,rfl⟩|⟨he,r',hr',rfl⟩
   . exact⟨some (i0,m.val),by simp [Instr.findAsking,Zj2 hk hp h1 he],m,rfl,rfl⟩
   . obtain ⟨x, hx, hf⟩ := Z7p hk hp (i0 := i0 + 1) h3 hr';refine⟨x,by simp [Instr.findAsking,Zj2 hk hp h1 he,hx],?_⟩;cases r' with
     | none=>exact hf
     | some j =>
       obtain⟨m',hm,rfl⟩:=hf;exact⟨m',by simpa using hm,by rw [show i0+1+j=i0+(j+1) by omega]⟩
 | [],_ :: _,_,_,hr,_=>hr.elim
 | _ :: _,[],_,_,hr,_=>hr.elim
theorem Zfm {t:TypeId} {d:TypeDesc} {k:Nat} (hu:P.underlying t=some d) (hk:XX P t=some k) {u v:Value} {p q:PV} (hp:Rep F φ u p) (hq:Rep F φ v q) {b:Bool} (he:X1z k p q=some b):Instr.sameNow d u v=some b:=by
 rcases Z3O he with⟨rfl,i,x,y,rfl,rfl,rfl⟩|⟨rfl,x,y,rfl,rfl,rfl⟩|⟨rfl,x,y,rfl,rfl,rfl⟩
 all_goals
  obtain rfl:=hp.val_inv;obtain rfl:=hq.val_inv;rcases Z2i hk with⟨h1,i,hu'⟩|⟨h1,hu'⟩|⟨h1,hu'⟩
  all_goals first
   | (cases h1; done)
   | (rw [hu] at hu'
      cases hu'
      simp [Instr.sameNow])
theorem ZcI {t:TypeId} {d:TypeDesc} {k:Nat} (hu:P.underlying t=some d) (hk:XX P t=some k) {u:Value} {kp:PV} (hp:Rep F φ u kp):∀ {es:List MapEntry} {rs:List (List PV)} {i0:Nat} {r:Option Nat},XI F φ es rs->XT (.one k) kp rs=some r->∃ x,Instr.findNow d u es i0=some x/\X5u es i0 r x
 | [], [], i0, r, _, h => by
   obtain rfl:none=r:=by simpa [XT] using h
   exact⟨none,by simp [Instr.findNow],rfl⟩
 | m :: es, row :: rs, i0, r, hr, h => by
   obtain⟨⟨kk,v,rfl,h1,h2⟩,h3⟩:=hr;rcases Z5g h with⟨he,rfl⟩|⟨he,r',hr',rfl⟩
   . exact⟨some (i0,m.val),by simp [Instr.findNow,Zfm hu hk hp h1 he],m,rfl,rfl⟩
   . obtain ⟨x, hx, hf⟩ := ZcI hu hk hp (i0 := i0 + 1) h3 hr';refine⟨x,by simp [Instr.findNow,Zfm hu hk hp h1 he,hx],?_⟩;cases r' with
     | none=>exact hf
     | some j =>
       obtain⟨m',hm,rfl⟩:=hf;exact⟨m',by simpa using hm,by rw [show i0+1+j=i0+(j+1) by omega]⟩
 | [],_ :: _,_,_,hr,_=>hr.elim
 | _ :: _,[],_,_,hr,_=>hr.elim
theorem Z4z {t:TypeId} {c:KC} (hk:X4e P t=some c) {u:Value} {kp:PV} (hp:Rep F φ u kp) {es:List MapEntry} {rs:List (List PV)} {r:Option Nat} (hr:XI F φ es rs) (h:XT c kp rs=some r):∃ x,(Instr.findKey t u es).run P w=.ok x w/\X5u es 0 r x:=by
 rcases Z5f hk with⟨k,rfl,hk'⟩|⟨ks,rfl,hk'⟩
 . have hd : ∃ d, P.underlying t = some d := by
    rcases Z2i hk' with⟨h1,i,hu⟩|⟨h1,hu⟩|⟨h1,hu⟩<;>exact⟨_,hu⟩
   obtain⟨d,hu⟩:=hd;obtain⟨x,hx,hf⟩:=ZcI hu hk' hp (i0:=0) hr h;exact⟨x,by simp [Instr.findKey,Y6 hu,hx],hf⟩
 . obtain ⟨x, hx, hf⟩ := Z7p (w := w) hk hp (i0 := 0) hr h;have hd:∃ d,P.underlying t=some d/\∀ u v,Instr.sameNow d u v=none:=by
    unfold X2C at hk'
    split at hk'
    . cases hk'
    split at hk'
    . rename_i fs hu; exact⟨_,hu,fun u v=>by unfold Instr.sameNow; split<;>rename_i h<;>first|rfl|cases h⟩
    . rename_i n el hu; exact⟨_,hu,fun u v=>by unfold Instr.sameNow; split<;>rename_i h<;>first|rfl|cases h⟩
    . cases hk'
   obtain⟨d,hu,hnow⟩:=hd;cases es with
   | nil =>
     refine⟨x,?_,hf⟩;simp only [Instr.findAsking,Y1C] at hx;cases hx;simp [Instr.findKey,Y6 hu,Instr.findNow]
   | cons m es=>exact⟨x,by simp [Instr.findKey,Y6 hu,Instr.findNow,hnow,hx],hf⟩
theorem Zhw {x y:ByteArray} (h:(x == y)=true):x=y:=Y3M (eq_of_beq (show (x.data == y.data)=true from h))
theorem ZdI (x:ByteArray):(x == x)=true:=show (x.data == x.data)=true from BEq.rfl
theorem ZcJ {k:Nat} {u v:Value} {p q:PV} (hp:Rep F φ u p) (hq:Rep F φ v q) (he:X1z k p q=some true) (n:Nat):Instr.sameBits n v u=true:=by
 rcases Z3O he with⟨rfl,i,x,y,rfl,rfl,hb⟩|⟨rfl,x,y,rfl,rfl,hb⟩|⟨rfl,x,y,rfl,rfl,hb⟩
 all_goals
  obtain rfl:=hp.val_inv;obtain rfl:=hq.val_inv
 . have : x = y := by simpa using hb.symm
   subst this;cases n<;>simp [Instr.sameBits]
 . have : x = y := by simpa using hb.symm
   subst this;cases n<;>simp [Instr.sameBits]
 . have : x = y := Zhw hb.symm;subst this;cases n<;>simp [Instr.sameBits,ZdI]
theorem ZdJ {n:Nat} {xs ys:List Value}:∀ {ks:List Nat} {l m:List PV},Xa ks l m=some true->xs.length=l.length->ys.length=m.length->(∀ i,i<l.length->Rep F φ (xs.getD i undef) (l.getD i pvu))->(∀ i,i<m.length->Rep F φ (ys.getD i undef) (m.getD i pvu))->(ys.zip xs).all (fun (x,y)=>Instr.sameBits n x y)=true:=by
 induction xs generalizing ys with
 | nil=>intros; simp
 | cons x xs ih =>
   intro ks l m he hx hy hrx hry;cases ys with
   | nil=>simp
   | cons y ys =>
     cases l with
     | nil=>simp at hx
     | cons p l =>
       cases m with
       | nil=>simp at hy
       | cons q m =>
         cases ks with
         | nil=>simp [Xa] at he
         | cons k ks =>
           simp only [Xa] at he
           split at he
           case h_2=>cases he
           rename_i b1 b2 h1 h2;have hb:b1=true/\b2=true:=by simpa using he
           obtain⟨rfl,rfl⟩:=hb;have r1:=hrx 0 (by simp);have r2:=hry 0 (by simp);rw [List.zip_cons_cons,Y4x];have e1:Instr.sameBits n y x=true:=ZcJ (by simpa using r1) (by simpa using r2) h1 n;simp only [e1,Y19];exact ih h2 (by simpa using hx) (by simpa using hy) (fun i hi=>by simpa using hrx (i+1) (by simpa using hi)) (fun i hi=>by simpa using hry (i+1) (by simpa using hi))
theorem Zfn {c:KC} {u v:Value} {p q:PV} (hp:Rep F φ u p) (hq:Rep F φ v q) (he:X2t c p q=some true):(Instr.keyThatStays v u).run P w=.ok u w:=by
 have hs:Instr.sameBits 10000 v u=true:=by
  cases c with
  | one k=>exact ZcJ hp hq he _
  | agg ks =>
    simp only [X2t] at he
    split at he
    case h_2=>cases he
    obtain⟨xs,rfl,hx,_,hrx⟩:=hp.agg_inv;obtain⟨ys,rfl,hy,_,hry⟩:=hq.agg_inv;obtain⟨l1,l2⟩:=Z1D he;have:=ZdJ (n:=9999) (xs:=xs.toList) (ys:=ys.toList) he (by simpa using hx) (by simpa using hy) (fun i hi=>by rw [toList_getD']; exact hrx i hi) (fun i hi=>by rw [toList_getD']; exact hry i hi);simp only [Instr.sameBits,Y0k,Y1s];exact⟨by omega,this⟩
 simp [Instr.keyThatStays,hs]
end
end
end Go.Proofs.YtgpjedjgmpienaaGreatDoor
