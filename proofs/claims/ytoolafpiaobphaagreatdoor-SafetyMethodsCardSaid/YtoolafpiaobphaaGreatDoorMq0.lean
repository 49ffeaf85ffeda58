/-
  Merged from the texts that this claim's theorem needs, part 1 of 8. No statement of the seat is proved here.
-/
import Derived.Laws.BytesArg
import Derived.Lib.AppendZerosOnto
import Derived.Lib.ConvBytes
import Derived.LoopIn
import Derived.OrdersIn
import Derived.ProofKit
import Derived.RangeFuncBound
import Derived.RangeFuncCalls
import Derived.RangeFuncLeaves
import Derived.RangeFuncNested
import Derived.TacticsIn
import Derived.WalkKit
set_option linter.unusedSimpArgs false
set_option linter.unusedVariables false
set_option linter.unusedSectionVars false
set_option linter.defProp false
set_option maxRecDepth 100000
set_option maxHeartbeats 16000000
namespace Go.Proofs.YtoolafpiaobphaaGreatDoor
theorem Yt : True := trivial
abbrev Y0:=@Nat.le_of_ble_eq_true
abbrev Y6:=@if_pos
abbrev Y7:=@List.getElem?_eq_some_iff
abbrev Y8:=@if_neg
abbrev Y9:=@Go.run_underlying
abbrev Ye:=@Nat.not_lt_zero
abbrev Yw:=@decide_eq_true
abbrev Yy:=@Bool.eq_false_iff
abbrev YA:=@List.take_of_length_le
abbrev YB:=@List.mem_cons_of_mem
abbrev YC:=@of_decide_eq_false
abbrev YD:=@List.mem_cons
abbrev YE:=@Nat.eq_of_testBit_eq
abbrev YF:=@Array.getElem?_eq_some_iff
abbrev YG:=@List.mem_of_getElem?
abbrev YH:=@Nat.eq_of_beq_eq_true
abbrev YI:=@Nat.testBit_two_pow
abbrev YJ:=@Nat.pow_le_pow_right
abbrev YK:=@List.all_eq_true
abbrev YL:=@List.getElem?_append_right
abbrev YM:=@List.mem_of_mem_take
abbrev YN:=@Nat.left_le_or
abbrev YO:=@List.getElem?_append_left
abbrev YP:=@List.eq_nil_of_length_eq_zero
abbrev YQ:=@Bool.eq_iff_iff
abbrev YR:=@Bool.or_eq_true
abbrev YS:=@Go.Result.andThen_ok
abbrev YT:=@List.append_assoc
abbrev YU:=@Classical.byContradiction
abbrev YV:=@List.length_drop
abbrev YW:=@List.take_add_one
abbrev YX:=@Nat.mul_le_mul_right
abbrev YY:=@Nat.lt_of_lt_of_le
abbrev YZ:=@Int.toNat_natCast
abbrev Y10:=@Bool.not_eq_true'
abbrev Y11:=@Option.map_eq_some_iff
abbrev Y12:=@List.drop_zero
abbrev Y13:=@Option.some.inj
abbrev Y14:=@List.pairwise_cons
abbrev Y15:=@Nat.zero_add
abbrev Y16:=@List.nodup_iff_pairwise_ne
abbrev Y17:=@Array.getElem?_append_left
abbrev Y18:=@List.length_set
abbrev Y19:=@List.mem_iff_getElem
abbrev Y1a:=@Go.Sem.run_bind
abbrev Y1b:=@List.foldl_cons
abbrev Y1c:=@List.map_singleton
abbrev Y1d:=@List.getElem_of_mem
abbrev Y1e:=@List.nil_append
abbrev Y1f:=@List.mem_filter
abbrev Y1g:=@Bool.true_and
abbrev Y1h:=@List.mem_flatMap
abbrev Y1i:=@Option.map_some
abbrev Y1j:=@List.mem_of_mem_drop
abbrev Y1k:=@Nat.add_zero
abbrev Y1l:=@List.getElem?_take
abbrev Y1m:=@Bool.and_true
abbrev Y1n:=@List.drop_eq_getElem_cons
abbrev Y1o:=@Nat.and_le_left
abbrev Y1p:=@List.getElem?_set
abbrev Y1q:=@List.eq_of_mem_replicate
abbrev Y1r:=@List.take_zero
abbrev Y1s:=@Option.ne_none_iff_exists'
abbrev Y1t:=@Nat.add_mul
abbrev Y1u:=@Nat.zero_lt_succ
abbrev Y1v:=@Nat.mod_eq_of_lt
abbrev Y1w:=@List.pairwise_map
abbrev Y1x:=@List.mem_range
abbrev Y1y:=@List.foldl_append
abbrev Y1z:=@Int.ofNat_lt
abbrev Y1A:=@BitVec.ofInt_natCast
abbrev Y1B:=@List.getElem?_drop
abbrev Y1C:=@List.Pairwise.imp_of_mem
abbrev Y1D:=@List.mem_map_of_mem
abbrev Y1E:=@Go.bits_xor_u64_nat
abbrev Y1F:=@Nat.mod_lt
abbrev Y1G:=@List.drop_of_length_le
abbrev Y1H:=@Go.bits_or_u64_nat
abbrev Y1I:=@Nat.zero_testBit
abbrev Y1J:=@List.map_cons
abbrev Y1K:=@List.flatMap_append
abbrev Y1L:=@List.length_filter_le
abbrev Y1M:=@Nat.zero_lt_one
abbrev Y1N:=@Nat.add_assoc
abbrev Y1O:=@Bool.false_or
abbrev Y1P:=@Nat.pow_lt_pow_right
abbrev Y1Q:=@Int.tmod_eq_emod_of_nonneg
abbrev Y1R:=@Nat.testBit_lt_two_pow
abbrev Y1S:=@beq_iff_eq
abbrev Y1T:=@List.flatMap_cons
abbrev Y1U:=@List.any_eq_false
abbrev Y1V:=@Array.getElem?_eq_getElem
abbrev Y1W:=@Nat.sub_self
abbrev Y1X:=@Nat.min_eq_left
abbrev Y1Y:=@Int.natCast_nonneg
abbrev Y1Z:=@BitVec.toNat_ofNat
abbrev Y20:=@Nat.mul_one
abbrev Y21:=@List.mem_zipIdx_iff_getElem?
abbrev Y22:=@Go.Sem.run_pure
abbrev Y23:=@Nat.pow_succ
abbrev Y24:=@Nat.mul_comm
abbrev Y25:=@if_true
abbrev Y26:=@if_false
abbrev Y27:=@decide_eq_decide
abbrev Y28:=@Go.bits_and_u64_nat
abbrev Y29:=@Option.getD_some
abbrev Y2a:=@Nat.div_eq_of_lt
abbrev Y2b:=@Nat.and_le_right
abbrev Y2c:=@decide_eq_true_iff
abbrev Y2d:=@List.getElem_range
abbrev Y2e:=@Bool.false_eq_true
abbrev Y2f:=@Array.getElem?_toList
abbrev Y2g:=@Go.run_sliceBound
abbrev Y2h:=@Go.World.cell?_of_block
abbrev Y2i:=@List.pairwise_append
abbrev Y2j:=@List.getElem?_append
abbrev Y2k:=@Go.run_sliceAt_slice
abbrev Y2l:=@Option.some.injEq
abbrev Y2m:=@Nat.testBit_two_pow_self
abbrev Y2n:=@Nat.or_lt_two_pow
abbrev Y2o:=@List.map_map
abbrev Y2p:=@beq_eq_false_iff_ne
abbrev Y2q:=@Nat.add_sub_cancel_left
abbrev Y2r:=@List.map_take
abbrev Y2s:=@List.map_congr_left
abbrev Y2t:=@Int.ofNat_inj
abbrev Y2u:=@Array.length_toList
abbrev Y2v:=@Nat.testBit_zero
abbrev Y2w:=@Nat.testBit_succ
abbrev Y2x:=@List.drop_append
abbrev Y2y:=@Nat.div_div_eq_div_mul
abbrev Y2z:=@List.drop_eq_nil_of_le
abbrev Y2A:=@Nat.add_sub_cancel
abbrev Y2B:=@List.filter_append
abbrev Y2C:=@Go.wpIn_mono
abbrev Y2D:=@and_congr_right
abbrev Y2E:=@List.length_nil
abbrev Y2F:=@List.getElem?_eq_none
abbrev Y2G:=@Bool.true_or
abbrev Y2H:=@Array.getElem?_append_right
abbrev Y2I:=@List.nodup_append
abbrev Y2J:=@List.length_range
abbrev Y2K:=@Array.size_append
abbrev Y2L:=@Ne.symm
abbrev Y2M:=@List.mem_append_left
abbrev Y2N:=@List.pairwise_iff_getElem
abbrev Y2O:=@List.mem_or_eq_of_mem_set
abbrev Y2P:=@Int.ofNat_tmod
abbrev Y2Q:=@Bool.false_and
abbrev Y2R:=@Nat.lt_succ_self
abbrev Y2S:=@List.take_append
abbrev Y2T:=@List.not_mem_nil
abbrev Y2U:=@Nat.succ_eq_add_one
abbrev Y2V:=@Nat.pow_pos
abbrev Y2W:=@Go.run_slice_any
abbrev Y2X:=@Nat.two_pow_pos
abbrev Y2Y:=@List.pairwise_singleton
abbrev Y2Z:=@List.nodup_cons
abbrev Y30:=@List.length_eq_zero_iff
abbrev Y31:=@List.any_append
abbrev Y32:=@Go.IntWalk.i64_quo
abbrev Y33:=@List.take_succ_eq_append_getElem
abbrev Y34:=@Go.run_indexAt_slice
abbrev Y35:=@List.size_toArray
abbrev Y36:=@List.Sublist.refl
abbrev Y37:=@List.length_replicate
abbrev Y38:=@Int.ofNat_le
abbrev Y39:=@Bool.or_true
abbrev Y3a:=@Array.getElem?_append
abbrev Y3b:=@List.take_append_of_le_length
abbrev Y3c:=@List.prefix_refl
abbrev Y3d:=@Go.IntKind.wrap_u64
abbrev Y3e:=@List.getElem?_set_ne
abbrev Y3f:=@Bool.or_eq_false_iff
abbrev Y3g:=@Go.Oper.semAt_eq
abbrev Y3h:=@Nat.testBit_two_pow_sub_succ
abbrev Y3i:=@List.any_cons
abbrev Y3j:=@Nat.not_lt
abbrev Y3k:=@imp_congr_right
abbrev Y3l:=@Nat.testBit_two_pow_sub_one
abbrev Y3m:=@Nat.min_le_left
abbrev Y3n:=@List.replicate_succ
abbrev Y3o:=@List.length_pos_iff
abbrev Y3p:=@List.getElem?_range
abbrev Y3q:=@Int.fdiv_eq_ediv_of_nonneg
abbrev Y3r:=@exists_congr
abbrev Y3s:=@Nat.succ_mul
abbrev Y3t:=@Nat.or_assoc
abbrev Y3u:=@Nat.lt_or_ge
abbrev Y3v:=@Go.heap_alloc_new
abbrev Y3w:=@List.take_take
abbrev Y3x:=@List.nodup_nil
abbrev Y3y:=@Bool.and_false
abbrev Y3z:=@Go.run_storeCells_at
abbrev Y3A:=@Decidable.not_not
abbrev Y3B:=@decide_eq_false_iff_not
abbrev Y3C:=@Go.Sem.runT_eq
abbrev Y3D:=@Prod.mk.injEq
abbrev Y3E:=@Prod.mk.inj
abbrev Y3F:=@Nat.le_mul_of_pos_right
abbrev Y3G:=@List.map_drop
abbrev Y3H:=@List.getElem?_replicate
abbrev Y3I:=@Go.IntWalk.u8_in
abbrev Y3J:=@Go.wpIn_region_list
abbrev Y3K:=@Go.block_lt_of_cell
abbrev Y3L:=@List.getElem_map
abbrev Y3M:=@List.flatMap_nil
abbrev Y3N:=@List.drop_length
abbrev Y3O:=@List.cons_append
abbrev Y3P:=@BitVec.toNat_and
abbrev Y3Q:=@List.getElem?_set_self
abbrev Y3R:=@List.flatMap_singleton
abbrev Y3S:=@Array.getElem?_eq_none
abbrev Y3T:=@Go.wpIn_cond_split
abbrev Y3U:=@Nat.zero_mul
abbrev Y3V:=@Nat.mul_add_div
abbrev Y3W:=@List.take_append_drop
abbrev Y3X:=@List.set_append_right
abbrev Y3Y:=@List.range_succ
abbrev Y3Z:=@List.forIn_cons
abbrev Y40:=@List.countP_le_length
abbrev Y41:=@Bool.and_eq_false_iff
abbrev Y42:=@Nat.div_lt_of_lt_mul
abbrev Y43:=@Array.toArray_toList
abbrev Y44:=@Go.setRow_heap
abbrev Y45:=@Go.run_firstCells_some
abbrev Y46:=@Nat.zero_or
abbrev Y47:=@Nat.le_succ
abbrev Y48:=@Int.toNat_of_nonneg
abbrev Y49:=@Int.one_mul
abbrev Y4a:=@Prod.ext
abbrev Y4b:=@Nat.xor_lt_two_pow
abbrev Y4c:=@List.prefix_append
abbrev Y4d:=@List.length_zipIdx
abbrev Y4e:=@Int.lt_irrefl
abbrev Y4f:=@Bool.not_true
abbrev Y4g:=@Array.foldl_toList
abbrev Y4h:=@Nat.testBit_eq_decide_div_mod_eq
abbrev Y4i:=@Nat.lt_trichotomy
abbrev Y4j:=@List.ext_getElem?
abbrev Y4k:=@Nat.le_of_eq
abbrev Y4l:=@Nat.beq_refl
abbrev Y4m:=@List.map_set
abbrev Y4n:=@Int.mul_le_mul_of_nonneg_right
abbrev Y4o:=@beq_self_eq_true
abbrev Y4p:=@Nat.min_le_right
abbrev Y4q:=@Nat.le_of_not_lt
abbrev Y4r:=@Nat.div_add_mod'
abbrev Y4s:=@List.ext_getElem
abbrev Y4t:=@Go.RowKit.Below.heap_alloc
abbrev Y4u:=@Array.toList_map
abbrev Y4v:=@or_false
abbrev Y4w:=@Array.getElem?_setIfInBounds
abbrev Y4x:=@Go.World.var?_cell
abbrev Y4y:=@Nat.testBit_xor
abbrev Y4z:=@Nat.testBit_two_pow_mul_add
abbrev Y4A:=@Nat.or_comm
abbrev Y4B:=@Nat.div_le_self
abbrev Y4C:=@List.countP_nil
abbrev Y4D:=@Int.natCast_pow
abbrev Y4E:=@Go.DataW.lit.injEq
abbrev Y4F:=@Nat.add_mul_mod_self_right
abbrev Y4G:=@List.foldl_nil
abbrev Y4H:=@List.drop_drop
abbrev Y4I:=@Go.DataW.trod_int
abbrev Y4J:=@Array.mapM_eq_mapM_toList
abbrev Y4K:=@Nat.blt_eq
abbrev Y4L:=@Array.ext'
abbrev Y4M:=@Go.World.putObj_heap_other
abbrev Y4N:=@Go.Lit.int.injEq
abbrev Y4O:=@List.filter_cons_of_pos
abbrev Y4P:=@List.filter_cons_of_neg
abbrev Y4Q:=@List.all_cons
abbrev Y4R:=@Int.ofNat.inj
abbrev Y4S:=@ByteArray.ext
abbrev Y4T:=@Bool.or_false
abbrev Y0b := @List.getD_eq_getElem?_getD
abbrev Y0c := @List.getElem?_eq_getElem
abbrev Y0d := @Array.getD_eq_getD_getElem?
abbrev Y0e := @List.length_append
abbrev Y0f := @List.length_map
abbrev Y0g := @List.mem_singleton
abbrev Y0h := @List.mem_append
abbrev Y0i := @List.mem_map
abbrev Y0j := @List.getElem_mem
abbrev Y0k := @Bool.and_eq_true
abbrev Y0l := @Nat.zero_le
abbrev Y0m := @Nat.le_refl
abbrev Y0n := @decide_eq_true_eq
abbrev Y0o := @List.length_take
abbrev Y0p := @List.append_nil
abbrev Y0q := @List.take_length
abbrev Y0r := @List.map_append
abbrev Y0s := @List.length_singleton
abbrev Y0t := @List.mem_cons_self
abbrev Y0u := @of_decide_eq_true
abbrev Y0v := @IntWalk.i64_in
abbrev Y0w := @decide_eq_false
abbrev Y0x := @IntWalk.u64_in
abbrev Y0y := @List.getElem?_map
abbrev Y0z := @Nat.testBit_and
abbrev Y00 := @Nat.testBit_or
abbrev Y01 := @List.any_eq_true
abbrev Y02 := @Nat.lt_of_le_of_lt
abbrev Y03 := @Nat.le_trans
abbrev Y04 := @List.length_cons
section
def X22:List Int := [0,1,56,2,57,49,28,3,61,58,42,50,38,29,17,4,62,47,59,36,45,43,51,22,53,39,33,30,24,18,12,5,63,55,48,27,60,41,37,16,46,35,44,21,52,32,23,11,54,26,40,15,34,20,31,10,25,14,19,9,13,8,7,6]
def XU:List Int := [1,32898,9223372036854808714,9223372039002292224,32907,2147483649,9223372039002292353,9223372036854808585,138,136,2147516425,2147483658,2147516555,9223372036854775947,9223372036854808713,9223372036854808579,9223372036854808578,9223372036854775936,32778,9223372039002259466,9223372039002292353,9223372036854808704,2147483649,9223372039002292232]
def X1Y:List Int := [0,1,62,28,27,36,44,6,55,20,3,10,43,25,39,41,45,15,21,8,18,2,61,56,14]
def X2V:List (Nat×List Value)->Nat->List Value
 | [],_ => []
 | (k,l) :: r,g=>bif Nat.beq g k then l else X2V r g
def X58:List (Nat×List Value) :=
 (0,X22.map (fun x=>.int .u8 x)) ::
 (1,XU.map (fun x=>.int .u64 x)) ::
 (2,X1Y.map (fun x=>.int .i64 x)) ::
 []
def X3u:Nat->List Value:=fun g=>X2V X58 g
theorem Za4:∀ {l:List (Nat×List Value)} {g:Nat} {v:Value},v∈X2V l g->∃ q∈l,q.1=g/\v∈q.2
 | [],g,v,h=>by simp [X2V] at h
 | (k, vs) :: r, g, v, h => by
   unfold X2V at h;cases hb:Nat.beq g k with
   | true =>
     rw [hb] at h;exact⟨(k,vs),Y0t ..,(YH hb).symm,h⟩
   | false =>
     rw [hb] at h;obtain⟨q,h1,h2⟩:=Za4 (l:=r) h;exact⟨q,YB _ h1,h2⟩
theorem ZfM:(X58.all fun q=>q.2.all Value.oneCell')=true:=by decide +kernel
theorem ZfN:∀ (g j:Nat) (v:Value),(X3u g)[j]?=some v->v.oneCell'=true:=by
 intro g j v h;obtain⟨q,h1,_,h2⟩:=Za4 (YG h);exact YK.1 (YK.1 ZfM q h1) v h2
end
section
open Go.RowKit
inductive PV where
 | val (v:Value)
 | agg (l:List PV)
 | tup (l:List PV)
 | vec (l:List (List PV)) (full:Bool)
 | cp (l:List PV)
 | ptr (id i off:Nat)
 | own (id:Nat)
 | view (id lo len:Nat)
 | sl (id i off len cap:Nat)
 | mp (id:Nat)
 | fn (f:FuncId) (caps:List PV)
instance:Inhabited PV:=⟨.val undef⟩
def pvu:PV:=.val undef
structure Bx where
 esz:Nat
 elems:List (List PV)
structure Loc where
 base:Option Addr
 esz:Nat
 len:Nat
 cap:Nat
abbrev XL:=Addr->Option Value
abbrev XO:=Nat->Option Loc
def Xj:Nat:=281474976710656
inductive Rep (F:XL) (φ:XO):Value->PV->Prop
 | val (v:Value):Rep F φ v (.val v)
 | agg (vs:Array Value) (l:List PV) (hl:vs.size=l.length) (h1:∀ i,i<l.length->(vs.getD i undef).oneCell'=true) (h:∀ i,i<l.length->Rep F φ (vs.getD i undef) (l.getD i pvu)):Rep F φ (.agg vs) (.agg l)
 | tup (vs:Array Value) (l:List PV) (hl:vs.size=l.length) (h:∀ i,i<l.length->Rep F φ (vs.getD i undef) (l.getD i pvu)):Rep F φ (.tuple vs) (.tup l)
 | vecnil (full:Bool):Rep F φ (.slice none 0 0) (.vec [] full)
 | vec (a : Addr) (cap esz : Nat) (l : List (List PV)) (full : Bool) (cs : Nat -> Nat -> Value) (hs : l ≠ [] -> a.spot = none) (hcap : l.length <= cap) (hfull : full = true -> cap = l.length)
    (hmax:l.length<=Xj) (he:∀ i,i<l.length->(l.getD i []).length=esz)
    (hF:∀ i j,i<l.length->j<esz->F ⟨a.block,a.off+(i*esz+j),none⟩=some (cs i j))
    (hR:∀ i j,i<l.length->j<esz->Rep F φ (cs i j) ((l.getD i []).getD j pvu)):Rep F φ (.slice (some a) l.length cap) (.vec l full)
 | cp (a : Addr) (l : List PV) (cs : Nat -> Value) (hs : a.spot = none) (hF : ∀ j, j < l.length -> F ⟨a.block, a.off + j, none⟩ = some (cs j))
    (hR:∀ j,j<l.length->Rep F φ (cs j) (l.getD j pvu)):Rep F φ (.pointer (some a)) (.cp l)
 | ptr (id i off : Nat) (loc : Loc) (a : Addr) (h : φ id = some loc) (hz : 0 < loc.esz) (hb : loc.base = some a) (hs : a.spot = none) :
    Rep F φ (.pointer (some ⟨a.block,a.off+(i*loc.esz+off),none⟩)) (.ptr id i off)
 | own (id:Nat) (loc:Loc) (h:φ id=some loc) (hz:0<loc.esz):Rep F φ (.slice loc.base loc.len loc.cap) (.own id)
 | view (id lo len:Nat) (loc:Loc) (b:Option Addr) (h:φ id=some loc) (hz:0<loc.esz) (hl:lo+len<=loc.cap) (hb:lo<loc.cap->b=loc.base.map (·.add (lo*loc.esz))):Rep F φ (.slice b len (loc.cap-lo)) (.view id lo len)
 | sl (id i off len cap:Nat) (loc:Loc) (a:Addr) (h:φ id=some loc) (hz:0<loc.esz) (hb:loc.base=some a) (hs:a.spot=none) (hl:len<=cap):Rep F φ (.slice (some ⟨a.block,a.off+(i*loc.esz+off),none⟩) len cap) (.sl id i off len cap)
 | mp (id:Nat) (loc:Loc) (a:Addr) (h:φ id=some loc) (hz:loc.esz=0) (hb:loc.base=some a):Rep F φ (.map (some a.block)) (.mp id)
 | fn (f:FuncId) (vs:Array Value) (l:List PV) (hl:vs.size=l.length) (h:∀ i,i<l.length->Rep F φ (vs.getD i undef) (l.getD i pvu)):Rep F φ (.func (.func f) #[] vs) (.fn f l)
theorem Rep.mono {F F':XL} {φ φ':XO} (hF:∀ a v,F a=some v->F' a=some v) (hφ:∀ i x,φ i=some x->φ' i=some x) {v:Value} {p:PV} (h:Rep F φ v p):Rep F' φ' v p:=by
 induction h with
 | val v=>exact .val v
 | agg vs l hl h1 _ ih=>exact .agg vs l hl h1 ih
 | tup vs l hl _ ih=>exact .tup vs l hl ih
 | vecnil full=>exact .vecnil full
 | vec a cap esz l full cs hs hcap hfull hmax he hC _ ih=>exact .vec a cap esz l full cs hs hcap hfull hmax he (fun i j hi hj=>hF _ _ (hC i j hi hj)) ih
 | cp a l cs hs hC _ ih=>exact .cp a l cs hs (fun j hj=>hF _ _ (hC j hj)) ih
 | ptr id i off loc a h hz hb hs=>exact .ptr id i off loc a (hφ _ _ h) hz hb hs
 | own id loc h hz=>exact .own id loc (hφ _ _ h) hz
 | view id lo len loc b h hz hl hb=>exact .view id lo len loc b (hφ _ _ h) hz hl hb
 | sl id i off len cap loc a h hz hb hs hl=>exact .sl id i off len cap loc a (hφ _ _ h) hz hb hs hl
 | mp id loc a h hz hb=>exact .mp id loc a (hφ _ _ h) hz hb
 | fn f vs l hl _ ih=>exact .fn f vs l hl ih
mutual
def PV.inn (D:Nat->Prop):PV->Prop
 | .val _=>True
 | .agg l=>X1S D l
 | .tup l=>X1S D l
 | .vec l _=>Xt D l
 | .cp l=>X1S D l
 | .ptr id _ _=>D id
 | .own id=>D id
 | .view id _ _=>D id
 | .sl id _ _ _ _=>D id
 | .mp id=>D id
 | .fn _ l=>X1S D l
def X1S (D:Nat->Prop):List PV->Prop
 | []=>True
 | p :: l=>p.inn D/\X1S D l
def Xt (D:Nat->Prop):List (List PV)->Prop
 | []=>True
 | p :: l=>X1S D p/\Xt D l
end
abbrev PV.pure (p:PV):Prop:=p.inn (fun _=>False)
abbrev X5 (l:List PV):Prop:=X1S (fun _=>False) l
abbrev X1 (l:List (List PV)):Prop:=Xt (fun _=>False) l
theorem Z1n (D:Nat->Prop) (l:List PV):X1S D l↔∀ p∈l,p.inn D:=by
 induction l with
 | nil=>simp [X1S]
 | cons a l ih=>simp [X1S,ih]
theorem Z2j (D:Nat->Prop) (l:List (List PV)):Xt D l↔∀ p∈l,X1S D p:=by
 induction l with
 | nil=>simp [Xt]
 | cons a l ih=>simp [Xt,ih]
theorem ZM {D:Nat->Prop} {l:List PV} (h:X1S D l) (i:Nat):(l.getD i pvu).inn D:=by
 rw [Y0b];cases hi:l[i]? with
 | none=>simp [pvu,PV.inn]
 | some p=>exact (Z1n D l).1 h p (YG hi)
theorem Z5U {D:Nat->Prop} {l:List (List PV)} (h:Xt D l) (i:Nat):X1S D (l.getD i []):=by
 rw [Y0b];cases hi:l[i]? with
 | none=>simp [X1S]
 | some p=>exact (Z2j D l).1 h p (YG hi)
theorem Rep.inn {F:XL} {φ φ':XO} {D:Nat->Prop} (hφ:∀ i x,D i->φ i=some x->φ' i=some x) {v:Value} {p:PV} (h:Rep F φ v p):p.inn D->Rep F φ' v p:=by
 induction h with
 | val v=>exact fun _=>.val v
 | agg vs l hl h1 _ ih=>exact fun hp=>.agg vs l hl h1 fun i hi=>ih i hi (ZM (by simpa [PV.inn] using hp) i)
 | tup vs l hl _ ih=>exact fun hp=>.tup vs l hl fun i hi=>ih i hi (ZM (by simpa [PV.inn] using hp) i)
 | vecnil full=>exact fun _=>.vecnil full
 | vec a cap esz l full cs hs hcap hfull hmax he hC _ ih =>
   exact fun hp=>.vec a cap esz l full cs hs hcap hfull hmax he hC fun i j hi hj=>ih i j hi hj (ZM (Z5U (by simpa [PV.inn] using hp) i) j)
 | cp a l cs hs hC _ ih=>exact fun hp=>.cp a l cs hs hC fun j hj=>ih j hj (ZM (by simpa [PV.inn] using hp) j)
 | ptr id i off loc a h hz hb hs=>exact fun hp=>.ptr id i off loc a (hφ _ _ (by simpa [PV.inn] using hp) h) hz hb hs
 | own id loc h hz=>exact fun hp=>.own id loc (hφ _ _ (by simpa [PV.inn] using hp) h) hz
 | view id lo len loc b h hz hl hb=>exact fun hp=>.view id lo len loc b (hφ _ _ (by simpa [PV.inn] using hp) h) hz hl hb
 | sl id i off len cap loc a h hz hb hs hl=>exact fun hp=>.sl id i off len cap loc a (hφ _ _ (by simpa [PV.inn] using hp) h) hz hb hs hl
 | mp id loc a h hz hb=>exact fun hp=>.mp id loc a (hφ _ _ (by simpa [PV.inn] using hp) h) hz hb
 | fn f vs l hl _ ih=>exact fun hp=>.fn f vs l hl fun i hi=>ih i hi (ZM (by simpa [PV.inn] using hp) i)
theorem Rep.pure {F:XL} {φ φ':XO} {v:Value} {p:PV} (h:Rep F φ v p) (hp:p.pure):Rep F φ' v p:=h.inn (fun _ _ hf=>hf.elim) hp
mutual
theorem PV.inn_mono {D D':Nat->Prop} (hD:∀ i,D i->D' i):∀ (p:PV),p.inn D->p.inn D'
 | .val _,_=>by simp [PV.inn]
 | .agg l,h=>by simp only [PV.inn] at h ⊢; exact ZG hD l h
 | .tup l,h=>by simp only [PV.inn] at h ⊢; exact ZG hD l h
 | .vec l _,h=>by simp only [PV.inn] at h ⊢; exact Zd hD l h
 | .cp l,h=>by simp only [PV.inn] at h ⊢; exact ZG hD l h
 | .ptr id _ _,h=>by simp only [PV.inn] at h ⊢; exact hD _ h
 | .own id,h=>by simp only [PV.inn] at h ⊢; exact hD _ h
 | .view id _ _,h=>by simp only [PV.inn] at h ⊢; exact hD _ h
 | .sl id _ _ _ _,h=>by simp only [PV.inn] at h ⊢; exact hD _ h
 | .mp id,h=>by simp only [PV.inn] at h ⊢; exact hD _ h
 | .fn _ l,h=>by simp only [PV.inn] at h ⊢; exact ZG hD l h
theorem ZG {D D':Nat->Prop} (hD:∀ i,D i->D' i):∀ (l:List PV),X1S D l->X1S D' l
 | [],_=>by simp [X1S]
 | p :: l,h=>by simp only [X1S] at h ⊢; exact⟨PV.inn_mono hD p h.1,ZG hD l h.2⟩
theorem Zd {D D':Nat->Prop} (hD:∀ i,D i->D' i):∀ (l:List (List PV)),Xt D l->Xt D' l
 | [],_=>by simp [Xt]
 | p :: l,h=>by simp only [Xt] at h ⊢; exact⟨ZG hD p h.1,Zd hD l h.2⟩
end
theorem PV.pure.inn {p:PV} (h:p.pure) (D:Nat->Prop):p.inn D:=PV.inn_mono (fun _ h=>h.elim) p h
mutual
def PV.low:PV->PV
 | .val v=>.val v
 | .agg l=>.agg (X2C l)
 | .tup l=>.tup (X2C l)
 | .vec l _=>.vec (XE l) false
 | .cp l=>.cp (X2C l)
 | .ptr id i off=>.ptr id i off
 | .own id=>.own id
 | .view id lo len=>.view id lo len
 | .sl id i off len cap=>.sl id i off len cap
 | .mp id=>.mp id
 | .fn f l=>.fn f (X2C l)
def X2C:List PV->List PV
 | [] => []
 | p :: l=>p.low :: X2C l
def XE:List (List PV)->List (List PV)
 | [] => []
 | p :: l=>X2C p :: XE l
end
theorem ZfO (l:List PV):X2C l=l.map PV.low:=by
 induction l with
 | nil=>rfl
 | cons a l ih=>simp [X2C,ih]
theorem Z8Z (l:List (List PV)):XE l=l.map X2C:=by
 induction l with
 | nil=>rfl
 | cons a l ih=>simp [XE,ih]
theorem Z3g (l:List PV) (i:Nat):(X2C l).getD i pvu=(l.getD i pvu).low:=by
 rw [ZfO];simp only [Y0b,Y0y];cases l[i]?<;>simp [pvu,PV.low]
theorem Z89 (l:List (List PV)) (i:Nat):(XE l).getD i []=X2C (l.getD i []):=by
 rw [Z8Z];simp only [Y0b,Y0y];cases l[i]?<;>simp [X2C]
theorem Z16 (l:List PV):(X2C l).length=l.length:=by simp [ZfO]
theorem Z1T (l:List (List PV)):(XE l).length=l.length:=by simp [Z8Z]
theorem Rep.low {F:XL} {φ:XO} {v:Value} {p:PV} (h:Rep F φ v p):Rep F φ v p.low:=by
 induction h with
 | val v=>simp only [PV.low]; exact .val v
 | agg vs l hl h1 _ ih=>simp only [PV.low]; exact .agg vs _ (by rw [Z16]; exact hl) (by rw [Z16]; exact h1) fun i hi=>by rw [Z3g]; exact ih i (by rwa [Z16] at hi)
 | tup vs l hl _ ih=>simp only [PV.low]; exact .tup vs _ (by rw [Z16]; exact hl) fun i hi=>by rw [Z3g]; exact ih i (by rwa [Z16] at hi)
 | vecnil full=>simp only [PV.low,XE]; exact .vecnil false
 | vec a cap esz l full cs hs hcap hfull hmax he hC _ ih =>
   simp only [PV.low];have:=Rep.vec (F:=F) (φ:=φ) a cap esz (XE l) false cs (fun h=>hs (by rintro rfl; exact h (by simp [XE]))) (by rw [Z1T]; exact hcap) (by simp) (by rw [Z1T]; exact hmax)
    (fun i hi=>by rw [Z89,Z16]; exact he i (by rwa [Z1T] at hi)) (fun i j hi hj=>hC i j (by rwa [Z1T] at hi) hj)
    (fun i j hi hj=>by rw [Z89,Z3g]; exact ih i j (by rwa [Z1T] at hi) hj)
   rwa [Z1T] at this
 | cp a l cs hs hC _ ih =>
   simp only [PV.low];exact .cp a _ cs hs (fun j hj=>hC j (by rwa [Z16] at hj)) (fun j hj=>by rw [Z3g]; exact ih j (by rwa [Z16] at hj))
 | ptr id i off loc a h hz hb hs=>simp only [PV.low]; exact .ptr id i off loc a h hz hb hs
 | own id loc h hz=>simp only [PV.low]; exact .own id loc h hz
 | view id lo len loc b h hz hl hb=>simp only [PV.low]; exact .view id lo len loc b h hz hl hb
 | sl id i off len cap loc a h hz hb hs hl=>simp only [PV.low]; exact .sl id i off len cap loc a h hz hb hs hl
 | mp id loc a h hz hb=>simp only [PV.low]; exact .mp id loc a h hz hb
 | fn f vs l hl _ ih=>simp only [PV.low]; exact .fn f vs _ (by rw [Z16]; exact hl) fun i hi=>by rw [Z3g]; exact ih i (by rwa [Z16] at hi)
abbrev Env:=Nat->Option PV
abbrev X2:=Nat->Option Bx
def Env.upd (e:Env) (k:Nat) (p:PV):Env:=fun j=>bif Nat.beq j k then some p else e j
def X2.upd (h:X2) (k:Nat) (b:Bx):X2:=fun j=>bif Nat.beq j k then some b else h j
theorem Env.upd_same (e:Env) (k:Nat) (p:PV):e.upd k p k=some p:=by simp [Env.upd]
theorem Env.upd_ne (e:Env) {k j:Nat} (p:PV) (h:j≠k):e.upd k p j=e j:=by
 have:Nat.beq j k=false:=Yy.2 fun hb=>h (YH hb);simp [Env.upd,this]
theorem X2.upd_same (e:X2) (k:Nat) (p:Bx):e.upd k p k=some p:=by simp [X2.upd]
theorem X2.upd_ne (e:X2) {k j:Nat} (p:Bx) (h:j≠k):e.upd k p j=e j:=by
 have:Nat.beq j k=false:=Yy.2 fun hb=>h (YH hb);simp [X2.upd,this]
structure X4q (F:XL) (φ:XO) (w:World) (loc:Loc) (b:Bx):Prop where
 esz:b.esz=loc.esz
 pos:0<loc.esz
 len:b.elems.length=loc.len
 cap:loc.len<=loc.cap
 max:loc.len<=Xj
 el:∀ c∈b.elems,c.length=loc.esz
 room:loc.cap≠0->∃ a,loc.base=some a/\a.spot=none/\∃ cells t,w.heap[a.block]?=some (.cells cells t (0,0))/\a.off+loc.cap*loc.esz<=cells.size /\
  ∀ i j,i<loc.len->j<loc.esz->(cells.getD (a.off+(i*loc.esz+j)) undef).oneCell'=true/\Rep F φ (cells.getD (a.off+(i*loc.esz+j)) undef) ((b.elems.getD i []).getD j pvu)
def XW (F:XL) (φ:XO):List MapEntry->List (List PV)->Prop
 | [],[]=>True
 | m :: es,r :: rs=>(∃ k v,r = [k,v]/\Rep F φ m.key k/\Rep F φ m.val v)/\XW F φ es rs
 | _,_=>False
structure X3x (F:XL) (φ:XO) (w:World) (loc:Loc) (b:Bx):Prop where
 esz:b.esz=0
 pos:loc.esz=0
 cap:loc.cap≠0
 room:∃ a,loc.base=some a/\∃ (es:Array MapEntry) (t:Nat),w.heap[a.block]?=some (.map es t)/\XW F φ es.toList b.elems
def X1Q (F:XL) (φ:XO) (w:World) (loc:Loc) (b:Bx):Prop:=X4q F φ w loc b \/ X3x F φ w loc b
theorem X1Q.cells {F:XL} {φ:XO} {w:World} {loc:Loc} {b:Bx} (h:X1Q F φ w loc b) (hz:0<loc.esz):X4q F φ w loc b:=by
 rcases h with h|h
 . exact h
 . have:=h.pos; omega
theorem X1Q.cellsB {F:XL} {φ:XO} {w:World} {loc:Loc} {b:Bx} (h:X1Q F φ w loc b) (hz:0<b.esz):X4q F φ w loc b:=by
 rcases h with h|h
 . exact h
 . have:=h.esz; omega
theorem X1Q.rows {F:XL} {φ:XO} {w:World} {loc:Loc} {b:Bx} (h:X1Q F φ w loc b) (hz:loc.esz=0):X3x F φ w loc b:=by
 rcases h with h|h
 . have:=h.pos; omega
 . exact h
def Loc.has (loc:Loc) (k:Nat):Prop:=loc.cap≠0/\∃ a,loc.base=some a/\a.block=k
structure Ctx where
 w0:World
 G:Nat->Prop
 F0:XL
 nt:Nat
 φ0:XO:=fun _=>none
structure X2b (B:Nat) (a:Act) (w:World):Prop where
 nd:a.defers.Nodup
 all:∀ d∈a.defers,∃ D,d={ target:=.collected D,args := #[] }/\B<=D/\w.heap[D]?=some (.deferred (some []))
theorem X2b.mono {B:Nat} {a:Act} {w w':World} (h:X2b B a w) (hh:∀ k:Nat,w.heap[k]?=some (Obj.deferred (some []))->w'.heap[k]?=some (Obj.deferred (some []))):X2b B a w' :=
 ⟨h.nd,fun d hd=>let ⟨D,h1,h2,h3⟩:=h.all d hd; ⟨D,h1,h2,hh D h3⟩⟩
theorem X2b.nil {B:Nat} {a:Act} {w:World} (h:a.defers = []):X2b B a w:=⟨by rw [h]; exact Y3x,fun d hd=>by rw [h] at hd; cases hd⟩
structure St' (C:Ctx) (Fr:Nat->Prop) (e:Env) (h:X2) (F:XL) (φ:XO) (a:Act) (w:World):Prop where
 nt:a.tmps.size=C.nt
 marks:X2b C.w0.heap.size a w
 glob:∀ (g j:Nat) (v:Value),(X3u g)[j]?=some v->F ⟨g,j,none⟩=some v
 free:∀ id,Fr id->φ id=none
 env:∀ k p,e k=some p->k<C.nt/\Rep F φ (a.tmps.getD k undef) p
 froz:∀ x v,F x=some v->x.spot=none/\v.oneCell'=true/\w.cell? x=some v
 ext:∀ x v,C.F0 x=some v->F x=some v
 loc0:∀ i x,C.φ0 i=some x->φ i=some x
 old:∀ x,x.block<C.w0.heap.size->¬ C.G x.block->F x=C.F0 x
 os:w.os=C.w0.os
 tape:w.tape=C.w0.tape
 output:w.output=C.w0.output
 size:C.w0.heap.size<=w.heap.size
 kept:∀ k,k<C.w0.heap.size->¬ C.G k->w.heap[k]?=C.w0.heap[k]?
 live:∀ id b,h id=some b->∃ loc,φ id=some loc/\X1Q F φ w loc b/\(∀ k,loc.has k->(C.w0.heap.size<=k \/ C.G k)/\∀ x:Addr,x.block=k->F x=none)
 sep:∀ i j bi bj li lj k,h i=some bi->h j=some bj->φ i=some li->φ j=some lj->li.has k->lj.has k->i=j
def St (C:Ctx) (Fr:Nat->Prop) (e:Env) (h:X2) (a:Act) (w:World):Prop:=∃ F φ,St' C Fr e h F φ a w
inductive BC where
 | num|bool|ptr|cells (ks:List Nat)
 deriving DecidableEq,Repr
inductive KC where
 | one (k:Nat)|agg (ks:List Nat)
 deriving DecidableEq,Repr
inductive AOp where
 | mov (x:Operand)
 | pick (c a b:Operand)
 | bin (op:BinOp) (c:BC) (x y:Operand)
 | una (op:UnOp) (x:Operand)
 | conv (k:IntKind) (x:Operand)
 | b2s (x:Operand)
 | s2b (x:Operand)
 | alloc (zero:List Value)
 | box (x:Operand)
 | build (zero:List Value) (parts:List (Nat×Nat×Operand))
 | bslice (zero:List Value) (len:Nat) (parts:List (Nat×Operand))
 | load (agg:Bool) (size:Nat) (a:Operand)
 | store (size:Nat) (a v:Operand)
 | nilck (x:Operand)
 | faddr (off:Nat) (x:Operand)
 | field (agg:Bool) (size off:Nat) (x:Operand)
 | iaddr (esz:Nat) (x i:Operand)
 | iaddrA (n esz:Nat) (x i:Operand)
 | indexA (agg:Bool) (n esz:Nat) (x i:Operand)
 | indexS (x i:Operand)
 | mslice (zero:List Value) (bytes:Nat) (len cap:Operand)
 | slc (esz:Nat) (x:Operand) (lo hi mx:Option Operand)
 | len (x:Operand)
 | lenS (x:Operand)
 | lenA (n:Nat)
 | append (zero:List Value) (bytes:Nat) (s x:Operand)
 | copy (esz:Nat) (d s:Operand)
 | clear (zero:List Value) (x:Operand)
 | isnil (neg:Bool) (x:Operand)
 | isnilM (neg:Bool) (x:Operand)
 | slcS (x:Operand) (lo hi:Option Operand)
 | slcA (n:Nat) (x:Operand) (lo hi:Option Operand)
 | mkmap
 | lookup (c:KC) (agg:Bool) (zero:List Value) (ok:Bool) (m k:Operand)
 | mapset (c:KC) (m k v:Operand)
 | lenM (x:Operand)
 | mx (x y:Operand)
 | mn (x y:Operand)
 | cap (x:Operand)
 | appz (zero:List Value) (bytes:Nat) (s n:Operand)
 | mkfn (f:FuncId) (caps:List Operand)
 | extract (x:Operand) (i:Nat)
 | call (f:Operand) (args:List Operand)
structure Xs where
 dst:Option Nat
 op:AOp
 guard:Option (Nat×Bool)
def X70:TypeDesc->Bool
 | .struct _=>true
 | .array _ _=>true
 | _=>false
def X1l (P:Program) (t:TypeId):Option (Bool×Nat) :=
 match P.underlying t,P.info? t with
 | some d, some i => match X70 d with
   | true=>some (true,i.size)
   | false=>if i.size=1 then some (false,1) else none
 | _,_=>none
def XX (P:Program) (t:TypeId):Option (List Value) :=
 match P.info? t with
 | some i => match i.zero with
   | some z=>if z.cells.toList.all (·.oneCell')&&z.cells.size == i.size&&0<i.size then some z.cells.toList else none
   | none=>none
 | none=>none
def X2p (P:Program) (fs:Array Field):List (Nat×Operand)->Option (List (Nat×Nat×Operand))
 | []=>some []
 | (i, x) :: r => match fs[i]? with
   | some f => match P.info? f.type, X2p P fs r with
     | some inf,some l=>some ((f.offset,inf.size,x) :: l)
     | _,_=>none
   | none=>none
def X1a (P:Program) (t:TypeId):Option Nat:=match P.underlying t with|some (.int _)=>some 0|some .bool=>some 1|some .string=>some 2|_=>none
def X2Q (P:Program):List Field->Nat->Option (List Nat)
 | [],_=>some []
 | f :: r, i => match X1a P f.type, X2Q P r (i + 1) with
   | some k,some l => if f.name != "_" && decide (X1l P f.type = some (false,1)) && f.offset == i then some (k :: l) else none
   | _,_=>none
def X2i (P:Program) (t:TypeId):Option (List Nat) :=
 if P.eqGuardType P.depth t then none else
 match P.underlying t with
 | some (.struct fs)=>if P.stoodInHeld t then none else X2Q P fs.toList 0
 | some (.array n e) => match X1a P e with
   | some k=>if decide (X1l P e=some (false,1)) then some (List.replicate n k) else none
   | none=>none
 | _=>none
def X4w (P:Program) (t:TypeId):Option KC :=
 match X1a P t with
 | some k=>some (.one k)
 | none=>(X2i P t).map .agg
def X3b (P:Program) (t:TypeId):Option (Bool×List Value) :=
 match P.info? t with
 | some i => match i.zero with
   | some (.agg cs)=>if cs.toList.all (·.oneCell') then some (true,cs.toList) else none
   | some v=>if v.oneCell' then some (false,[v]) else none
   | none=>none
 | none=>none
def X7u:Operand->Bool
 | .const (.slice none 0 0)=>true
 | _=>false
def cOp (P:Program) (o:Oper):Option AOp :=
 match o.op with
 | .move x=>some (.mov x)
 | .assign x=>some (.mov x)
 | .pick c a b=>some (.pick c a b)
 | .binOp op t x y _ => match P.underlying t with
   | some (.int _)=>some (.bin op .num x y)
   | some .string=>some (.bin op .num x y)
   | some .bool=>some (.bin op .bool x y)
   | some (.pointer _)=>some (.bin op .ptr x y)
   | some (.struct _) => match X2i P t with
     | some ks => match op with
       | .eql=>some (.bin .eql (.cells ks) x y)
       | .neq=>some (.bin .neq (.cells ks) x y)
       | _=>none
     | none=>none
   | some (.array _ _) => match X2i P t with
     | some ks => match op with
       | .eql=>some (.bin .eql (.cells ks) x y)
       | .neq=>some (.bin .neq (.cells ks) x y)
       | _=>none
     | none=>none
   | some (.slice _) => if X7u y then (match op with
      | .eql=>some (.isnil false x)
      | .neq=>some (.isnil true x)
      | _=>none) else none
   | some (.map _ _)=>none
   | _=>none
 | .unOp op _ x=>some (.una op x)
 | .convert src dst x => match P.underlying src, P.underlying dst with
   | some (.int _),some (.int k)=>some (.conv k x)
   | some (.slice el), some .string => match P.underlying el with
     | some (.int .u8)=>some (.b2s x)
     | _=>none
   | some .string, some (.slice el) => match P.underlying el with
     | some (.int .u8)=>some (.s2b x)
     | _=>none
   | _,_=>none
 | .alloc t=>(XX P t).map .alloc
 | .box t x=>some (.box x)
 | .build t parts => match XX P t, P.underlying t with
   | some z,some (.struct fs)=>if fs.toList.all (fun f=>(P.info? f.type).isSome) then (X2p P fs parts.toList).map (.build z) else none
   | some z, some (.array _ e) => match P.info? e with
     | some i=>some (.build z (parts.toList.map fun (k,x)=>(k*i.size,i.size,x)))
     | none=>none
   | _,_=>none
 | .buildSlice t len parts => match P.underlying t with
   | some (.slice e) => match XX P e with
     | some z=>if len*z.length<=16777216 then some (.bslice z len parts.toList) else none
     | none=>none
   | _=>none
 | .load t a=>(X1l P t).map fun l=>.load l.1 l.2 a
 | .store t a v=>(X1l P t).map fun l=>.store l.2 a v
 | .nilCheck x=>some (.nilck x)
 | .fieldAddr t x i => match P.underlying t with
   | some (.struct fs) => match fs[i]? with
     | some f => match P.info? f.type with
       | some inf=>if 0<inf.size then some (.faddr f.offset x) else none
       | none=>none
     | none=>none
   | _=>none
 | .field t x i=>none
 | .indexAddr t x i => match P.underlying t with
   | some (.slice e)=>(P.info? e).map fun inf=>.iaddr inf.size x i
   | some (.array n e)=>(P.info? e).map fun inf=>.iaddrA n inf.size x i
   | _=>none
 | .index t x i => match P.underlying t with
   | some (.array n e)=>(X1l P e).map fun l=>.indexA l.1 n l.2 x i
   | some .string=>some (.indexS x i)
   | _=>none
 | .makeSlice t l c => match P.underlying t with
   | some (.slice e) => match XX P e, P.info? e with
     | some z,some i=>if 0<i.bytes then some (.mslice z i.bytes l c) else none
     | _,_=>none
   | _=>none
 | .slice t x lo hi mx => match P.underlying t with
   | some (.slice e)=>(P.info? e).map fun inf=>.slc inf.size x lo hi mx
   | some .string=>none
   | some (.array n el) => match P.info? el with
     | some inf=>if mx.isNone=true/\inf.size=1/\n<=1048576 then some (.slcA n x lo hi) else none
     | none=>none
   | _=>none
 | .makeMap t none => match P.underlying t with
   | some (.map _ _)=>some .mkmap
   | _=>none
 | .lookup t x i ok => match P.underlying t with
   | some (.map k el) => match X4w P k, X3b P el with
     | some c,some z=>some (.lookup c z.1 z.2 ok x i)
     | _,_=>none
   | _=>none
 | .mapUpdate t x i v => match P.underlying t with
   | some (.map k _) => match X4w P k with
     | some c=>some (.mapset c x i v)
     | none=>none
   | _=>none
 | .makeFunc (.func f) first caps=>if first.isEmpty then some (.mkfn f caps.toList) else none
 | .extract x i=>some (.extract x i)
 | .call c => match c.callee with
   | .value f=>some (.call f c.args.toList)
   | .builtin .len => match c.argTypes.toList, c.args.toList with
     | [t], [x] => match P.underlying t with
       | some (.slice _)=>some (.len x)
       | some .string=>none
       | some (.map _ _)=>none
       | some (.array n _)=>none
       | some (.pointer t')=>none
       | _=>none
     | _,_=>none
   | .builtin .append => match c.argTypes.toList, c.args.toList with
     | [t, u], [s, x] => match P.underlying t, P.underlying u with
       | some (.slice e), some (.slice _) => match XX P e, P.info? e with
         | some z,some i=>if 0<i.bytes then some (.append z i.bytes s x) else none
         | _,_=>none
       | some (.slice e),some (.int _)=>none
       | _,_=>none
     | _,_=>none
   | .builtin .max => match c.args.toList with
     | [x,y]=>some (.mx x y)
     | _=>none
   | .builtin .copy => match c.argTypes.toList, c.args.toList with
     | [t, u], [d, s] => match P.underlying t, P.underlying u with
       | some (.slice e), some (.slice _) => match P.info? e with
         | some i=>some (.copy i.size d s)
         | none=>none
       | _,_=>none
     | _,_=>none
   | .builtin .clear => match c.argTypes.toList, c.args.toList with
     | [t], [x] => match P.underlying t with
       | some (.slice e)=>(XX P e).map fun z=>.clear z x
       | _=>none
     | _,_=>none
   | .builtin .min => match c.args.toList with
     | [x,y]=>some (.mn x y)
     | _=>none
   | .builtin .cap=>none
   | _=>none
 | .insert t x i v => match P.underlying t with
   | some (.map k _) => match X4w P k with
     | some c=>some (.mapset c x i v)
     | none=>none
   | _=>none
 | _=>none
def X3F (ops:Array Oper):Option (Nat×Bool)->Option (Option (Nat×Bool))
 | none=>some none
 | some (j, b) => match ops[j]? with
   | some o => match o.dst with
     | some d=>some (some (d,b))
     | none=>none
   | none=>none
def X2O (nt:Nat):Option Nat->Bool
 | none=>true
 | some d=>d<nt
def X2z (P:Program) (nt:Nat) (ops:Array Oper) (o:Oper):Option Xs :=
 match cOp P o,X3F ops o.guard with
 | some a,some g=>if X2O nt o.dst then some ⟨o.dst,a,g⟩ else none
 | _,_=>none
def XK (P:Program) (nt:Nat) (ops:Array Oper):List Oper->Option (List Xs)
 | []=>some []
 | o :: r => match X2z P nt ops o, XK P nt ops r with
   | some a,some l=>some (a :: l)
   | _,_=>none
def X3Z:Value->PV
 | .slice none 0 0=>.vec [] true
 | v=>.val v
def zpv (l:List Value):List PV:=l.map X3Z
def ev (e:Env):Operand->Option PV
 | .tmp t=>e t
 | .const v=>some (X3Z v)
 | .func f=>some (.fn f [])
 | .global g => match X3u g with
   | []=>some (.val (.pointer (some ⟨g,0,none⟩)))
   | v :: l=>some (.cp (zpv (v :: l)))
def evs (e:Env):List Operand->Option (List PV)
 | []=>some []
 | x :: r => match ev e x, evs e r with
   | some p,some l=>some (p :: l)
   | _,_=>none
def PV.cells:PV->List PV
 | .agg l=>l
 | p => [p]
def PV.one:PV->Bool
 | .val v=>v.oneCell'
 | .agg _ | .tup _=>false
 | _=>true
def PV.flat:PV->Bool
 | .agg _=>true
 | p=>p.one
def X53 (op:BinOp):Value->Value->Option Value
 | .int k a, .int k' b => match op with
   | .shl=>if 0<=b then some (.int k (k.wrap (a*2 ^ (min b.toNat k.bits)))) else none
   | .shr=>if 0<=b then some (.int k (a.fdiv (2 ^ (min b.toNat k.bits)))) else none
   | .add=>if k=k' then some (.int k (k.wrap (a+b))) else none
   | .sub=>if k=k' then some (.int k (k.wrap (a-b))) else none
   | .mul=>if k=k' then some (.int k (k.wrap (a*b))) else none
   | .quo=>if k=k' then (if b=0 then none else some (.int k (k.wrap (a.tdiv b)))) else none
   | .rem=>if k=k' then (if b=0 then none else some (.int k (a.tmod b))) else none
   | .and=>if k=k' then some (.int k (bits .and k a b)) else none
   | .or=>if k=k' then some (.int k (bits .or k a b)) else none
   | .xor=>if k=k' then some (.int k (bits .xor k a b)) else none
   | .andNot=>if k=k' then some (.int k (bits .andNot k a b)) else none
   | .eql=>if k=k' then some (.bool (a == b)) else none
   | .neq=>if k=k' then some (.bool (a != b)) else none
   | .lss=>if k=k' then some (.bool (decide (a<b))) else none
   | .leq=>if k=k' then some (.bool (decide (a<=b))) else none
   | .gtr=>if k=k' then some (.bool (decide (a>b))) else none
   | .geq=>if k=k' then some (.bool (decide (a≥b))) else none
 | .string a, .string b => match op with
   | .eql=>some (.bool (a.toList == b.toList))
   | .neq=>some (.bool (!(a.toList == b.toList)))
   | .lss=>some (.bool (Op.bytesLess a.toList b.toList))
   | .leq=>some (.bool (Op.bytesLess a.toList b.toList||a.toList == b.toList))
   | .gtr=>some (.bool (!(Op.bytesLess a.toList b.toList||a.toList == b.toList)))
   | .geq=>some (.bool (!(Op.bytesLess a.toList b.toList)))
   | .add=>if a.size+b.size<=9223372036854775807 then some (.string (a++b)) else none
   | _=>none
 | _,_=>none
def X1W (k:Nat):PV->PV->Option Bool
 | .val (.int i a),.val (.int j b)=>if k=0/\i=j then some (a == b) else none
 | .val (.bool a),.val (.bool b)=>if k=1 then some (a == b) else none
 | .val (.string a),.val (.string b)=>if k=2 then some (a == b) else none
 | _,_=>none
def Xk:List Nat->List PV->List PV->Option Bool
 | [],[],[]=>some true
 | k :: ks, a :: l, b :: m => match X1W k a b, Xk ks l m with
   | some x,some y=>some (x&&y)
   | _,_=>none
 | _,_,_=>none
def X3c (c:KC) (p q:PV):Option Bool :=
 match c with
 | .agg ks => match p, q with
   | .agg l,.agg m=>Xk ks l m
   | _,_=>none
 | .one k=>X1W k p q
def X1g (c:KC) (k:PV):List (List PV)->Option (Option Nat)
 | []=>some none
 | row :: r => match X3c c k (row.getD 0 pvu) with
   | some true=>some (some 0)
   | some false => match X1g c k r with
     | some (some j)=>some (some (j+1))
     | some none=>some none
     | none=>none
   | none=>none
def X6N (agg:Bool) (z:List Value):PV:=match agg with|true=>.agg (zpv z)|false=>(zpv z).getD 0 pvu
def PV.isNil:PV->Option Bool
 | .val (.pointer none)=>some true
 | .cp _=>some false
 | .ptr _ _ _=>some false
 | _=>none
def X4l (op:BinOp) (c:BC) (p q:PV):Option PV :=
 match c with
 | .num => match p, q with
   | .val a,.val b=>(X53 op a b).map .val
   | _,_=>none
 | .bool => match p, q with
   | .val (.bool a), .val (.bool b) => match op with
     | .eql=>some (.val (.bool (a == b)))
     | .neq=>some (.val (.bool (!(a == b))))
     | _=>none
   | _,_=>none
 | .ptr => match op with
   | .eql => match p.isNil, q with
     | some b,.val (.pointer none)=>some (.val (.bool b))
     | _,_=>none
   | .neq => match p.isNil, q with
     | some b,.val (.pointer none)=>some (.val (.bool (!b)))
     | _,_=>none
   | _=>none
 | .cells ks => match p, q with
   | .agg l, .agg m => match Xk ks l m with
     | some b => (match op with
       | .eql=>some (.val (.bool b))
       | .neq=>some (.val (.bool (!b)))
       | _=>none)
     | none=>none
   | _,_=>none
def X6T (op:UnOp):PV->Option PV
 | .val (.int k n) => match op with
   | .neg=>some (.val (.int k (k.wrap (0-n))))
   | .xor=>some (.val (.int k (bits .xor k (if k.signed then -1 else k.max) n)))
   | _=>none
 | .val (.bool b) => match op with
   | .not=>some (.val (.bool (!b)))
   | _=>none
 | _=>none
def X17 (agg:Bool) (size off:Nat) (l:List PV):Option PV :=
 if off+size<=l.length then
  (match agg with
   | true=>some (.agg ((l.drop off).take size))
   | false => match l.drop off with
     | p :: _=>some p
     | []=>none)
 else none
def X1L (s:ByteArray):List (List PV):=s.data.toList.map fun b => [PV.val (.int .u8 (b.toNat:Int))]
def Xl (l:List PV) (off:Nat) (cs:List PV):List PV:=l.take off++cs++l.drop (off+cs.length)
def X1b (e:Env):List PV->List (Nat×Nat×Operand)->Option (List PV)
 | l,[]=>some l
 | l, (off, size, x) :: r => match ev e x with
   | some p=>if p.flat&&p.cells.length == size&&decide (off+size<=l.length) then X1b e (Xl l off p.cells) r else none
   | none=>none
def X1B (e:Env) (size:Nat):List (List PV)->List (Nat×Operand)->Option (List (List PV))
 | l,[]=>some l
 | l, (i, x) :: r => match ev e x with
   | some p=>if p.flat&&p.cells.length == size&&decide (i<l.length) then X1B e size (l.set i p.cells) r else none
   | none=>none
def X1O:Option PV->Option Int
 | some (.val (.int _ n))=>some n
 | _=>none
def XM (e:Env) (d:Int):Option Operand->Option Int
 | none=>some d
 | some x=>X1O (ev e x)
def X3C:List (List PV)->Option (List Int)
 | []=>some []
 | [.val (.int .u8 n)] :: r => match X3C r with
   | some l=>some (n :: l)
   | none=>none
 | _=>none
def X3 (op:AOp) (e:Env) (h:X2) (id:Nat):Option (PV×X2) :=
 match op with
 | .mov x => match ev e x with
   | some p=>some (p,h)
   | none=>none
 | .pick c a b => match ev e c with
   | some (.val (.bool true)) => match ev e a with
     | some p=>some (p,h)
     | none=>none
   | some (.val (.bool false)) => match ev e b with
     | some p=>some (p,h)
     | none=>none
   | _=>none
 | .bin op c x y => match ev e x, ev e y with
   | some p, some q => match X4l op c p q with
     | some r=>some (r,h)
     | none=>none
   | _,_=>none
 | .una op x => match ev e x with
   | some p => match X6T op p with
     | some r=>some (r,h)
     | none=>none
   | none=>none
 | .conv k x => match ev e x with
   | some (.val (.int _ n))=>some (.val (.int k (k.wrap n)),h)
   | _=>none
 | .b2s x => match ev e x with
   | some (.vec l _) => match X3C l with
     | some ns=>some (.val (.string (strOfNums ns)),h)
     | none=>none
   | _=>none
 | .s2b x => match ev e x with
   | some (.val (.string s))=>if s.size<=281474976710656 then some (.vec (X1L s) false,h) else none
   | _=>none
 | .alloc z=>some (.ptr id 0 0,h.upd id ⟨z.length,[zpv z]⟩)
 | .box x => match ev e x with
   | some p=>if p.flat&&decide (0<p.cells.length) then some (.ptr id 0 0,h.upd id ⟨p.cells.length,[p.cells]⟩) else none
   | none=>none
 | .build z ps => match X1b e (zpv z) ps with
   | some l=>some (.agg l,h)
   | none=>none
 | .bslice z n ps => match X1B e z.length (List.replicate n (zpv z)) ps with
   | some l=>some (.vec l true,h)
   | none=>none
 | .load agg size a => match ev e a with
   | some (.cp l) => match X17 agg size 0 l with
     | some p=>some (p,h)
     | none=>none
   | some (.ptr k i off) => match h k with
     | some b => if i < b.elems.length then (match X17 agg size off (b.elems.getD i []) with
       | some p=>some (p,h)
       | none=>none) else none
     | none=>none
   | _=>none
 | .store size a v => match ev e a, ev e v with
   | some (.ptr k i off), some p => match h k with
     | some b => if p.flat && p.cells.length == size && decide (i < b.elems.length) && decide (off + size <= b.esz) then
        some (pvu,h.upd k ⟨b.esz,b.elems.set i (Xl (b.elems.getD i []) off p.cells)⟩) else none
     | none=>none
   | _,_=>none
 | .nilck x => match ev e x with
   | some (.cp l)=>some (.cp l,h)
   | some (.ptr k i off)=>some (.ptr k i off,h)
   | some (.fn f l)=>some (.fn f l,h)
   | _=>none
 | .faddr off x => match ev e x with
   | some (.cp l)=>some (.cp (l.drop off),h)
   | some (.ptr k i o)=>some (.ptr k i (o+off),h)
   | _=>none
 | .field agg size off x => match ev e x with
   | some (.agg l) => match X17 agg size off l with
     | some p=>some (p,h)
     | none=>none
   | _=>none
 | .iaddr esz x i => match ev e x, ev e i with
   | some (.vec l _), some (.val (.int _ n)) => if 0 <= n /\ n < (l.length : Int) then
      (if (l.getD n.toNat []).length=esz then some (.cp (l.getD n.toNat []),h) else none) else none
   | some (.own k), some (.val (.int _ n)) => match h k with
     | some b=>if 0<=n/\n<(b.elems.length:Int) then (if b.esz=esz then some (.ptr k n.toNat 0,h) else none) else none
     | none=>none
   | some (.view k lo len), some (.val (.int _ n)) => match h k with
     | some b=>if 0<=n/\n<(len:Int)/\lo+len<=b.elems.length then (if b.esz=esz then some (.ptr k (lo+n.toNat) 0,h) else none) else none
     | none=>none
   | some (.sl k i o len _),some (.val (.int _ n))=>if 0<=n/\n<(len:Int)/\esz=1 then some (.ptr k i (o+n.toNat),h) else none
   | _,_=>none
 | .iaddrA n esz x i => match ev e x, ev e i with
   | some (.cp l),some (.val (.int _ j))=>if 0<=j/\j<(n:Int) then some (.cp (l.drop (j.toNat*esz)),h) else none
   | some (.ptr k i0 o),some (.val (.int _ j))=>if 0<=j/\j<(n:Int) then some (.ptr k i0 (o+j.toNat*esz),h) else none
   | _,_=>none
 | .indexA agg n esz x i => match ev e x, ev e i with
   | some (.agg l), some (.val (.int _ j)) => if 0 <= j /\ j < (n : Int) then (match X17 agg esz (j.toNat * esz) l with
     | some p=>some (p,h)
     | none=>none) else none
   | _,_=>none
 | .indexS x i => match ev e x, ev e i with
   | some (.val (.string s)),some (.val (.int _ j))=>if 0<=j/\j<(s.size:Int) then some (.val (.int .u8 (s.data.toList.getD j.toNat 0).toNat),h) else none
   | _,_=>none
 | .mslice z bytes l c => match X1O (ev e l), X1O (ev e c) with
   | some n, some m => if 0 <= n /\ n <= m /\ (bytes : Int) * m <= 281474976710656 then
      some (.own id,h.upd id ⟨z.length,List.replicate n.toNat (zpv z)⟩) else none
   | _,_=>none
 | .slc esz x lo hi mx => match ev e x with
   | some (.vec l _) => match XM e 0 lo, XM e l.length hi with
     | some a, some b => match mx with
       | none=>if (0<=a/\a<=b/\b<=(l.length:Int))/\∀ c∈l,c.length=esz then some (.vec ((l.take b.toNat).drop a.toNat) false,h) else none
       | some m => match X1O (ev e m), hi with
         | some c,some _=>if (0<=a/\a<=b/\b<=c/\c<=(l.length:Int))/\∀ c∈l,c.length=esz then some (.vec ((l.take b.toNat).drop a.toNat) (b == c),h) else none
         | _,_=>none
     | _,_=>none
   | some (.own k) => match h k with
     | some bx => match XM e 0 lo, XM e bx.elems.length hi with
       | some a, some b => match mx with
         | none => if (0 <= a /\ a <= b /\ b <= (bx.elems.length : Int)) /\ bx.esz = esz then
            some (.own id,fun j=>bif Nat.beq j id then some ⟨bx.esz,(bx.elems.take b.toNat).drop a.toNat⟩ else bif Nat.beq j k then none else h j) else none
         | some _=>none
       | _,_=>none
     | none=>none
   | _=>none
 | .len x => match ev e x with
   | some (.vec l _)=>some (.val (.int .i64 l.length),h)
   | some (.own k) => match h k with
     | some b=>some (.val (.int .i64 b.elems.length),h)
     | none=>none
   | some (.view _ _ n)=>some (.val (.int .i64 n),h)
   | some (.sl _ _ _ n _)=>some (.val (.int .i64 n),h)
   | _=>none
 | .clear z x => match ev e x with
   | some (.view k lo n) => match h k with
     | some b=>if lo+n<=b.elems.length/\b.esz=z.length then some (.val (.tuple #[]),h.upd k ⟨b.esz,b.elems.take lo++(List.replicate n (zpv z)++b.elems.drop (lo+n))⟩) else none
     | none=>none
   | _=>none
 | .isnil neg x => match ev e x with
   | some (.vec (_ :: _) _)=>some (.val (.bool neg),h)
   | _=>none
 | .isnilM neg x => match ev e x with
   | some (.mp _)=>some (.val (.bool neg),h)
   | some (.val (.map none))=>some (.val (.bool !neg),h)
   | _=>none
 | .slcS x lo hi => match ev e x with
   | some (.val (.string s)) => match XM e 0 lo, XM e s.size hi with
     | some a,some b=>if 0<=a/\a<=b/\b<=(s.size:Int) then some (.val (.string (s.extract a.toNat b.toNat)),h) else none
     | _,_=>none
   | _=>none
 | .slcA n x lo hi => match ev e x with
   | some (.cp l) => match XM e 0 lo, XM e n hi with
     | some a,some b=>if 0<=a/\a<=b/\b<=(n:Int)/\a<(n:Int)/\n<=l.length then some (.vec (((l.take b.toNat).drop a.toNat).map fun c => [c]) false,h) else none
     | _,_=>none
   | some (.ptr k i o) => match XM e 0 lo, XM e n hi with
     | some a,some b=>if 0<=a/\a<=b/\b<=(n:Int)/\a<(n:Int) then some (.sl k i (o+a.toNat) (b.toNat-a.toNat) (n-a.toNat),h) else none
     | _,_=>none
   | _=>none
 | .mkmap=>some (.mp id,h.upd id ⟨0,[]⟩)
 | .lookup c agg z ok m k => match ev e m, ev e k with
   | some (.mp i), some kp => match h i with
     | some b => if b.esz = 0 /\ X3c c kp kp = some true then (match X1g c kp b.elems with
       | some (some j) => let v := (b.elems.getD j []).getD 1 pvu
         some (bif ok then .tup [v,.val (.bool true)] else v,h)
       | some none=>some (bif ok then .tup [X6N agg z,.val (.bool false)] else X6N agg z,h)
       | none=>none) else none
     | none=>none
   | _,_=>none
 | .mapset c m k v => match ev e m, ev e k, ev e v with
   | some (.mp i), some kp, some p => match h i with
     | some b => if b.esz = 0 /\ X3c c kp kp = some true then (match X1g c kp b.elems with
       | some (some j)=>some (pvu,h.upd i ⟨0,b.elems.set j [kp,p]⟩)
       | some none=>some (pvu,h.upd i ⟨0,b.elems ++ [[kp,p]]⟩)
       | none=>none) else none
     | none=>none
   | _,_,_=>none
 | .lenM x => match ev e x with
   | some (.mp i) => match h i with
     | some b=>if b.esz=0 then some (.val (.int .i64 b.elems.length),h) else none
     | none=>none
   | _=>none
 | .lenS x => match ev e x with
   | some (.val (.string s))=>some (.val (.int .i64 s.size),h)
   | _=>none
 | .lenA n=>some (.val (.int .i64 n),h)
 | .append z bytes s x => match ev e s, ev e x with
   | some (.own k), some (.vec m _) => match h k with
     | some b => if (∀ c ∈ m, c.length = z.length) /\ b.esz = z.length /\ (b.elems.length + m.length) * bytes <= 140737488355328 then
        some (.own id,fun j=>bif Nat.beq j id then some ⟨b.esz,b.elems++m⟩ else bif Nat.beq j k then none else h j) else none
     | none=>none
   | _,_=>none
 | .copy esz d s => match ev e d, ev e s with
   | some (.own k), some (.vec m _) => match h k with
     | some b => if (∀ c ∈ m, c.length = esz) /\ b.esz = esz then
        some (.val (.int .i64 (min m.length b.elems.length:Nat)),h.upd k ⟨b.esz,m.take b.elems.length++b.elems.drop m.length⟩) else none
     | none=>none
   | some (.sl k i o len _), some (.vec m _) => match h k with
     | some b => if (∀ c ∈ m, c.length = esz) /\ esz = 1 /\ i < b.elems.length /\ o + len <= b.esz then
        some (.val (.int .i64 (min m.length len:Nat)),h.upd k ⟨b.esz,b.elems.set i (Xl (b.elems.getD i []) o ((m.take len).map fun c=>c.getD 0 pvu))⟩) else none
     | none=>none
   | some (.sl k i o len _), some (.sl k2 i2 o2 len2 _) => match h k, h k2 with
     | some b, some b2 => if esz = 1 /\ i < b.elems.length /\ o + len <= b.esz /\ i2 < b2.elems.length /\ o2 + len2 <= b2.esz then
        some (.val (.int .i64 (min len2 len:Nat)),h.upd k ⟨b.esz,b.elems.set i (Xl (b.elems.getD i []) o ((((b2.elems.getD i2 []).drop o2).take len2).take len))⟩) else none
     | _,_=>none
   | _,_=>none
 | .mx x y => match ev e x, ev e y with
   | some (.val (.int k a)),some (.val (.int _ b))=>some (.val (.int k (if b>a then b else a)),h)
   | _,_=>none
 | .mn x y => match ev e x, ev e y with
   | some (.val (.int k a)),some (.val (.int _ b))=>some (.val (.int k (if b<a then b else a)),h)
   | _,_=>none
 | .cap x => match ev e x with
   | some (.vec l true)=>some (.val (.int .i64 l.length),h)
   | _=>none
 | .appz z bytes s n => match ev e s, X1O (ev e n) with
   | some (.vec [] true),some m=>if 0<m/\m*(bytes:Int)<=140737488355328 then some (.own id,h.upd id ⟨z.length,List.replicate m.toNat (zpv z)⟩) else none
   | _,_=>none
 | .mkfn f caps => match evs e caps with
   | some l=>some (.fn f l,h)
   | none=>none
 | .extract x i => match ev e x with
   | some (.tup l)=>if i<l.length then some (l.getD i pvu,h) else none
   | _=>none
 | .call _ _=>none
def XH (op:AOp) (e:Env) (h:X2) (id:Nat):Option (PV×X2) :=
 match op with
 | .alloc z=>some (.cp (zpv z),h)
 | .box x => match ev e x with
   | some p=>if p.flat&&decide (0<p.cells.length) then some (.cp p.cells,h) else none
   | none=>none
 | .append z bytes s x => match ev e s, ev e x with
   | some (.vec l true), some (.vec m _) => if (∀ c ∈ l, c.length = z.length) /\ (∀ c ∈ m, c.length = z.length) /\ (l.length + m.length) * bytes <= 140737488355328 then
      some (.vec (l++m) false,h) else none
   | _,_=>none
 | .bslice z n ps => match X1B e z.length (List.replicate n (zpv z)) ps with
   | some l=>some (.own id,h.upd id ⟨z.length,l⟩)
   | none=>none
 | .mslice z bytes l c => match X1O (ev e l), X1O (ev e c) with
   | some n,some m=>if 0<=n/\n=m/\(bytes:Int)*m<=281474976710656 then some (.vec (List.replicate n.toNat (zpv z)) true,h) else none
   | _,_=>none
 | .lookup _ _ _ _ _ _=>none
 | .slc esz x lo hi none => match ev e x with
   | some (.own k) => match h k with
     | some bx => match XM e 0 lo, XM e bx.elems.length hi with
       | some a,some b=>if (0<=a/\a<=b/\b<=(bx.elems.length:Int))/\bx.esz=esz then some (.view k a.toNat (b.toNat-a.toNat),h) else none
       | _,_=>none
     | none=>none
   | some (.view k o n) => match h k with
     | some bx => match XM e 0 lo, XM e n hi with
       | some a,some b=>if (0<=a/\a<=b/\b<=(n:Int))/\o+n<=bx.elems.length/\bx.esz=esz then some (.view k (o+a.toNat) (b.toNat-a.toNat),h) else none
       | _,_=>none
     | none=>none
   | some (.vec l true) => match XM e 0 lo, XM e l.length hi with
     | some a,some b=>if a=0/\b=(l.length:Int) then some (.vec l true,h) else none
     | _,_=>none
   | _=>none
 | _=>none
section
variable {C:Ctx} {Fr:Nat->Prop} {e:Env} {h:X2} {F:XL} {φ:XO} {a:Act} {w:World}
theorem Z2s (v:Value):Rep F φ v (X3Z v):=by
 unfold X3Z
 split
 . exact .vecnil true
 . exact .val _
theorem St'.eval (s:St' C Fr e h F φ a w) {x:Operand} {p:PV} (hx:ev e x=some p):Rep F φ (a.eval x) p:=by
 cases x with
 | tmp t=>exact (s.env t p (by simpa [ev] using hx)).2
 | const v => obtain rfl : X3Z v = p := by simpa [ev] using hx
              exact Z2s v
 | global g =>
   simp only [ev] at hx
   split at hx
   . cases hx; exact .val _
   . rename_i v l hg;cases hx;have hlen:(zpv (v :: l)).length=(v :: l).length:=by simp [zpv]
     refine .cp ⟨g,0,none⟩ (zpv (v :: l)) (fun j=>(v :: l).getD j undef) rfl (fun j hj=>?_) (fun j hj=>?_)
     . have hj' : j < (v :: l).length := by rw [<- hlen]; exact hj
       have e1:(X3u g)[j]?=some ((v :: l).getD j undef):=by rw [hg,Y0b,Y0c hj']; rfl
       have:=s.glob g j _ e1;rw [Y15];exact this
     . have hj' : j < (v :: l).length := by rw [<- hlen]; exact hj
       have e2:(zpv (v :: l)).getD j pvu=X3Z ((v :: l).getD j undef):=by
        simp only [zpv,Y0b,Y0y,Y0c hj',Y1i,Y29]
       rw [e2];exact Z2s _
 | func f => obtain rfl : _ = p := by simpa [ev] using hx
             exact .fn f #[] [] rfl (fun i hi=>absurd hi (by simp))
theorem St'.evals (s:St' C Fr e h F φ a w) {xs:List Operand} {ps:List PV} (hx:evs e xs=some ps):xs.length=ps.length/\∀ i,i<ps.length->Rep F φ ((xs.map a.eval).getD i undef) (ps.getD i pvu):=by
 induction xs generalizing ps with
 | nil => obtain rfl : [] = ps := by simpa [evs] using hx
          simp
 | cons x r ih =>
   simp only [evs] at hx
   split at hx
   . rename_i p l hp hl;obtain rfl:p :: l=ps:=by simpa using hx
     obtain⟨h1,h2⟩:=ih hl;refine⟨by simp [h1],fun i hi=>?_⟩;cases i with
     | zero=>simpa using s.eval hp
     | succ i=>simpa using h2 i (by simpa using hi)
   . simp at hx
theorem St'.weaken (s:St' C Fr e h F φ a w) {Fr':Nat->Prop} (hf:∀ i,Fr' i->Fr i):St' C Fr' e h F φ a w :=
 { s with free:=fun i hi=>s.free i (hf i hi) }
theorem St'.sub (s:St' C Fr e h F φ a w) {e':Env} {h':X2} (he:∀ k p,e' k=some p->e k=some p) (hh:∀ i b,h' i=some b->h i=some b):St' C Fr e' h' F φ a w :=
 { s with
   env:=fun k p hp=>s.env k p (he k p hp)
   live:=fun i b hb=>s.live i b (hh i b hb)
   sep:=fun i j bi bj li lj k hi hj=>s.sep i j bi bj li lj k (hh i bi hi) (hh j bj hj) }
theorem Z1c (t:Array Value) (d k:Nat) (v:Value) (hd:d<t.size):(t.setIfInBounds d v).getD k undef=if k=d then v else t.getD k undef:=by
 simp only [Y0d,Y4w];by_cases hk:d=k
 . subst hk; simp [hd]
 . simp [hk,Y2L hk]
theorem St'.put (s:St' C Fr e h F φ a w) {d:Nat} {v:Value} {p:PV} (hd:d<C.nt) (hr:Rep F φ v p):St' C Fr (e.upd d p) h F φ (a.put (some d) v) w:=by
 refine { s with nt:=by simp [Act.put,s.nt],marks:=⟨s.marks.nd,s.marks.all⟩,env:=fun k q hq=>?_ };simp only [Act.put];rw [Z1c _ _ _ _ (by rw [s.nt]; exact hd)];by_cases hk:k=d
 . subst hk;rw [Env.upd_same] at hq;obtain rfl:p=q:=by simpa using hq
   simpa using ⟨hd,hr⟩
 . rw [Env.upd_ne _ _ hk] at hq;simpa [hk] using s.env k q hq
def XC (e:Env) (d:Option Nat) (p:PV):Env:=match d with|some k=>e.upd k p|none=>e
theorem St'.putO (s:St' C Fr e h F φ a w) {d:Option Nat} {v:Value} {p:PV} (hd:X2O C.nt d=true) (hr:Rep F φ v p):St' C Fr (XC e d p) h F φ (a.put d v) w:=by
 cases d with
 | none=>exact s
 | some d=>exact s.put (by simpa [X2O] using hd) hr
theorem St'.drew (s:St' C Fr e h F φ a w):St' C Fr e h F φ a { w with drawn:=w.drawn+1 } :=
 { nt := s.nt, glob := s.glob, marks := ⟨s.marks.nd, s.marks.all⟩, loc0 := s.loc0, free := s.free, env := s.env, froz := s.froz, ext := s.ext, old := s.old, os := s.os, tape := s.tape, output := s.output, size := s.size, kept := s.kept,
   live:=fun id b hb=>by
    obtain⟨loc,h1,h2,h3⟩:=s.live id b hb;refine⟨loc,h1,h2.imp (fun h2=>⟨h2.esz,h2.pos,h2.len,h2.cap,h2.max,h2.el,h2.room⟩) (fun h2=>⟨h2.esz,h2.pos,h2.cap,h2.room⟩),h3⟩
   sep:=s.sep }
theorem X4q.mono {F':XL} {φ':XO} {w':World} {loc:Loc} {b:Bx} (hb:X4q F φ w loc b) (hF:∀ x v,F x=some v->F' x=some v) (hφ:∀ i x,φ i=some x->φ' i=some x)
 (hw:∀ k,loc.has k->w'.heap[k]?=w.heap[k]?):X4q F' φ' w' loc b:=by
 refine⟨hb.esz,hb.pos,hb.len,hb.cap,hb.max,hb.el,fun hc=>?_⟩;obtain⟨x,hx,hs,cells,t,hg,hsz,hr⟩:=hb.room hc;refine⟨x,hx,hs,cells,t,by rw [hw _ ⟨hc,x,hx,rfl⟩]; exact hg,hsz,fun i j hi hj=>⟨(hr i j hi hj).1,(hr i j hi hj).2.mono hF hφ⟩⟩
theorem XW.imp {F':XL} {φ':XO}:∀ {es:List MapEntry} {rs:List (List PV)},XW F φ es rs->(∀ r∈rs,∀ p∈r,∀ v,Rep F φ v p->Rep F' φ' v p)->XW F' φ' es rs
 | [],[],_,_=>trivial
 | m :: es, r :: rs, h, hi => by
   obtain⟨⟨k,v,rfl,h1,h2⟩,h3⟩:=h;exact⟨⟨k,v,rfl,hi [k,v] (by simp) k (by simp) _ h1,hi [k,v] (by simp) v (by simp) _ h2⟩,h3.imp fun r hr=>hi r (by simp [hr])⟩
 | [],_ :: _,h,_=>h.elim
 | _ :: _,[],h,_=>h.elim
theorem X3x.mono {F':XL} {φ':XO} {w':World} {loc:Loc} {b:Bx} (hb:X3x F φ w loc b) (hF:∀ x v,F x=some v->F' x=some v) (hφ:∀ i x,φ i=some x->φ' i=some x)
 (hw:∀ k,loc.has k->w'.heap[k]?=w.heap[k]?):X3x F' φ' w' loc b:=by
 obtain⟨x,hx,es,t,hg,hr⟩:=hb.room;exact⟨hb.esz,hb.pos,hb.cap,x,hx,es,t,by rw [hw _ ⟨hb.cap,x,hx,rfl⟩]; exact hg,hr.imp fun _ _ _ _ _ h=>h.mono hF hφ⟩
theorem X1Q.mono {F':XL} {φ':XO} {w':World} {loc:Loc} {b:Bx} (hb:X1Q F φ w loc b) (hF:∀ x v,F x=some v->F' x=some v) (hφ:∀ i x,φ i=some x->φ' i=some x)
 (hw:∀ k,loc.has k->w'.heap[k]?=w.heap[k]?):X1Q F' φ' w' loc b:=hb.imp (fun h=>h.mono hF hφ hw) (fun h=>h.mono hF hφ hw)
theorem X1Q.there {loc:Loc} {b:Bx} (hb:X1Q F φ w loc b) {k:Nat} (hk:loc.has k):(∃ cells t,w.heap[k]?=some (.cells cells t (0,0))) \/ ∃ es t,w.heap[k]?=some (.map es t):=by
 obtain⟨hc,x,hx,rfl⟩:=hk;rcases hb with h2|h2
 . obtain ⟨y, hy, _, cells, t, hg, _⟩ := h2.room hc;obtain rfl:y=x:=by rw [hy] at hx; simpa using hx
   exact .inl ⟨cells,t,hg⟩
 . obtain ⟨y, hy, es, t, hg, _⟩ := h2.room;obtain rfl:y=x:=by rw [hy] at hx; simpa using hx
   exact .inr ⟨es,t,hg⟩
theorem St'.lt (s:St' C Fr e h F φ a w) {x:Addr} {v:Value} (hx:F x=some v):x.block<w.heap.size:=Y3K (s.froz x v hx).2.2
theorem St'.has_lt (s:St' C Fr e h F φ a w) {i:Nat} {b:Bx} {loc:Loc} {k:Nat} (hb:h i=some b) (hl:φ i=some loc) (hk:loc.has k):k<w.heap.size:=by
 obtain⟨loc',h1,h2,_⟩:=s.live i b hb;obtain rfl:loc'=loc:=by rw [h1] at hl; simpa using hl
 rcases h2.there hk with⟨cells,t,hg⟩|⟨es,t,hg⟩
 . exact (YF.1 hg).1
 . exact (YF.1 hg).1
theorem St'.cellAt (s:St' C Fr e h F φ a w) {i:Nat} {b:Bx} {loc:Loc} (hb:h i=some b) (hl:φ i=some loc) (hz:0<loc.esz):X4q F φ w loc b/\∀ k,loc.has k->(C.w0.heap.size<=k \/ C.G k)/\∀ x:Addr,x.block=k->F x=none:=by
 obtain⟨loc',h1,h2,h3⟩:=s.live i b hb;obtain rfl:loc'=loc:=by rw [h1] at hl; exact Y13 hl
 exact⟨h2.cells hz,h3⟩
def X8 (φ:XO) (id:Nat) (loc:Loc):XO:=fun i=>if i=id then some loc else φ i
theorem Z1b {id:Nat} (hid:φ id=none) (loc:Loc):∀ i x,φ i=some x->X8 φ id loc i=some x:=by
 intro i x hx;have:i≠id:=fun e=>by subst e; rw [hid] at hx; cases hx
 simp [X8,this,hx]
theorem St'.allocOb (s:St' C Fr e h F φ a w) {id:Nat} (hid:Fr id) (o:Obj) {loc:Loc} {b0:Bx} (hx:loc.base=some ⟨w.heap.size,0,none⟩) (hb0:(∀ i x,φ i=some x->X8 φ id loc i=some x)->X1Q F (X8 φ id loc) (w.alloc o) loc b0) :
 St' C (fun i=>Fr i/\i≠id) e (h.upd id b0) F (X8 φ id loc) a (w.alloc o):=by
 have hφ:=s.free id hid;have hext:=Z1b hφ loc;have hold:∀ k,k<w.heap.size->(w.alloc o).heap[k]?=w.heap[k]?:=fun k hk=>Y4t w _ k hk
 refine { nt := s.nt, glob := s.glob, marks := s.marks.mono (fun k hk => by rw [hold k (YF.1 hk).1]; exact hk), loc0 := fun i x hx => hext _ _ (s.loc0 i x hx), free := ?_, env := fun k p hp => ⟨(s.env k p hp).1, (s.env k p hp).2.mono (fun _ _ h => h) hext⟩, froz := fun x v hx => ?_, ext := s.ext, old := s.old, os := s.os, tape := s.tape, output := s.output,
          size:=by have:=s.size; simp; omega,kept:=fun k hk hG=>by rw [hold k (by have:=s.size;omega)]; exact s.kept k hk hG,live:=?_,sep:=?_ }
 . rintro i ⟨hi, hne⟩;simp [X8,hne,s.free i hi]
 . obtain ⟨h1, h2, h3⟩ := s.froz x v hx;exact⟨h1,h2,by rw [Y2h (w:=w) (hold _ (Y3K h3))]; exact h3⟩
 . intro i b hb;by_cases hi:i=id
   . subst hi;rw [X2.upd_same] at hb;obtain rfl:_=b:=by simpa using hb
     refine⟨loc,by simp [X8],hb0 hext,?_⟩;rintro k ⟨_,x,hx',rfl⟩;obtain rfl:(⟨w.heap.size,0,none⟩:Addr)=x:=by rw [hx] at hx'; exact Y13 hx'
     refine⟨.inl s.size,fun y hy=>?_⟩;cases hFy:F y with
     | none=>rfl
     | some v=>have:=s.lt hFy; simp at hy; omega
   . rw [X2.upd_ne _ _ hi] at hb;obtain⟨loc,h1,h2,h3⟩:=s.live i b hb;exact⟨loc,hext _ _ h1,h2.mono (fun _ _ h=>h) hext (fun k hk=>hold k (s.has_lt hb h1 hk)),h3⟩
 . intro i j bi bj li lj k hi hj hli hlj hki hkj;by_cases h1:i=id
   . by_cases h2 : j = id
     . rw [h1,h2]
     . subst h1;rw [X2.upd_ne _ _ h2] at hj;have hlj':φ j=some lj:=by simpa [X8,h2] using hlj
       have hlt:=s.has_lt hj hlj' hkj;obtain rfl:_=li:=by simpa [X8] using hli
       obtain⟨_,x,hx',rfl⟩:=hki;rw [hx] at hx'; cases hx';simp at hlt
   . rw [X2.upd_ne _ _ h1] at hi;have hli':φ i=some li:=by simpa [X8,h1] using hli
     by_cases h2:j=id
     . subst h2;have hlt:=s.has_lt hi hli' hki;obtain rfl:_=lj:=by simpa [X8] using hlj
       obtain⟨_,x,hx',rfl⟩:=hkj;rw [hx] at hx'; cases hx';simp at hlt
     . rw [X2.upd_ne _ _ h2] at hj;exact s.sep i j bi bj li lj k hi hj hli' (by simpa [X8,h2] using hlj) hki hkj
theorem St'.alloc (s:St' C Fr e h F φ a w) {id:Nat} (hid:Fr id) (cells:Array Value) (t:TypeId) (esz len cap:Nat) (elems:List (List PV)) (hpos:0<esz) (hlen:elems.length=len) (hcap:len<=cap)
 (hmax:len<=Xj) (hel:∀ c∈elems,c.length=esz) (hsz:cap*esz<=cells.size)
 (hrep:∀ i j,i<len->j<esz->(cells.getD (i*esz+j) undef).oneCell'=true/\Rep F φ (cells.getD (i*esz+j) undef) ((elems.getD i []).getD j pvu)) :
 St' C (fun i=>Fr i/\i≠id) e (h.upd id ⟨esz,elems⟩) F (X8 φ id ⟨some ⟨w.heap.size,0,none⟩,esz,len,cap⟩) a (w.alloc (.cells cells t)):=by
 refine s.allocOb hid _ rfl fun hext=>.inl ⟨rfl,hpos,hlen,hcap,hmax,hel,fun _=>⟨_,rfl,rfl,cells,t,Y3v w _,by simpa using hsz,fun i j hi hj=>?_⟩⟩;have:=hrep i j hi hj;simp only [Y15];exact⟨this.1,this.2.mono (fun _ _ h=>h) hext⟩
theorem St'.allocNil (s:St' C Fr e h F φ a w) {id:Nat} (hid:Fr id) (base:Option Addr) (esz:Nat) (hpos:0<esz) :
 St' C (fun i=>Fr i/\i≠id) e (h.upd id ⟨esz,[]⟩) F (X8 φ id ⟨base,esz,0,0⟩) a w:=by
 have hφ:=s.free id hid;have hext:=Z1b hφ ⟨base,esz,0,0⟩
 refine { nt := s.nt, glob := s.glob, marks := s.marks, loc0 := fun i x hx => hext _ _ (s.loc0 i x hx), free := ?_, env := fun k p hp => ⟨(s.env k p hp).1, (s.env k p hp).2.mono (fun _ _ h => h) hext⟩, froz := s.froz, ext := s.ext, old := s.old, os := s.os, tape := s.tape, output := s.output,
          size:=s.size,kept:=s.kept,live:=?_,sep:=?_ }
 . rintro i ⟨hi, hne⟩;simp [X8,hne,s.free i hi]
 . intro i b hb;by_cases hi:i=id
   . subst hi;rw [X2.upd_same] at hb;obtain rfl:_=b:=by simpa using hb
     exact⟨⟨base,esz,0,0⟩,by simp [X8],.inl ⟨rfl,hpos,rfl,Y0m _,Y0l _,by simp,fun hc=>absurd rfl hc⟩,fun k hk=>absurd rfl hk.1⟩
   . rw [X2.upd_ne _ _ hi] at hb;obtain⟨loc,h1,h2,h3⟩:=s.live i b hb;exact⟨loc,hext _ _ h1,h2.mono (fun _ _ h=>h) hext (fun _ _=>rfl),h3⟩
 . intro i j bi bj li lj k hi hj hli hlj hki hkj;by_cases h1:i=id
   . subst h1;obtain rfl:_=li:=by simpa [X8] using hli
     exact absurd rfl hki.1
   . by_cases h2 : j = id
     . subst h2;obtain rfl:_=lj:=by simpa [X8] using hlj
       exact absurd rfl hkj.1
     . rw [X2.upd_ne _ _ h1] at hi;rw [X2.upd_ne _ _ h2] at hj;exact s.sep i j bi bj li lj k hi hj (by simpa [X8,h1] using hli) (by simpa [X8,h2] using hlj) hki hkj
theorem St'.adopt (s:St' C Fr e h F φ a w) {g:Nat} {cur cur':Array Value} {t:TypeId} (hg:w.heap[g]?=some (.cells cur t (0,0))) (hown:C.w0.heap.size<=g \/ C.G g) (hF:∀ x:Addr,x.block=g->F x=none)
 (hno:∀ i b loc,h i=some b->φ i=some loc->¬ loc.has g) {id:Nat} {loc':Loc} {b':Bx} {φ':XO} {Fr':Nat->Prop} (hid:φ' id=some loc') (hext:∀ i x,φ i=some x->φ' i=some x) (hne:∀ i,i≠id->φ' i=φ i)
 (hFr:∀ i,Fr' i->φ' i=none) (hloc:∀ k,loc'.has k->k=g) (hb:X4q F φ' (w.setRow g cur') loc' b'):St' C Fr' e (h.upd id b') F φ' a (w.setRow g cur'):=by
 have hold:∀ k,k≠g->(w.setRow g cur').heap[k]?=w.heap[k]?:=fun k hk=>setRow_other w g k cur' hk
 refine { nt := s.nt, glob := s.glob, marks := s.marks.mono (fun k hk => by rw [hold k (fun e => by subst e; rw [hg] at hk; cases hk)]; exact hk), loc0 := fun i x hx => hext _ _ (s.loc0 i x hx), free := hFr, env := fun k p hp => ⟨(s.env k p hp).1, (s.env k p hp).2.mono (fun _ _ h => h) hext⟩, froz := fun x v hx => ?_, ext := s.ext, old := s.old, os := s.os, tape := s.tape, output := s.output,
          size:=by have:=s.size; simpa using this,kept:=fun k hk hG=>?_,live:=?_,sep:=?_ }
 . obtain ⟨h1, h2, h3⟩ := s.froz x v hx;refine⟨h1,h2,?_⟩;have:x.block≠g:=fun e=>by rw [hF x e] at hx; cases hx
   rw [Y2h (w:=w) (hold _ this)];exact h3
 . have : k ≠ g := by
    rintro rfl;rcases hown with h' | h'
    . omega
    . exact hG h'
   rw [hold k this];exact s.kept k hk hG
 . intro i b hbi;by_cases hi:i=id
   . subst hi;rw [X2.upd_same] at hbi;obtain rfl:b'=b:=by simpa using hbi
     exact⟨loc',hid,.inl hb,fun k hk=>by obtain rfl:=hloc k hk; exact⟨hown,hF⟩⟩
   . rw [X2.upd_ne _ _ hi] at hbi;obtain⟨loc,h1,h2,h3⟩:=s.live i b hbi;exact⟨loc,hext _ _ h1,h2.mono (fun _ _ h=>h) hext (fun k hk=>hold k fun e=>by subst e; exact hno i b loc hbi h1 hk),h3⟩
 . intro i j bi bj li lj k hi hj hli hlj hki hkj;by_cases h1:i=id
   . by_cases h2 : j = id
     . rw [h1,h2]
     . subst h1;rw [X2.upd_ne _ _ h2] at hj;obtain rfl:loc'=li:=by rw [hid] at hli; simpa using hli
       obtain rfl:=hloc k hki;exact absurd hkj (hno j bj lj hj (by rw [<- hne j h2]; exact hlj))
   . rw [X2.upd_ne _ _ h1] at hi;by_cases h2:j=id
     . subst h2;obtain rfl:loc'=lj:=by rw [hid] at hlj; simpa using hlj
       obtain rfl:=hloc k hkj;exact absurd hki (hno i bi li hi (by rw [<- hne i h1]; exact hli))
     . rw [X2.upd_ne _ _ h2] at hj;exact s.sep i j bi bj li lj k hi hj (by rw [<- hne i h1]; exact hli) (by rw [<- hne j h2]; exact hlj) hki hkj
def X2.del (h:X2) (k:Nat):X2:=fun j=>bif Nat.beq j k then none else h j
theorem X2.del_ne (h:X2) {k j:Nat} (hj:j≠k):h.del k j=h j:=by
 have:Nat.beq j k=false:=Yy.2 fun hb=>hj (YH hb);simp [X2.del,this]
theorem X2.del_same (h:X2) (k:Nat):h.del k k=none:=by simp [X2.del]
theorem X2.del_some {h:X2} {k j:Nat} {b:Bx} (hb:h.del k j=some b):j≠k/\h j=some b:=by
 by_cases hj:j=k
 . subst hj; rw [X2.del_same] at hb; cases hb
 . rw [X2.del_ne _ hj] at hb; exact⟨hj,hb⟩
theorem X2.del_upd (h:X2) (k:Nat) (b:Bx):(h.del k).upd k b=h.upd k b:=by
 funext j;by_cases hj:j=k
 . subst hj; rw [X2.upd_same,X2.upd_same]
 . rw [X2.upd_ne _ _ hj,X2.upd_ne _ _ hj,X2.del_ne _ hj]
theorem St'.del_no (s:St' C Fr e h F φ a w) {k:Nat} {b:Bx} {loc:Loc} (hk:h k=some b) (hl:φ k=some loc) {g:Nat} (hg:loc.has g):∀ i b' loc',h.del k i=some b'->φ i=some loc'->¬ loc'.has g:=by
 intro i b' loc' hi hl' hg';obtain⟨hne,hi⟩:=X2.del_some hi;exact hne (s.sep i k b' b loc' loc g hi hk hl' hl hg' hg)
end
section
variable {P:Program} {C:Ctx} {Fr:Nat->Prop} {e:Env} {h:X2} {F:XL} {φ:XO} {a:Act} {w:World}
theorem Rep.val_inv {v u:Value} (h:Rep F φ v (.val u)):v=u:=by cases h; rfl
theorem Rep.agg_inv {v:Value} {l:List PV} (h:Rep F φ v (.agg l)):∃ vs:Array Value,v=.agg vs/\vs.size=l.length/\(∀ i,i<l.length->(vs.getD i undef).oneCell'=true)/\∀ i,i<l.length->Rep F φ (vs.getD i undef) (l.getD i pvu):=by
 cases h with
 | agg vs _ hl h1 h=>exact⟨vs,rfl,hl,h1,h⟩
theorem Rep.tup_inv {v:Value} {l:List PV} (h:Rep F φ v (.tup l)):∃ vs:Array Value,v=.tuple vs/\vs.size=l.length/\∀ i,i<l.length->Rep F φ (vs.getD i undef) (l.getD i pvu):=by
 cases h with
 | tup vs _ hl h=>exact⟨vs,rfl,hl,h⟩
theorem Rep.fn_inv {v:Value} {f:FuncId} {l:List PV} (h:Rep F φ v (.fn f l)):∃ vs:Array Value,v=.func (.func f) #[] vs/\vs.size=l.length/\∀ i,i<l.length->Rep F φ (vs.getD i undef) (l.getD i pvu):=by
 cases h with
 | fn _ vs _ hl h=>exact⟨vs,rfl,hl,h⟩
theorem Rep.cp_inv {v:Value} {l:List PV} (h:Rep F φ v (.cp l)):∃ (x:Addr) (cs:Nat->Value),v=.pointer (some x)/\x.spot=none/\(∀ j,j<l.length->F ⟨x.block,x.off+j,none⟩=some (cs j))/\∀ j,j<l.length->Rep F φ (cs j) (l.getD j pvu):=by
 cases h with
 | cp x _ cs hs hF hR=>exact⟨x,cs,rfl,hs,hF,hR⟩
theorem Rep.ptr_inv {v:Value} {id i off:Nat} (h:Rep F φ v (.ptr id i off)):∃ (loc:Loc) (x:Addr),φ id=some loc/\0<loc.esz/\loc.base=some x/\x.spot=none/\v=.pointer (some ⟨x.block,x.off+(i*loc.esz+off),none⟩):=by
 cases h with
 | ptr _ _ _ loc x h hz hb hs=>exact⟨loc,x,h,hz,hb,hs,rfl⟩
theorem Rep.own_inv {v:Value} {id:Nat} (h:Rep F φ v (.own id)):∃ loc:Loc,φ id=some loc/\0<loc.esz/\v=.slice loc.base loc.len loc.cap:=by
 cases h with
 | own _ loc h hz=>exact⟨loc,h,hz,rfl⟩
theorem Rep.view_inv {v:Value} {id lo len:Nat} (h:Rep F φ v (.view id lo len)):∃ (loc:Loc) (b:Option Addr),φ id=some loc/\0<loc.esz/\lo+len<=loc.cap/\(lo<loc.cap->b=loc.base.map (·.add (lo*loc.esz)))/\v=.slice b len (loc.cap-lo):=by
 cases h with
 | view _ _ _ loc b h hz hl hb=>exact⟨loc,b,h,hz,hl,hb,rfl⟩
theorem Rep.sl_inv {v:Value} {id i off len cap:Nat} (h:Rep F φ v (.sl id i off len cap)):∃ (loc:Loc) (x:Addr),φ id=some loc/\0<loc.esz/\loc.base=some x/\x.spot=none/\len<=cap/\v=.slice (some ⟨x.block,x.off+(i*loc.esz+off),none⟩) len cap:=by
 cases h with
 | sl _ _ _ _ _ loc x h hz hb hs hl=>exact⟨loc,x,h,hz,hb,hs,hl,rfl⟩
theorem Rep.mp_inv {v:Value} {id:Nat} (h:Rep F φ v (.mp id)):∃ (loc:Loc) (x:Addr),φ id=some loc/\loc.esz=0/\loc.base=some x/\v=.map (some x.block):=by
 cases h with
 | mp _ loc x h hz hb=>exact⟨loc,x,h,hz,hb,rfl⟩
theorem Rep.vec_inv {v:Value} {l:List (List PV)} {full:Bool} (h:Rep F φ v (.vec l full)) :
 (l = [] /\ v = .slice none 0 0) \/ ∃ (x : Addr) (cap esz : Nat) (cs : Nat -> Nat -> Value), v = .slice (some x) l.length cap /\ (l ≠ [] -> x.spot = none) /\ l.length <= cap /\ (full = true -> cap = l.length) /\ l.length <= Xj /\
   (∀ i,i<l.length->(l.getD i []).length=esz)/\(∀ i j,i<l.length->j<esz->F ⟨x.block,x.off+(i*esz+j),none⟩=some (cs i j))/\∀ i j,i<l.length->j<esz->Rep F φ (cs i j) ((l.getD i []).getD j pvu):=by
 cases h with
 | vecnil=>exact .inl ⟨rfl,rfl⟩
 | vec x cap esz _ _ cs hs hcap hfull hmax he hF hR=>exact .inr ⟨x,cap,esz,cs,rfl,hs,hcap,hfull,hmax,he,hF,hR⟩
theorem Rep.oneCell {v:Value} {p:PV} (h:Rep F φ v p) (h1:p.one=true):v.oneCell'=true:=by
 cases h with
 | val v=>exact h1
 | agg=>simp [PV.one] at h1
 | tup=>simp [PV.one] at h1
 | vecnil=>rfl
 | vec=>rfl
 | cp=>rfl
 | ptr=>rfl
 | own=>rfl
 | view=>rfl
 | sl=>rfl
 | mp=>rfl
 | fn=>rfl
theorem Z90 {v:Value} (h:v.oneCell'=true):v.cells = #[v]:=by cases v<;>first|rfl|(simp [Value.oneCell'] at h)
theorem Rep.cellsOf {v:Value} {p:PV} (h:Rep F φ v p) (hf:p.flat=true) :
 v.cells.size=p.cells.length/\∀ i,i<p.cells.length->(v.cells.getD i undef).oneCell'=true/\Rep F φ (v.cells.getD i undef) (p.cells.getD i pvu):=by
 by_cases hp:∃ l,p=.agg l
 . obtain ⟨l, rfl⟩ := hp;obtain⟨vs,rfl,hl,h1,hr⟩:=h.agg_inv;exact⟨hl,fun i hi=>⟨h1 i hi,hr i hi⟩⟩
 . have hone : p.one = true := by
    cases p<;>first|exact hf|exact absurd ⟨_,rfl⟩ hp
   have hc:p.cells = [p]:=by
    cases p<;>first|rfl|exact absurd ⟨_,rfl⟩ hp
   rw [Z90 (h.oneCell hone),hc];refine⟨rfl,fun i hi=>?_⟩;obtain rfl:i=0:=by simpa using hi
   exact⟨h.oneCell hone,h⟩
def Xf (P:Program) (C:Ctx) (Fr:Nat->Prop) (e:Env) (F:XL) (φ:XO) (a:Act) (w:World) (s:Sem Value) (id:Nat) (v:PV) (h':X2):Prop :=
 ∃ val w' F' φ',s.run P w=.ok val w'/\St' C (fun i=>Fr i/\(h' id≠none->i≠id)) e h' F' φ' a w'/\Rep F' φ' val v
theorem St'.made {id:Nat} {b:Bx} (s:St' C (fun i=>Fr i/\i≠id) e (h.upd id b) F φ a w):St' C (fun i=>Fr i/\((h.upd id b) id≠none->i≠id)) e (h.upd id b) F φ a w :=
 s.weaken fun i hi=>⟨hi.1,hi.2 (by rw [X2.upd_same]; simp)⟩
theorem Xf.quiet (s:St' C Fr e h F φ a w) {m:Sem Value} {val:Value} {v:PV} {id:Nat} (hr:m.run P w=.ok val w) (hv:Rep F φ val v):Xf P C Fr e F φ a w m id v h :=
 ⟨val,w,F,φ,hr,s.weaken fun _ h=>h.1,hv⟩
theorem ZZ (x:Addr) (n:Nat) (hs:x.spot=none):x.add n=⟨x.block,x.off+n,none⟩:=by
 obtain⟨b,o,sp⟩:=x;obtain rfl:sp=none:=hs;exact Addr.add_lit b o n
theorem Z5f (x:Addr) (hs:x.spot=none):x=⟨x.block,x.off,none⟩:=by
 obtain⟨b,o,sp⟩:=x;obtain rfl:sp=none:=hs
 rfl
theorem St'.objCell (s:St' C Fr e h F φ a w) {k:Nat} {b:Bx} {loc:Loc} (hb:h k=some b) (hl:φ k=some loc) {i j:Nat} (hi:i<b.elems.length) (hj:j<b.esz) {x:Addr} (hx:loc.base=some x) :
 ∃ c,w.cell? ⟨x.block,x.off+(i*loc.esz+j),none⟩=some c/\c.oneCell'=true/\Rep F φ c ((b.elems.getD i []).getD j pvu):=by
 obtain⟨loc',h1,h2,_⟩:=s.live k b hb;obtain rfl:loc'=loc:=by rw [h1] at hl; simpa using hl
 have h2:=h2.cellsB (by omega);have hi':i<loc'.len:=by rw [<- h2.len]; exact hi
 have hj':j<loc'.esz:=by rw [<- h2.esz]; exact hj
 have hc:loc'.cap≠0:=by have:=h2.cap; omega
 obtain⟨y,hy,hs,cells,t,hg,hsz,hr⟩:=h2.room hc;obtain rfl:y=x:=by rw [hy] at hx; simpa using hx
 have hlt:y.off+(i*loc'.esz+j)<cells.size:=by
  have h3:i*loc'.esz+j<loc'.cap*loc'.esz:=by
   have h4:(i+1)*loc'.esz<=loc'.cap*loc'.esz:=YX _ (by have:=h2.cap;omega);have h5:=Y3s i loc'.esz;simp only [Y2U] at h5;omega
  omega
 refine⟨cells.getD (y.off+(i*loc'.esz+j)) undef,?_,(hr i j hi' hj').1,(hr i j hi' hj').2⟩;rw [cell_of_row w y.block _ cells t (0,0) hg];simp [Array.getD,hlt]
theorem Z5g {t:TypeId} {n:Nat} (hl:X1l P t=some (true,n)):∃ d i,P.underlying t=some d/\X70 d=true/\P.info? t=some i/\i.size=n:=by
 unfold X1l at hl
 split at hl
 . rename_i d i hd hi
   split at hl
   . exact⟨d,i,hd,by assumption,hi,by simpa using hl⟩
   . split at hl<;>simp at hl
 . simp at hl
theorem Z2L {t:TypeId} {n:Nat} (hl:X1l P t=some (false,n)):n=1/\∃ d i,P.underlying t=some d/\X70 d=false/\P.info? t=some i/\i.size=1:=by
 unfold X1l at hl
 split at hl
 . rename_i d i hd hi
   split at hl
   . simp at hl
   . split at hl
     . exact⟨by simpa using hl.symm,d,i,hd,by assumption,hi,by assumption⟩
     . simp at hl
 . simp at hl
theorem Z2k {t:TypeId} {d:TypeDesc} (hu:P.underlying t=some d) {b:Bool} (hd:X70 d=b):(isAgg t).run P w=.ok b w:=by
 subst hd;simp only [isAgg,Y1a,Y9 hu,YS];cases d<;>rfl
theorem Zi {t:TypeId} {i:TypeInfo} (hi:P.info? t=some i):(sizeOf t).run P w=.ok i.size w:=by
 simp [sizeOf,typeInfo,hi]
theorem Z4t (n:Nat) (f:Nat->Value) (j:Nat) (hj:j<n):((List.range n).map f).toArray.getD j undef=f j:=by
 simp [Array.getD,hj]
theorem Z5h {t:TypeId} {agg:Bool} {size:Nat} (hlay:X1l P t=some (agg,size)) {ad:Addr} (hs:ad.spot=none) {l:List PV} {off:Nat} {p:PV} (hcut:X17 agg size off l=some p)
 (hc:∀ j,j<size->∃ c,w.cell? ⟨ad.block,ad.off+j,none⟩=some c/\c.oneCell'=true/\Rep F φ c (l.getD (off+j) pvu)):∃ val,(loadVar t ad).run P w=.ok val w/\Rep F φ val p:=by
 unfold X17 at hcut
 split at hcut
 case isFalse=>simp at hcut
 rename_i hle;cases agg with
 | true =>
   obtain⟨d,i,hu,hd,hi,rfl⟩:=Z5g hlay;obtain rfl:PV.agg _=p:=by simpa using hcut
   let f:Nat->Value:=fun j=>if hj:j<i.size then (hc j hj).choose else undef
   have hf:∀ j,(hj:j<i.size)->w.cell? ⟨ad.block,ad.off+j,none⟩=some (f j)/\(f j).oneCell'=true/\Rep F φ (f j) (l.getD (off+j) pvu):=fun j hj=>by
    simp only [f,hj,dif_pos]; exact (hc j hj).choose_spec
   refine⟨.agg ((List.range i.size).map f).toArray,?_,.agg _ _ (by simp;omega) (fun j hj=>?_) fun j hj=>?_⟩
   . simp only [loadVar,Y1a,Z2k hu hd,YS,Y25,Zi hi,run_loadCells w ad i.size f (fun j hj=>by rw [ZZ _ _ hs]; exact (hf j hj).1),Y22]
   . have hj' : j < i.size := by simp at hj; omega
     rw [Z4t _ _ _ hj']; exact (hf j hj').2.1
   . have hj' : j < i.size := by simp at hj; omega
     rw [Z4t _ _ _ hj'];have:=(hf j hj').2.2;simpa [Y0b,Y1l,hj',Y1B] using this
 | false =>
   obtain⟨rfl,d,i,hu,hd,hi,hsz⟩:=Z2L hlay;obtain⟨c,hc1,hc2,hc3⟩:=hc 0 (by omega);refine⟨c,?_,?_⟩
   . rw [Y1k, <- Z5f ad hs] at hc1;simp [loadVar,Z2k hu hd,hc1]
   . simp only at hcut
     split at hcut
     . rename_i q r hq;obtain rfl:q=p:=by simpa using hcut
       have hg:l[off]?=some q:=by
        have:=congrArg (fun x=>x[0]?) hq;simpa using this
       simpa [Y0b,hg] using hc3
     . simp at hcut
theorem Zie {t:TypeId} {agg:Bool} {size:Nat} (hlay:X1l P t=some (agg,size)) {vs:Array Value} {l:List PV} {off:Nat} {p:PV} (hcut:X17 agg size off l=some p) (hl:vs.size=l.length)
 (h1:∀ i,i<l.length->(vs.getD i undef).oneCell'=true) (hr:∀ i,i<l.length->Rep F φ (vs.getD i undef) (l.getD i pvu)):∃ val,(part t vs off).run P w=.ok val w/\Rep F φ val p:=by
 unfold X17 at hcut
 split at hcut
 case isFalse=>simp at hcut
 rename_i hle;cases agg with
 | true =>
   obtain⟨d,i,hu,hd,hi,rfl⟩:=Z5g hlay;obtain rfl:PV.agg _=p:=by simpa using hcut
   have hget:∀ j,j<i.size->(vs.extract off (off+i.size)).getD j undef=vs.getD (off+j) undef:=fun j hj=>by
    have h2:(vs.extract off (off+i.size))[j]?=vs[off+j]?:=by rw [Array.getElem?_extract,Y6 (by omega)]
    simp only [Y0d,h2]
   refine⟨.agg (vs.extract off (off+i.size)),?_,.agg _ _ (by simp;omega) (fun j hj=>?_) fun j hj=>?_⟩
   . simp only [part,Y1a,Z2k hu hd,YS,Y25,Zi hi,Y22]
   . have hj' : j < i.size := by simp at hj; omega
     rw [hget j hj']; exact h1 _ (by omega)
   . have hj' : j < i.size := by simp at hj; omega
     rw [hget j hj'];have:=hr (off+j) (by omega);simpa [Y0b,Y1l,hj',Y1B] using this
 | false =>
   obtain⟨rfl,d,i,hu,hd,hi,hsz⟩:=Z2L hlay;have hlt:off<vs.size:=by omega
   refine⟨vs.getD off undef,?_,?_⟩
   . simp [part,Z2k hu hd,hlt,Array.getD]
   . simp only at hcut
     split at hcut
     . rename_i q r hq;obtain rfl:q=p:=by simpa using hcut
       have hg:l[off]?=some q:=by
        have:=congrArg (fun x=>x[0]?) hq;simpa using this
       have:=hr off (by omega);simpa [Y0b,hg] using this
     . simp at hcut
end
section
variable {P:Program} {C:Ctx} {Fr:Nat->Prop} {e:Env} {h:X2} {F:XL} {φ:XO} {a:Act} {w:World}
theorem Zda {op:BinOp} {t:TypeId} {x y:Operand} {va vb r:Value} (hs:X53 op va vb=some r):(do eqGuard op t x y va vb; binOp op t va vb:Sem Value).run P w=.ok r w:=by
 unfold X53 at hs
 split at hs
 . rename_i k n k' m;cases op<;>simp only at hs <;>
    first
     | (split at hs
        . first
           | (obtain rfl := by simpa using hs
              subst_vars
              first
               | (simp [eqGuard,binOp,Op.intArith,Op.intBits,Op.intCmp,bits]; done)
               | (rename_i hb
                  have hb':¬ m<0:=by omega
                  simp [eqGuard,binOp,Op.shift,hb']; done))
           | (split at hs
              . simp at hs
              . obtain rfl := by simpa using hs
                subst_vars
                rename_i hb
                simp [eqGuard,binOp,Op.intDiv,hb])
        . simp at hs)
     | (simp at hs)
 . rename_i s t';cases op<;>simp only at hs <;>
    first
     | (obtain rfl := by simpa using hs
        simp [eqGuard,binOp,Op.stringOp]; done)
     | (split at hs
        . rename_i hl;cases hs;have hl':¬ ((s.size+t'.size:Nat):Int)>IntKind.i64.max:=by
           have:IntKind.i64.max=9223372036854775807:=by decide
           omega
          simp only [eqGuard,binOp,Op.stringOp,Y8 hl'];simp
        . cases hs)
     | (simp at hs)
 . simp at hs
def X6Y:TypeDesc->Option BC
 | .int _=>some .num
 | .string=>some .num
 | .bool=>some .bool
 | .pointer _=>some .ptr
 | _=>none
theorem Rep.isNil {v:Value} {p:PV} {b:Bool} (hr:Rep F φ v p) (hn:p.isNil=some b):∃ o:Option Addr,v=.pointer o/\o.isNone=b:=by
 unfold PV.isNil at hn
 split at hn
 . obtain rfl := by simpa using hn
   exact⟨none,hr.val_inv,rfl⟩
 . obtain rfl := by simpa using hn
   obtain⟨x,cs,rfl,_⟩:=hr.cp_inv;exact⟨some x,rfl,rfl⟩
 . obtain rfl := by simpa using hn
   obtain⟨loc,x,_,_,_,_,rfl⟩:=hr.ptr_inv;exact⟨_,rfl,rfl⟩
 . simp at hn
theorem Zif {op:BinOp} {t:TypeId} {d:TypeDesc} {c:BC} (hu:P.underlying t=some d) (hc:X6Y d=some c) {x y:Operand} {va vb:Value} {p q r:PV} (hx:Rep F φ va p) (hy:Rep F φ vb q) (hs:X4l op c p q=some r) :
 ∃ val,(do eqGuard op t x y va vb; binOp op t va vb:Sem Value).run P w=.ok val w/\Rep F φ val r:=by
 unfold X4l at hs
 split at hs
 . split at hs
   . rename_i u v;obtain rfl:=hx.val_inv;obtain rfl:=hy.val_inv;cases hb:X53 op va vb with
     | none=>simp [hb] at hs
     | some val =>
       obtain rfl:=by simpa [hb] using hs
       exact⟨val,Zda hb,.val _⟩
   . simp at hs
 . have hd : d = .bool := by cases d <;> simp_all [X6Y]
   subst hd
   split at hs
   . obtain rfl := hx.val_inv;obtain rfl:=hy.val_inv
     split at hs
     . obtain rfl := by simpa using hs
       exact⟨_,by simp [eqGuard,run_eql_bool w t _ _ hu],.val _⟩
     . obtain rfl := by simpa using hs
       exact⟨_,by simp [eqGuard,run_neq_bool w t _ _ hu],.val _⟩
     . simp at hs
   . simp at hs
 . have hd : ∃ e, d = .pointer e := by cases d <;> simp_all [X6Y]
   obtain⟨el,rfl⟩:=hd;have hp:P.underlying t=some (.pointer (P.pointee t)):=by simp [Program.pointee,hu]
   split at hs
   . split at hs
     . rename_i b hb;obtain⟨o,rfl,rfl⟩:=hx.isNil hb;obtain rfl:=hy.val_inv;obtain rfl:=by simpa using hs
       exact⟨_,by simp [eqGuard,run_eql_pointer_nil w t o hp],.val _⟩
     . simp at hs
   . split at hs
     . rename_i b hb;obtain⟨o,rfl,rfl⟩:=hx.isNil hb;obtain rfl:=hy.val_inv;obtain rfl:=by simpa using hs
       exact⟨_,by simp [eqGuard,run_neq_pointer_nil w t o hp],.val _⟩
     . simp at hs
   . simp at hs
 . cases d<;>simp_all [X6Y]
theorem Zdb {op:UnOp} {v:Value} {p r:PV} (hx:Rep F φ v p) (hs:X6T op p=some r):∃ val,(Op.unary op v).run P w=.ok val w/\Rep F φ val r:=by
 unfold X6T at hs
 split at hs
 . obtain rfl := hx.val_inv
   split at hs
   . cases hs;exact⟨_,rfl,.val _⟩
   . cases hs;exact⟨_,rfl,.val _⟩
   . simp at hs
 . obtain rfl := hx.val_inv
   split at hs
   . cases hs;exact⟨_,rfl,.val _⟩
   . simp at hs
 . simp at hs
theorem Z12 {t:TypeId} {z:List Value} (hz:XX P t=some z):∃ i v,P.info? t=some i/\i.zero=some v/\z=v.cells.toList/\(∀ u∈z,u.oneCell'=true)/\z.length=i.size/\0<z.length:=by
 unfold XX at hz
 split at hz
 . rename_i i hi
   split at hz
   . rename_i v hv
     split at hz
     . rename_i hc;obtain rfl:v.cells.toList=z:=by simpa using hz
       simp only [Y0k,YK,Y1S,Y0n] at hc;exact⟨i,v,hi,hv,rfl,hc.1.1,by simp [hc.1.2],by simp [hc.1.2,hc.2]⟩
     . simp at hz
   . simp at hz
 . simp at hz
theorem Z91 (z:List Value) (j:Nat) (hj:j<z.length):(zpv z).getD j pvu=X3Z (z.getD j undef):=by
 simp [zpv,Y0b,hj]
theorem ZX {t:TypeId} {i:TypeInfo} {v:Value} (hi:P.info? t=some i) (hv:i.zero=some v):(zeroValue t).run P w=.ok v w:=by
 simp [zeroValue,typeInfo,hi,hv]
theorem Z1P (vs:Array Value) (j:Nat):vs.toList.getD j undef=vs.getD j undef:=by
 simp [Y0b,Y0d]
theorem St'.newVar (s:St' C Fr e h F φ a w) {id:Nat} (hid:Fr id) (t:TypeId) (v:Value) (cs:List PV) (hpos:0<cs.length) (hsz:v.cells.size=cs.length)
 (hr:∀ j,j<cs.length->(v.cells.getD j undef).oneCell'=true/\Rep F φ (v.cells.getD j undef) (cs.getD j pvu)) :
 St' C (fun i=>Fr i/\i≠id) e (h.upd id ⟨cs.length,[cs]⟩) F (X8 φ id ⟨some ⟨w.heap.size,0,none⟩,cs.length,1,1⟩) a (w.alloc (.cells v.cells t)) /\
  Rep F (X8 φ id ⟨some ⟨w.heap.size,0,none⟩,cs.length,1,1⟩) (.pointer (some ⟨w.heap.size,0,none⟩)) (.ptr id 0 0):=by
 refine⟨s.alloc hid v.cells t cs.length 1 1 [cs] hpos rfl (Y0m _) (by simp [Xj]) (by simp) (by omega) (fun i j hi hj=>?_),?_⟩
 . obtain rfl : i = 0 := by omega
   simpa using hr j hj
 . have := Rep.ptr (F := F) (φ := X8 φ id ⟨some ⟨w.heap.size, 0, none⟩, cs.length, 1, 1⟩) id 0 0 _ ⟨w.heap.size, 0, none⟩ (by simp [X8]; rfl) hpos rfl rfl;simpa using this
theorem ZfP (s:St' C Fr e h F φ a w) {id:Nat} (hid:Fr id) {t:TypeId} {z:List Value} (hz:XX P t=some z) (old:Value) :
 Xf P C Fr e F φ a w (Instr.alloc t true old) id (.ptr id 0 0) (h.upd id ⟨z.length,[zpv z]⟩):=by
 obtain⟨i,v,hi,hv,rfl,h1,hl,hp⟩:=Z12 hz;have hl2:(zpv v.cells.toList).length=v.cells.toList.length:=by simp [zpv]
 obtain⟨s',r'⟩:=s.newVar hid t v (zpv v.cells.toList) (by rw [hl2]; exact hp) (by rw [hl2]; simp) (fun j hj=>by
  rw [hl2] at hj;rw [Z91 _ _ hj,Z1P];refine⟨h1 _ ?_,Z2s _⟩;have:j<v.cells.size:=by simpa using hj
  simp [Array.getD,this])
 rw [hl2] at s' r';exact⟨_,_,F,_,by simp [Instr.alloc,ZX hi hv,Go.newVar,newRow],s'.made,r'⟩
theorem Zkp (s:St' C Fr e h F φ a w) {id:Nat} (hid:Fr id) {t:TypeId} {v:Value} {p:PV} (hv:Rep F φ v p) (hf:p.flat=true) (hp:0<p.cells.length) :
 Xf P C Fr e F φ a w (Instr.box t v) id (.ptr id 0 0) (h.upd id ⟨p.cells.length,[p.cells]⟩):=by
 obtain⟨hc1,hc2⟩:=hv.cellsOf hf;obtain⟨s',r'⟩:=s.newVar hid t v p.cells hp hc1 hc2;exact⟨_,_,F,_,by simp [Instr.box,Go.newVar,newRow],s'.made,r'⟩
def X21 (F:XL) (φ:XO) (vs:Array Value) (l:List PV):Prop:=vs.size=l.length/\∀ i,i<l.length->(vs.getD i undef).oneCell'=true/\Rep F φ (vs.getD i undef) (l.getD i pvu)
theorem X21.zero {z:Array Value} (h1:∀ u∈z.toList,u.oneCell'=true):X21 F φ z (zpv z.toList):=by
 refine⟨by simp [zpv],fun i hi=>?_⟩;have hi':i<z.toList.length:=by simpa [zpv] using hi
 rw [Z91 _ _ hi',Z1P];refine⟨h1 _ ?_,Z2s _⟩;have:i<z.size:=by simpa using hi'
 simp [Array.getD,this]
theorem Za5 (off:Nat) (cs:List Value):∀ (k:Nat) (acc:Array Value),off+k+cs.length<=acc.size ->
 ((cs.zipIdx k).foldl (fun (r:Array Value) (x:Value×Nat)=>r.setIfInBounds (off+x.2) x.1) acc).size=acc.size /\
 ∀ i,((cs.zipIdx k).foldl (fun (r:Array Value) (x:Value×Nat)=>r.setIfInBounds (off+x.2) x.1) acc).getD i undef=if off+k<=i/\i<off+k+cs.length then cs.getD (i-(off+k)) undef else acc.getD i undef:=by
 induction cs with
 | nil=>intro k acc _; simp; intro i h1 h2; omega
 | cons c r ih =>
   intro k acc hle;simp only [Y04] at hle;obtain⟨h1,h2⟩:=ih (k+1) (acc.setIfInBounds (off+k) c) (by simp;omega);simp only [List.zipIdx_cons,Y1b];refine⟨by rw [h1]; simp,fun i=>?_⟩;rw [h2,Z1c _ _ _ _ (by omega)];by_cases hi:i=off+k
   . subst hi;rw [Y8 (by omega),Y6 rfl,Y6 (by simp)];simp
   . rw [Y8 hi];by_cases hr:off+(k+1)<=i/\i<off+(k+1)+r.length
     . rw [Y6 hr, Y6 (by simp; omega)];have:i-(off+k)=(i-(off+(k+1)))+1:=by omega
       rw [this];simp
     . rw [Y8 hr,Y8 (by simp;omega)]
theorem Z2Z (l:List PV) (off:Nat) (cs:List PV) (h:off+cs.length<=l.length):(Xl l off cs).length=l.length:=by
 simp [Xl]; omega
theorem Z5V (l:List PV) (off:Nat) (cs:List PV) (h:off+cs.length<=l.length) (i:Nat):(Xl l off cs).getD i pvu=if off<=i/\i<off+cs.length then cs.getD (i-off) pvu else l.getD i pvu:=by
 have hm:min off l.length=off:=by omega
 simp only [Xl,Y0b,YT];by_cases h1:i<off
 . rw [Y8 (by omega),YO (by simp;omega),Y1l,Y6 h1]
 . rw [YL (by simp; omega)];simp only [Y0o,hm];by_cases h2:i<off+cs.length
   . rw [Y6 (by omega),YO (by omega)]
   . rw [Y8 (by omega), YL (by omega), Y1B];congr 2;omega
theorem X21.set {vs:Array Value} {l:List PV} (hc:X21 F φ vs l) {v:Value} {p:PV} (hv:Rep F φ v p) (hf:p.flat=true) {off:Nat} (hle:off+p.cells.length<=l.length) :
 X21 F φ (v.cells.zipIdx.foldl (fun cs (c,j)=>cs.setIfInBounds (off+j) c) vs) (Xl l off p.cells):=by
 obtain⟨h1,h2⟩:=hv.cellsOf hf;have hz:v.cells.zipIdx.foldl (fun cs (c,j)=>cs.setIfInBounds (off+j) c) vs=(v.cells.toList.zipIdx 0).foldl (fun (r:Array Value) (x:Value×Nat)=>r.setIfInBounds (off+x.2) x.1) vs:=by
  rw [<- Y4g]; simp
 have hl:v.cells.toList.length=p.cells.length:=by simpa using h1
 obtain⟨f1,f2⟩:=Za5 off v.cells.toList 0 vs (by rw [hl,hc.1]; simpa using hle);rw [hz];refine⟨by rw [f1,hc.1,Z2Z _ _ _ hle],fun i hi=>?_⟩;rw [Z2Z _ _ _ hle] at hi;rw [f2,Z5V _ _ _ hle,hl];simp only [Y1k];by_cases hr:off<=i/\i<off+p.cells.length
 . rw [Y6 hr, Y6 hr, Z1P];exact h2 _ (by omega)
 . rw [Y8 hr, Y8 hr];exact hc.2 i hi
theorem Zem (s:St' C Fr e h F φ a w) {fs:Array Field} {places:Array (Nat×Nat)} (hpl:∀ (i:Nat) (f:Field) (inf:TypeInfo),fs[i]?=some f->P.info? f.type=some inf->places[i]?=some (f.offset,inf.size)) :
 ∀ (ps : List (Nat × Operand)) (qs : List (Nat × Nat × Operand)) (vs : Array Value) (l r : List PV), X2p P fs ps = some qs -> X21 F φ vs l -> X1b e l qs = some r ->
   ∃ vs',Instr.fill (places[·]?) vs (ps.map fun (i,x)=>(i,a.eval x))=some vs'/\X21 F φ vs' r:=by
 intro ps
 induction ps with
 | nil =>
   intro qs vs l r hq hc hb;obtain rfl : []=qs:=by simpa [X2p] using hq
   obtain rfl:l=r:=by simpa [X1b] using hb
   exact⟨vs,rfl,hc⟩
 | cons q ps ih =>
   intro qs vs l r hq hc hb;obtain⟨i,x⟩:=q;simp only [X2p] at hq
   split at hq
   case h_2=>simp at hq
   rename_i f hf
   split at hq
   case h_2=>simp at hq
   rename_i inf qs' hinf hqs;obtain rfl:=by simpa using hq
   simp only [X1b] at hb
   split at hb
   case h_2=>simp at hb
   rename_i p hp
   split at hb
   case isFalse=>simp at hb
   rename_i hcond;simp only [Y0k,Y1S,Y0n] at hcond;obtain⟨⟨hflat,hsz⟩,hle⟩:=hcond;have hv:=s.eval hp;obtain⟨h1,_⟩:=hv.cellsOf hflat;obtain⟨vs',hfill,hc'⟩:=ih qs' _ _ r hqs (hc.set hv hflat (off:=f.offset) (by omega)) hb;refine⟨vs',?_,hc'⟩;simp only [Y1J,Instr.fill,hpl i f inf hf hinf];rw [Y8 (by simp [h1,hsz,hc.1];omega)];exact hfill
theorem ZfQ (s:St' C Fr e h F φ a w) (size:Nat):∀ (ps:List (Nat×Operand)) (vs:Array Value) (l r:List PV),X21 F φ vs l->X1b e l (ps.map fun (k,x)=>(k*size,size,x))=some r ->
 ∃ vs',Instr.fill (fun i=>some (i*size,size)) vs (ps.map fun (i,x)=>(i,a.eval x))=some vs'/\X21 F φ vs' r:=by
 intro ps
 induction ps with
 | nil =>
   intro vs l r hc hb;obtain rfl:l=r:=by simpa [X1b] using hb
   exact⟨vs,rfl,hc⟩
 | cons q ps ih =>
   intro vs l r hc hb;obtain⟨i,x⟩:=q;simp only [Y1J,X1b] at hb
   split at hb
   case h_2=>simp at hb
   rename_i p hp
   split at hb
   case isFalse=>simp at hb
   rename_i hcond;simp only [Y0k,Y1S,Y0n] at hcond;obtain⟨⟨hflat,hsz⟩,hle⟩:=hcond;have hv:=s.eval hp;obtain⟨h1,_⟩:=hv.cellsOf hflat;obtain⟨vs',hfill,hc'⟩:=ih _ _ r (hc.set hv hflat (off:=i*size) (by omega)) hb;refine⟨vs',?_,hc'⟩;simp only [Y1J,Instr.fill];rw [Y8 (by simp [h1,hsz,hc.1];omega)];exact hfill
structure X12 (F:XL) (φ:XO) (esz:Nat) (vs:Array Value) (l:List (List PV)):Prop where
 size:vs.size=l.length*esz
 el:∀ i,i<l.length->(l.getD i []).length=esz
 rep:∀ i j,i<l.length->j<esz->(vs.getD (i*esz+j) undef).oneCell'=true/\Rep F φ (vs.getD (i*esz+j) undef) ((l.getD i []).getD j pvu)
theorem Z2r {i n j esz:Nat} (hi:i<n) (hj:j<esz):i*esz+j<n*esz:=by
 have h4:(i+1)*esz<=n*esz:=YX _ hi;have h5:=Y3s i esz;simp only [Y2U] at h5;omega
theorem Zbq {i k j esz:Nat} (hj:j<esz) (hne:i≠k):¬ (k*esz<=i*esz+j/\i*esz+j<k*esz+esz):=by
 rintro⟨h1,h2⟩;have h5:=Y3s i esz;have h6:=Y3s k esz;simp only [Y2U] at h5 h6;rcases Y3u i k with h|h
 . have h4 : (i + 1) * esz <= k * esz := YX _ h;omega
 . have h4 : (k + 1) * esz <= i * esz := YX _ (by omega);omega
theorem X12.set {esz:Nat} {vs:Array Value} {l:List (List PV)} (hc:X12 F φ esz vs l) {v:Value} {p:PV} (hv:Rep F φ v p) (hf:p.flat=true) (hsz:p.cells.length=esz) {k:Nat} (hk:k<l.length) :
 X12 F φ esz (v.cells.zipIdx.foldl (fun cs (c,j)=>cs.setIfInBounds (k*esz+j) c) vs) (l.set k p.cells):=by
 obtain⟨h1,h2⟩:=hv.cellsOf hf;have hz:v.cells.zipIdx.foldl (fun cs (c,j)=>cs.setIfInBounds (k*esz+j) c) vs=(v.cells.toList.zipIdx 0).foldl (fun (r:Array Value) (x:Value×Nat)=>r.setIfInBounds (k*esz+x.2) x.1) vs:=by
  rw [<- Y4g]; simp
 have hl:v.cells.toList.length=esz:=by rw [<- hsz]; simpa using h1
 have hle:k*esz+0+esz<=vs.size:=by
  rw [hc.size];have h4:(k+1)*esz<=l.length*esz:=YX _ hk;have h5:=Y3s k esz;simp only [Y2U] at h5;omega
 obtain⟨f1,f2⟩:=Za5 (k*esz) v.cells.toList 0 vs (by rw [hl]; exact hle);rw [hz];refine⟨by rw [f1,hc.size]; simp,fun i hi=>?_,fun i j hi hj=>?_⟩
 . have hi' : i < l.length := by simpa using hi
   simp only [Y0b,Y1p];by_cases he:k=i
   . subst he; simp [hk,hsz]
   . simp only [he, Y26];have:=hc.el i hi';simpa [Y0b] using this
 . have hi' : i < l.length := by simpa using hi
   rw [f2,hl];simp only [Y1k];by_cases he:i=k
   . subst he;rw [Y6 ⟨Nat.le_add_right _ _,by omega⟩,Z1P];have:(l.set i p.cells).getD i []=p.cells:=by simp [Y0b,hk]
     rw [this,show i*esz+j-i*esz=j by omega];exact h2 j (by omega)
   . rw [Y8 (Zbq hj he)];have:(l.set k p.cells).getD i []=l.getD i []:=by simp [Y0b,Y2L he]
     rw [this];exact hc.rep i j hi' hj
theorem ZfR (s:St' C Fr e h F φ a w) (size:Nat):∀ (ps:List (Nat×Operand)) (vs:Array Value) (l r:List (List PV)),X12 F φ size vs l->X1B e size l ps=some r ->
 ∃ vs',Instr.fill (fun i=>some (i*size,size)) vs (ps.map fun (i,x)=>(i,a.eval x))=some vs'/\X12 F φ size vs' r/\r.length=l.length:=by
 intro ps
 induction ps with
 | nil =>
   intro vs l r hc hb;obtain rfl:l=r:=by simpa [X1B] using hb
   exact⟨vs,rfl,hc,rfl⟩
 | cons q ps ih =>
   intro vs l r hc hb;obtain⟨i,x⟩:=q;simp only [X1B] at hb
   split at hb
   case h_2=>simp at hb
   rename_i p hp
   split at hb
   case isFalse=>simp at hb
   rename_i hcond;simp only [Y0k,Y1S,Y0n] at hcond;obtain⟨⟨hflat,hsz⟩,hle⟩:=hcond;have hv:=s.eval hp;obtain⟨h1,_⟩:=hv.cellsOf hflat;obtain⟨vs',hfill,hc',hl'⟩:=ih _ _ r (hc.set hv hflat hsz hle) hb;refine⟨vs',?_,hc',by simpa using hl'⟩;have hb:i*size+size<=vs.size:=by
    rw [hc.size];have h4:(i+1)*size<=l.length*size:=YX _ hle;have h5:=Y3s i size;simp only [Y2U] at h5;omega
   simp only [Y1J,Instr.fill];rw [Y8 (by simp [h1,hsz];omega)];exact hfill
theorem X12.zero {z:List Value} (h1:∀ u∈z,u.oneCell'=true) (n:Nat):X12 F φ z.length ((Array.range (n*z.length)).map (z.toArray[· % z.length]!)) (List.replicate n (zpv z)):=by
 refine⟨by simp,fun i hi=>?_,fun i j hi hj=>?_⟩
 . have hi' : i < n := by simpa using hi
   simp [Y0b,hi',zpv]
 . have hi' : i < n := by simpa using hi
   have hlt:=Z2r hi' hj;have hmod:(i*z.length+j) % z.length=j:=by rw [Nat.add_comm,Y4F,Y1v hj]
   have hget:((Array.range (n*z.length)).map (z.toArray[· % z.length]!)).getD (i*z.length+j) undef=z.getD j undef:=by
    simp only [Y0d,Array.getElem?_map,Array.getElem?_range,Y6 hlt,Y1i,Y29,hmod];simp [Y0b,hj]
   rw [hget];have:(List.replicate n (zpv z)).getD i []=zpv z:=by simp [Y0b,hi']
   rw [this,Z91 _ _ hj];refine⟨h1 _ ?_,Z2s _⟩;simp [Y0b,hj]
theorem X21.rep {vs:Array Value} {l:List PV} (hc:X21 F φ vs l):Rep F φ (.agg vs) (.agg l):=.agg vs l hc.1 (fun i hi=>(hc.2 i hi).1) fun i hi=>(hc.2 i hi).2
end
section
variable {P:Program} {C:Ctx} {Fr:Nat->Prop} {e:Env} {h:X2} {F:XL} {φ:XO} {a:Act} {w:World}
theorem X3A (s:St' C Fr e h F φ a w) {v:Value} {l:List PV} (hv:Rep F φ v (.cp l)):∃ x:Addr,v=.pointer (some x)/\x.spot=none/\∀ j,j<l.length->∃ c,w.cell? ⟨x.block,x.off+j,none⟩=some c/\c.oneCell'=true/\Rep F φ c (l.getD j pvu):=by
 obtain⟨x,cs,rfl,hs,hF,hR⟩:=hv.cp_inv;exact⟨x,rfl,hs,fun j hj=>⟨cs j,(s.froz _ _ (hF j hj)).2.2,(s.froz _ _ (hF j hj)).2.1,hR j hj⟩⟩
theorem Z6D {agg:Bool} {size off:Nat} {l:List PV} {p:PV} (h:X17 agg size off l=some p):off+size<=l.length:=by
 unfold X17 at h
 split at h
 . assumption
 . simp at h
theorem Zig (s:St' C Fr e h F φ a w) {id:Nat} {t:TypeId} {agg:Bool} {size:Nat} (hlay:X1l P t=some (agg,size)) {x:Operand} {p:PV} {h':X2} (hd:X3 (.load agg size x) e h id=some (p,h')) :
 Xf P C Fr e F φ a w (Instr.loadAt t (a.eval x)) id p h':=by
 simp only [X3] at hd
 split at hd
 . rename_i l hl
   split at hd
   . rename_i q hq;cases hd;obtain⟨ad,hv,hs,hc⟩:=X3A s (s.eval hl);have hle:=Z6D hq;obtain⟨val,hr,hrep⟩:=Z5h (w:=w) hlay hs hq (fun j hj=>by simpa using hc j (by omega));exact Xf.quiet s (by simp [Instr.loadAt,hv,Instr.sureAddr,hr]) hrep
   . simp at hd
 . rename_i k i off hl
   split at hd
   . rename_i b hb
     split at hd
     case isFalse=>simp at hd
     rename_i hi
     split at hd
     . rename_i q hq;cases hd;obtain⟨loc,ad,hloc,hz,hbase,hs,hv⟩:=(s.eval hl).ptr_inv;have hle:=Z6D hq;obtain⟨loc',h1,h2,_⟩:=s.live k b hb;obtain rfl:loc'=loc:=by rw [h1] at hloc; simpa using hloc
       have h2:=h2.cells hz;have hel:(b.elems.getD i []).length=b.esz:=by
        rw [h2.esz];refine h2.el _ ?_;simp [Y0b,hi]
       obtain⟨val,hr,hrep⟩:=Z5h (w:=w) (ad:=⟨ad.block,ad.off+(i*loc'.esz+off),none⟩) hlay rfl hq (fun j hj=>by
        have:=s.objCell hb hloc hi (j:=off+j) (by omega) hbase;rw [show ad.off+(i*loc'.esz+(off+j))=ad.off+(i*loc'.esz+off)+j by omega] at this
        exact this)
       exact Xf.quiet s (by simp [Instr.loadAt,hv,Instr.sureAddr,hr]) hrep
     . simp at hd
   . simp at hd
 . simp at hd
theorem ZfS (s:St' C Fr e h F φ a w) {id:Nat} {t:TypeId} {i:Nat} {fs:Array Field} {f:Field} {inf:TypeInfo} (hu:P.underlying t=some (.struct fs)) (hf:fs[i]?=some f) (hi:P.info? f.type=some inf) (hp:0<inf.size)
 {x:Operand} {p:PV} {h':X2} (hd:X3 (.faddr f.offset x) e h id=some (p,h')):Xf P C Fr e F φ a w (Instr.fieldAt t (a.eval x) i) id p h':=by
 have hne:inf.size≠0:=by omega
 have hfp:∀ ad:Addr,(fieldPlace ad f).run P w=.ok (ad.add f.offset) w:=fun ad=>by
  simp [fieldPlace,Zi hi,hne]
 simp only [X3] at hd
 split at hd
 . rename_i l hl;cases hd;obtain⟨ad,cs,hv,hs,hF,hR⟩:=(s.eval hl).cp_inv;refine Xf.quiet s (val:=.pointer (some (ad.add f.offset))) (by simp [Instr.fieldAt,Y9 hu,hf,hv,Instr.sureAddr,hfp]) ?_;rw [ZZ _ _ hs];refine .cp _ _ (fun j=>cs (f.offset+j)) rfl (fun j hj=>?_) (fun j hj=>?_)
   . have : f.offset + j < l.length := by simp at hj; omega
     simpa [Y1N] using hF _ this
   . have : f.offset + j < l.length := by simp at hj; omega
     simpa [Y0b] using hR _ this
 . rename_i k i0 o hl;cases hd;obtain⟨loc,ad,hloc,hz,hbase,hs,hv⟩:=(s.eval hl).ptr_inv
   refine Xf.quiet s (val:=.pointer (some ⟨ad.block,ad.off+(i0*loc.esz+(o+f.offset)),none⟩)) (by
    simp [Instr.fieldAt,Y9 hu,hf,hv,Instr.sureAddr,hfp,Addr.add_lit,Y1N]) (.ptr k i0 _ loc ad hloc hz hbase hs)
 . simp at hd
theorem ZfT (s:St' C Fr e h F φ a w) {id:Nat} {x:Operand} {p:PV} {h':X2} (hd:X3 (.nilck x) e h id=some (p,h')):h'=h/\Rep F φ (a.eval x) p/\((∃ ad,a.eval x=.pointer (some ad)) \/ ∃ f vs,a.eval x=.func (.func f) #[] vs):=by
 simp only [X3] at hd
 split at hd
 . rename_i l hl;cases hd;obtain⟨ad,cs,hv,_⟩:=(s.eval hl).cp_inv;exact⟨rfl,s.eval hl,.inl ⟨_,hv⟩⟩
 . rename_i k i off hl;cases hd;obtain⟨loc,ad,hloc,hz,hbase,hs,hv⟩:=(s.eval hl).ptr_inv;exact⟨rfl,s.eval hl,.inl ⟨_,hv⟩⟩
 . rename_i f l hl;cases hd;obtain⟨vs,hv,_⟩:=(s.eval hl).fn_inv;exact⟨rfl,s.eval hl,.inr ⟨_,_,hv⟩⟩
 . simp at hd
theorem ZfU (s:St' C Fr e h F φ a w) {id:Nat} {t el:TypeId} {inf:TypeInfo} (hu:P.underlying t=some (.slice el)) (hi:P.info? el=some inf)
 {x i:Operand} {p:PV} {h':X2} (hd:X3 (.iaddr inf.size x i) e h id=some (p,h')):Xf P C Fr e F φ a w (Instr.indexAt t (a.eval x) (a.eval i)) id p h':=by
 have hel:P.elem t=el:=by simp [Program.elem,hu]
 have hu':P.underlying t=some (.slice (P.elem t)):=by rw [hel]; exact hu
 simp only [X3] at hd
 split at hd
 . rename_i l full k n hx hn
   split at hd
   case isFalse=>simp at hd
   rename_i hb
   split at hd
   case isFalse=>simp at hd
   rename_i hlen;cases hd;have hvn:=(s.eval hn).val_inv;have hlt:n.toNat<l.length:=by omega
   rcases (s.eval hx).vec_inv with⟨rfl,_⟩|⟨ad,cap,esz,cs,hv,hs,hcap,_,_,he,hF,hR⟩
   . simp at hlt
   have hesz:esz=inf.size:=by rw [<- hlen]; exact (he _ hlt).symm
   subst hesz
   refine Xf.quiet s (val:=.pointer (some (ad.add (n.toNat*inf.size)))) (by
    rw [hv,hvn,Y34 w t ad l.length cap k n hu',Y6 hb,hel,Zi hi]; rfl) ?_
   rw [ZZ _ _ (hs (by rintro rfl; simp at hlt))];refine .cp _ _ (fun j=>cs n.toNat j) rfl (fun j hj=>?_) (fun j hj=>?_)
   . have := hF n.toNat j hlt (by omega);simpa [Y1N] using this
   . exact hR n.toNat j hlt (by omega)
 . rename_i k kk n hx hn
   split at hd
   . rename_i b hb
     split at hd
     case isFalse=>simp at hd
     rename_i hbd
     split at hd
     case isFalse=>simp at hd
     rename_i hlen;cases hd;have hvn:=(s.eval hn).val_inv;obtain⟨loc',h1,hz,hv⟩:=(s.eval hx).own_inv;obtain⟨h2,_⟩:=s.cellAt hb h1 hz;have hlt:n.toNat<b.elems.length:=by omega
     have hl2:=h2.len;have hc:loc'.cap≠0:=by have:=h2.cap; omega
     obtain⟨ad,hbase,hs,_⟩:=h2.room hc;have hbd':0<=n/\n<(loc'.len:Int):=by rw [<- hl2]; exact hbd
     refine Xf.quiet s (val:=.pointer (some (ad.add (n.toNat*inf.size)))) (by
      rw [hv,hvn,hbase,Y34 w t ad loc'.len loc'.cap kk n hu',Y6 hbd',hel,Zi hi]; rfl) ?_
     rw [ZZ _ _ hs];have:=Rep.ptr (F:=F) (φ:=φ) k n.toNat 0 loc' ad h1 hz hbase hs;rw [<- h2.esz,hlen] at this;simpa using this
   . simp at hd
 . rename_i k lo len kk n hx hn
   split at hd
   . rename_i b hb
     split at hd
     case isFalse=>simp at hd
     rename_i hbd
     split at hd
     case isFalse=>simp at hd
     rename_i hlen;cases hd;have hvn:=(s.eval hn).val_inv;obtain⟨loc,base,hloc,hz,hcap,hbs,hv⟩:=(s.eval hx).view_inv;obtain⟨loc',h1,h2,_⟩:=s.live k b hb;obtain rfl:loc'=loc:=by rw [h1] at hloc; simpa using hloc
     have h2:=h2.cells hz;have hl2:=h2.len;have hc:loc'.cap≠0:=by have:=h2.cap; omega
     obtain⟨ad,hbase,hs,_⟩:=h2.room hc;have hbv:=hbs (by omega);rw [hbase] at hbv;have hbd':0<=n/\n<(len:Int):=⟨hbd.1,hbd.2.1⟩
     refine Xf.quiet s (val:=.pointer (some ((ad.add (lo*loc'.esz)).add (n.toNat*inf.size)))) (by
      rw [hv,hvn,hbv,Y1i,Y34 w t _ len _ kk n hu',Y6 hbd',hel,Zi hi]; rfl) ?_
     rw [ZZ _ _ hs,ZZ _ _ rfl];have:=Rep.ptr (F:=F) (φ:=φ) k (lo+n.toNat) 0 loc' ad h1 hz hbase hs;rw [<- h2.esz,hlen,Y1t] at this;rw [<- h2.esz,hlen];simpa [Y1N] using this
   . simp at hd
 . rename_i k i0 o len cap kk n hx hn
   split at hd
   case isFalse=>simp at hd
   rename_i hbd;obtain⟨b0,b1,b2⟩:=hbd;cases hd;have hvn:=(s.eval hn).val_inv;obtain⟨loc,ad,hloc,hz,hbase,hs,hl,hv⟩:=(s.eval hx).sl_inv
   refine Xf.quiet s (val:=.pointer (some ((⟨ad.block,ad.off+(i0*loc.esz+o),none⟩:Addr).add (n.toNat*inf.size)))) (by
    rw [hv,hvn,Y34 w t _ len _ kk n hu',Y6 ⟨b0,b1⟩,hel,Zi hi]; rfl) ?_
   rw [ZZ _ _ rfl,b2,Y20];have:=Rep.ptr (F:=F) (φ:=φ) k i0 (o+n.toNat) loc ad hloc hz hbase hs;rw [show ad.off+(i0*loc.esz+o)+n.toNat=ad.off+(i0*loc.esz+(o+n.toNat)) by omega];exact this
 . simp at hd
theorem Zen (s:St' C Fr e h F φ a w) {id:Nat} {t el:TypeId} {n:Nat} {inf:TypeInfo} (hu:P.underlying t=some (.array n el)) (hi:P.info? el=some inf)
 {x i:Operand} {p:PV} {h':X2} (hd:X3 (.iaddrA n inf.size x i) e h id=some (p,h')):Xf P C Fr e F φ a w (Instr.indexAt t (a.eval x) (a.eval i)) id p h':=by
 have hel:P.elem t=el:=by simp [Program.elem,hu]
 have hlen:P.arrayLen t=n:=by simp [Program.arrayLen,hu]
 have hu':P.underlying t=some (.array (P.arrayLen t) (P.elem t)):=by rw [hel,hlen]; exact hu
 simp only [X3] at hd
 split at hd
 . rename_i l k j hx hn
   split at hd
   case isFalse=>simp at hd
   rename_i hb;cases hd;have hvn:=(s.eval hn).val_inv;obtain⟨ad,cs,hv,hs,hF,hR⟩:=(s.eval hx).cp_inv
   refine Xf.quiet s (val:=.pointer (some (ad.add (j.toNat*inf.size)))) (by
    rw [hv,hvn,run_indexAt_array w t ad k j hu',Y6 (by rw [hlen]; exact hb),hel,Zi hi]; rfl) ?_
   rw [ZZ _ _ hs];refine .cp _ _ (fun q=>cs (j.toNat*inf.size+q)) rfl (fun q hq=>?_) (fun q hq=>?_)
   . have : j.toNat * inf.size + q < l.length := by simp at hq; omega
     simpa [Y1N] using hF _ this
   . have : j.toNat * inf.size + q < l.length := by simp at hq; omega
     simpa [Y0b] using hR _ this
 . rename_i k i0 o kk j hx hn
   split at hd
   case isFalse=>simp at hd
   rename_i hb;cases hd;have hvn:=(s.eval hn).val_inv;obtain⟨loc,ad,hloc,hz,hbase,hs,hv⟩:=(s.eval hx).ptr_inv
   refine Xf.quiet s (val:=.pointer (some ⟨ad.block,ad.off+(i0*loc.esz+(o+j.toNat*inf.size)),none⟩)) (by
    rw [hv,hvn,run_indexAt_array w t _ kk j hu',Y6 (by rw [hlen]; exact hb),hel,Zi hi]
    simp [Addr.add_lit,Y1N]) (.ptr k i0 _ loc ad hloc hz hbase hs)
 . simp at hd
theorem Zeo (s:St' C Fr e h F φ a w) {id:Nat} {t el:TypeId} {n:Nat} {agg:Bool} {size:Nat} (hu:P.underlying t=some (.array n el)) (hlay:X1l P el=some (agg,size))
 {x i:Operand} {p:PV} {h':X2} (hd:X3 (.indexA agg n size x i) e h id=some (p,h')):Xf P C Fr e F φ a w (Instr.index t (a.eval x) (a.eval i)) id p h':=by
 have hsz:(sizeOf el).run P w=.ok size w:=by
  cases agg with
  | true=>obtain⟨d,inf,_,_,hi,rfl⟩:=Z5g hlay; exact Zi hi
  | false=>obtain⟨rfl,d,inf,_,_,hi,h1⟩:=Z2L hlay; rw [<- h1]; exact Zi hi
 simp only [X3] at hd
 split at hd
 . rename_i l k j hx hn
   split at hd
   case isFalse=>simp at hd
   rename_i hb
   split at hd
   . rename_i q hq;cases hd;have hvn:=(s.eval hn).val_inv;obtain⟨vs,hv,h1,h2,h3⟩:=(s.eval hx).agg_inv;obtain⟨val,hr,hrep⟩:=Zie (w:=w) hlay hq h1 h2 h3;exact Xf.quiet s (by simp [Instr.index,Y9 hu,hv,hvn,asIntOf,hb,hsz,hr]) hrep
   . simp at hd
 . simp at hd
theorem Zep (s:St' C Fr e h F φ a w) {id:Nat} {t:TypeId} (hu:P.underlying t=some .string)
 {x i:Operand} {p:PV} {h':X2} (hd:X3 (.indexS x i) e h id=some (p,h')):Xf P C Fr e F φ a w (Instr.index t (a.eval x) (a.eval i)) id p h':=by
 simp only [X3] at hd
 split at hd
 . rename_i str k j hx hn
   split at hd
   case isFalse=>simp at hd
   rename_i hb;cases hd;have hvn:=(s.eval hn).val_inv;have hv:=(s.eval hx).val_inv;have hlt:j.toNat<str.size:=by omega
   refine Xf.quiet s (val:=.int .u8 (str.data.toList.getD j.toNat 0).toNat) ?_ (.val _);have hg:str[j.toNat]?=some str[j.toNat]:=by simp [hlt]
   simp only [Instr.index,Y1a,hvn,asIntOf,Y22,YS,Y9 hu,hv];rw [Y6 hb.1,hg];have:str.data.toList.getD j.toNat 0=str[j.toNat]:=by
    rw [Y0b,Y2f];have h1:j.toNat<str.data.size:=hlt;rw [Y1V h1]
    rfl
   simp only [Y22,YS,this]
 . simp at hd
theorem Zkq (s:St' C Fr e h F φ a w) {id:Nat} {t ty el:TypeId} (hu:P.underlying t=some (.slice el))
 {x:Operand} {p:PV} {h':X2} (hd:X3 (.len x) e h id=some (p,h')):Xf P C Fr e F φ a w (Builtin.len_ #[t] ty #[a.eval x]) id p h':=by
 simp only [X3] at hd
 split at hd
 . rename_i l full hx;cases hd;rcases (s.eval hx).vec_inv with⟨rfl,hv⟩|⟨ad,cap,esz,cs,hv,_⟩
   . exact Xf.quiet s (val:=.int .i64 0) (by simp [Builtin.len_,Y9 hu,hv,goInt]) (.val _)
   . exact Xf.quiet s (val:=.int .i64 l.length) (by simp [Builtin.len_,Y9 hu,hv,goInt]) (.val _)
 . rename_i k hx
   split at hd
   . rename_i b hb;cases hd;obtain⟨loc',h1,hz,hv⟩:=(s.eval hx).own_inv;obtain⟨h2,_⟩:=s.cellAt hb h1 hz;exact Xf.quiet s (val:=.int .i64 b.elems.length) (by simp [Builtin.len_,Y9 hu,hv,goInt,<- h2.len]) (.val _)
   . simp at hd
 . rename_i k lo n hx;cases hd;obtain⟨loc,base,hloc,hz,hcap,hbs,hv⟩:=(s.eval hx).view_inv;exact Xf.quiet s (val:=.int .i64 n) (by simp [Builtin.len_,Y9 hu,hv,goInt]) (.val _)
 . rename_i k i0 o n cap hx;cases hd;obtain⟨loc,ad,hloc,hz,hbase,hs,hl,hv⟩:=(s.eval hx).sl_inv;exact Xf.quiet s (val:=.int .i64 n) (by simp [Builtin.len_,Y9 hu,hv,goInt]) (.val _)
 . simp at hd
theorem Z8a (s:St' C Fr e h F φ a w) {id:Nat} (hid:Fr id) {t el:TypeId} {z:List Value} {n:Nat} {parts:Array (Nat×Operand)} (hu:P.underlying t=some (.slice el)) (hz:XX P el=some z) (hle:n*z.length<=16777216)
 {l:List (List PV)} (hb:X1B e z.length (List.replicate n (zpv z)) parts.toList=some l) :
 ∃ vs':Array Value,(Instr.buildSlice t n (parts.map fun (i,x)=>(i,a.eval x))).run P w=.ok (.slice (some ⟨w.heap.size,0,none⟩) n n) (w.alloc (.cells vs' el))/\X12 F φ z.length vs' l/\l.length=n:=by
 obtain⟨i,v,hi,hv,rfl,h1,hl,hp⟩:=Z12 hz;have hl':i.size=v.cells.size:=by simpa using hl.symm
 obtain⟨vs',hfill,hc,hlen⟩:=ZfR s v.cells.toList.length parts.toList _ _ _ (X12.zero (F:=F) (φ:=φ) h1 n) hb;refine⟨vs',?_,hc,by simpa using hlen⟩;have hfill':Instr.fill (fun j=>some (j*i.size,i.size)) ((Array.range (n*i.size)).map (v.cells[· % v.cells.size]!)) (parts.toList.map fun (i,x)=>(i,a.eval x))=some vs':=by
  rw [<- hfill];simp only [Y43,hl];rw [hl']
 have hnle:¬ (16777216<n*i.size):=by rw [<- hl]; omega
 simp only [Instr.buildSlice,Y1a,Y9 hu,YS,Zi hi,Nat.reducePow];rw [Y8 (by simpa using hnle)];by_cases hn:n*i.size=0
 . rw [Y6 hn];rw [hn] at hfill' ⊢;simp only [Array.range_zero',List.map_toArray,List.map_nil] at hfill';simp [Array.range_zero',hfill',newRow]
 . rw [Y8 hn];simp [ZX hi hv,hfill',newRow]
end
section
variable {P:Program} {C:Ctx} {Fr:Nat->Prop} {e:Env} {h:X2} {F:XL} {φ:XO} {a:Act} {w:World}
theorem St'.allocBlock (s:St' C Fr e h F φ a w) (o:Obj):St' C Fr e h F φ a (w.alloc o):=by
 have hold:∀ k,k<w.heap.size->(w.alloc o).heap[k]?=w.heap[k]?:=fun k hk=>Y4t w _ k hk
 refine { nt := s.nt, glob := s.glob, marks := s.marks.mono (fun k hk => by rw [hold k (YF.1 hk).1]; exact hk), loc0 := s.loc0, free := s.free, env := s.env, froz := fun x v hx => ?_, ext := s.ext, old := s.old, os := s.os, tape := s.tape, output := s.output,
          size:=by have:=s.size; simp; omega,kept:=fun k hk hG=>by rw [hold k (by have:=s.size;omega)]; exact s.kept k hk hG,live:=fun i b hb=>?_,sep:=s.sep }
 . obtain ⟨h1, h2, h3⟩ := s.froz x v hx;exact⟨h1,h2,by rw [Y2h (w:=w) (hold _ (Y3K h3))]; exact h3⟩
 . obtain ⟨loc, h1, h2, h3⟩ := s.live i b hb;exact⟨loc,h1,h2.mono (fun _ _ h=>h) (fun _ _ h=>h) (fun k hk=>hold k (s.has_lt hb h1 hk)),h3⟩
def XS (F:XL) (g:Nat) (cells:Array Value):XL:=fun x =>
 if x.block=g then (if x.spot=none then (match cells[x.off]? with|some v=>if v.oneCell'=true then some v else none|none=>none) else none) else F x
theorem Z28 (F:XL) (g:Nat) (cells:Array Value) {o:Nat} (ho:o<cells.size) (h1:(cells.getD o undef).oneCell'=true):XS F g cells ⟨g,o,none⟩=some (cells.getD o undef):=by
 have hg:cells[o]?=some (cells.getD o undef):=by simp [Array.getD,ho]
 simp only [XS,Y25];rw [hg];simp only [h1,Y25]
theorem Z29 {g:Nat} (hF:∀ x:Addr,x.block=g->F x=none) (cells:Array Value):∀ x v,F x=some v->XS F g cells x=some v:=by
 intro x v hx;have:x.block≠g:=fun e=>by rw [hF x e] at hx; cases hx
 simp [XS,this,hx]
theorem St'.frz (s:St' C Fr e h F φ a w) {g:Nat} {cells:Array Value} {t:TypeId} {fr:Nat×Nat} (hg:w.heap[g]?=some (.cells cells t fr)) (hF:∀ x:Addr,x.block=g->F x=none)
 (hno:∀ i b loc,h i=some b->φ i=some loc->¬ loc.has g) (hown:C.w0.heap.size<=g \/ C.G g):St' C Fr e h (XS F g cells) φ a w:=by
 have hext:=Z29 hF cells
 refine { nt := s.nt, glob := fun g j v hv => hext _ _ (s.glob g j v hv), marks := s.marks, loc0 := s.loc0, free := s.free, env := fun k p hp => ⟨(s.env k p hp).1, (s.env k p hp).2.mono hext fun _ _ h => h⟩, froz := fun x v hx => ?_, ext := fun x v hx => hext _ _ (s.ext x v hx), old := fun x hx hG => ?_,
          os:=s.os,tape:=s.tape,output:=s.output,size:=s.size,kept:=s.kept,live:=fun i b hb=>?_,sep:=s.sep }
 . by_cases hb : x.block = g
   . simp only [XS, hb, Y25] at hx
     split at hx
     case isFalse=>cases hx
     rename_i hs
     split at hx
     case h_2=>cases hx
     rename_i u hu
     split at hx
     case isFalse=>cases hx
     rename_i h1;cases hx;refine⟨hs,h1,?_⟩;rw [Z5f x hs,hb,cell_of_row w g _ cells t fr hg];exact hu
   . simp only [XS, hb, Y26] at hx;exact s.froz x v hx
 . have : x.block ≠ g := by
    rintro rfl;rcases hown with h' | h'
    . omega
    . exact hG h'
   simp only [XS,this,Y26];exact s.old x hx hG
 . obtain ⟨loc, h1, h2, h3⟩ := s.live i b hb;refine⟨loc,h1,h2.mono hext (fun _ _ h=>h) (fun _ _=>rfl),fun k hk=>⟨(h3 k hk).1,fun x hx=>?_⟩⟩;have:x.block≠g:=by rintro rfl; subst hx; exact hno i b loc hb h1 hk
   simp only [XS,this,Y26];exact (h3 k hk).2 x hx
theorem St'.allocFrz (s:St' C Fr e h F φ a w) (cells:Array Value) (t:TypeId):St' C Fr e h (XS F w.heap.size cells) φ a (w.alloc (.cells cells t))/\∀ x v,F x=some v->XS F w.heap.size cells x=some v:=by
 have hF:∀ x:Addr,x.block=w.heap.size->F x=none:=fun x hx=>by
  cases hFx:F x with
  | none=>rfl
  | some v=>have:=s.lt hFx; omega
 refine⟨(s.allocBlock (.cells cells t)).frz (Y3v w _) hF (fun i b loc hb hl hk=>?_) (.inl s.size),Z29 hF cells⟩;have:=s.has_lt hb hl hk;omega
theorem Rep.frozVec {vs:Array Value} {esz:Nat} {l:List (List PV)} (hc:X12 F φ esz vs l) (g:Nat) (hF:∀ x v,F x=some v->XS F g vs x=some v) {cap:Nat} (hcap:l.length<=cap) {full:Bool} (hfull:full=true->cap=l.length) (hmax:l.length<=Xj) :
 Rep (XS F g vs) φ (.slice (some ⟨g,0,none⟩) l.length cap) (.vec l full):=by
 refine .vec ⟨g,0,none⟩ cap esz l full (fun i j=>vs.getD (i*esz+j) undef) (fun _=>rfl) hcap hfull hmax hc.el (fun i j hi hj=>?_) (fun i j hi hj=>(hc.rep i j hi hj).2.mono hF fun _ _ h=>h);simp only [Y15];exact Z28 F g vs (by rw [hc.size]; exact Z2r hi hj) (hc.rep i j hi hj).1
theorem Rep.frozCp {vs:Array Value} {l:List PV} (hc:X21 F φ vs l) (g:Nat) (hF:∀ x v,F x=some v->XS F g vs x=some v):Rep (XS F g vs) φ (.pointer (some ⟨g,0,none⟩)) (.cp l):=by
 refine .cp ⟨g,0,none⟩ l (fun j=>vs.getD j undef) rfl (fun j hj=>?_) (fun j hj=>(hc.2 j hj).2.mono hF fun _ _ h=>h);simp only [Y15];exact Z28 F g vs (by rw [hc.1]; exact hj) (hc.2 j hj).1
theorem Zeq (s:St' C Fr e h F φ a w) (id:Nat) {t:TypeId} {z:List Value} (hz:XX P t=some z) (old:Value):Xf P C Fr e F φ a w (Instr.alloc t true old) id (.cp (zpv z)) h:=by
 obtain⟨i,v,hi,hv,rfl,h1,hl,hp⟩:=Z12 hz;obtain⟨s',hx⟩:=s.allocFrz v.cells t;exact⟨_,_,_,φ,by simp [Instr.alloc,ZX hi hv,Go.newVar,newRow],s'.weaken fun _ h=>h.1,Rep.frozCp (X21.zero h1) _ hx⟩
theorem Zih (s:St' C Fr e h F φ a w) (id:Nat) {t:TypeId} {v:Value} {p:PV} (hv:Rep F φ v p) (hf:p.flat=true):Xf P C Fr e F φ a w (Instr.box t v) id (.cp p.cells) h:=by
 obtain⟨s',hx⟩:=s.allocFrz v.cells t;exact⟨_,_,_,φ,by simp [Instr.box,Go.newVar,newRow],s'.weaken fun _ h=>h.1,Rep.frozCp (hv.cellsOf hf) _ hx⟩
theorem Zbr (s:St' C Fr e h F φ a w) {id:Nat} (hid:Fr id) {t el:TypeId} {z:List Value} {n:Nat} {parts:Array (Nat×Operand)} (hu:P.underlying t=some (.slice el)) (hz:XX P el=some z) (hle:n*z.length<=16777216)
 {l:List (List PV)} (hb:X1B e z.length (List.replicate n (zpv z)) parts.toList=some l):Xf P C Fr e F φ a w (Instr.buildSlice t n (parts.map fun (i,x)=>(i,a.eval x))) id (.vec l true) h:=by
 obtain⟨vs',hr,hc,hl⟩:=Z8a s hid hu hz hle hb;obtain⟨s',hx⟩:=s.allocFrz vs' el;obtain⟨_,_,_,_,_,_,_,hp⟩:=Z12 hz;have hn:n<=16777216:=Y03 (Y3F _ hp) hle;have:=Rep.frozVec hc w.heap.size hx (cap:=n) (full:=true) (by omega) (fun _=>hl.symm) (by simp [Xj];omega);rw [hl] at this;exact⟨_,_,_,φ,hr,s'.weaken fun _ h=>h.1,this⟩
theorem Zbs (s:St' C Fr e h F φ a w) {id:Nat} (hid:Fr id) {t el:TypeId} {z:List Value} {n:Nat} {parts:Array (Nat×Operand)} (hu:P.underlying t=some (.slice el)) (hz:XX P el=some z) (hle:n*z.length<=16777216)
 {l:List (List PV)} (hb:X1B e z.length (List.replicate n (zpv z)) parts.toList=some l):Xf P C Fr e F φ a w (Instr.buildSlice t n (parts.map fun (i,x)=>(i,a.eval x))) id (.own id) (h.upd id ⟨z.length,l⟩):=by
 obtain⟨vs',hr,hc,hl⟩:=Z8a s hid hu hz hle hb;obtain⟨_,_,_,_,_,_,_,hp⟩:=Z12 hz;have hn:n<=16777216:=Y03 (Y3F _ hp) hle;refine⟨_,_,F,_,hr,St'.made <| s.alloc hid vs' el z.length n n l hp hl (Y0m _) (by simp [Xj];omega) (fun c hc'=>?_) (by rw [hc.size,hl]; exact Y0m _) (fun i j hi hj=>hc.rep i j (by omega) hj),?_⟩
 . obtain ⟨k, hk, rfl⟩ := Y1d hc';have:=hc.el k hk;simpa [Y0b,hk] using this
 . exact .own id ⟨some ⟨w.heap.size,0,none⟩,z.length,n,n⟩ (by simp [X8]) (Z12 hz).choose_spec.choose_spec.2.2.2.2.2
theorem Z3t (cur:Array Value) (o:Nat) (vs:List Value) (hle:o+vs.length<=cur.size) (i:Nat):(cur.toList.take o++vs++cur.toList.drop (o+vs.length)).toArray.getD i undef=if o<=i/\i<o+vs.length then vs.getD (i-o) undef else cur.getD i undef:=by
 have hm:min o cur.size=o:=by omega
 simp only [Y0d,List.getElem?_toArray,YT,Y0b];by_cases h1:i<o
 . rw [Y8 (by omega),YO (by simp;omega),Y1l,Y6 h1,Y2f]
 . rw [YL (by simp; omega)];simp only [Y0o,Y2u,hm];by_cases h2:i<o+vs.length
   . rw [Y6 (by omega),YO (by omega)]
   . rw [Y8 (by omega), YL (by omega), Y1B, Y2f];congr 2;omega
theorem ZfV (s:St' C Fr e h F φ a w) {id:Nat} {t:TypeId} {agg:Bool} {size:Nat} (hlay:X1l P t=some (agg,size)) {x y:Operand} {p:PV} {h':X2} (hd:X3 (.store size x y) e h id=some (p,h')) :
 p=pvu/\∃ w',(Instr.storeAt t (a.eval x) (a.eval y)).run P w=.ok () w'/\St' C Fr e h' F φ a w':=by
 have hsize:(sizeOf t).run P w=.ok size w:=by
  cases agg with
  | true=>obtain⟨d,inf,_,_,hi,rfl⟩:=Z5g hlay; exact Zi hi
  | false=>obtain⟨rfl,d,inf,_,_,hi,h1⟩:=Z2L hlay; rw [<- h1]; exact Zi hi
 simp only [X3] at hd
 split at hd
 case h_2=>simp at hd
 rename_i k i off q hx hy
 split at hd
 case h_2=>simp at hd
 rename_i b hb
 split at hd
 case isFalse=>simp at hd
 rename_i hcond;simp only [Y0k,Y1S,Y0n] at hcond;obtain⟨⟨⟨hflat,hsz⟩,hi⟩,hoff⟩:=hcond;cases hd;refine⟨rfl,?_⟩;obtain⟨hc1,hc2⟩:=(s.eval hy).cellsOf hflat;obtain⟨loc',ad,h1,hz,hbase,hs,hv⟩:=(s.eval hx).ptr_inv;obtain⟨h2,h3⟩:=s.cellAt hb h1 hz;have hilen:i<loc'.len:=by rw [<- h2.len]; exact hi
 have hcapne:loc'.cap≠0:=by have:=h2.cap; omega
 obtain⟨ad',hbase',_,cells,ct,hg,hroom,hrep⟩:=h2.room hcapne;obtain rfl:ad'=ad:=by rw [hbase] at hbase'; simpa using hbase'.symm
 have hesz:b.esz=loc'.esz:=h2.esz;have hcl:(b.elems.getD i []).length=loc'.esz:=h2.el _ (by simp [Y0b,hi]);have hpos:ad'.off+(i*loc'.esz+off)+(a.eval y).cells.toList.length<=cells.size:=by
  have:=Z2r (esz:=loc'.esz) (j:=loc'.esz-1) (YY hilen h2.cap) (by have:=h2.pos;omega);have hl:(a.eval y).cells.toList.length=size:=by rw [<- hsz]; simpa using hc1
  have:=h2.pos;omega
 have hlen:(a.eval y).cells.toList.length=size:=by rw [<- hsz]; simpa using hc1
 have hst:=Y3z P ad'.block (ad'.off+(i*loc'.esz+off)) ct (a.eval y).cells.toList 0 cells w hg (by simpa using hpos) (fun v hv=>by
  obtain⟨j,hj,rfl⟩:=Y1d hv;have:=(hc2 j (by rw [hsz,<- hlen]; exact hj)).1;have hj':j<(a.eval y).cells.size:=by simpa using hj
  simpa [Array.getD,hj'] using this)
 simp only [Y1k] at hst;generalize hw:w.setRow ad'.block _=w' at hst;refine⟨w',by simp [Instr.storeAt,hv,Instr.sureAddr,storeVar,hsize,hc1,hsz,hst],?_⟩;subst hw;have hkey:h.upd k ⟨b.esz,b.elems.set i (Xl (b.elems.getD i []) off q.cells)⟩=(h.del k).upd k ⟨b.esz,b.elems.set i (Xl (b.elems.getD i []) off q.cells)⟩:=(X2.del_upd h k _).symm;rw [hkey];have hhas:loc'.has ad'.block:=⟨hcapne,ad',hbase,rfl⟩
 refine (s.sub (fun _ _ h=>h) (fun _ _ hh=>(X2.del_some hh).2)).adopt (loc':=loc') (φ':=φ) hg (h3 _ hhas).1 (h3 _ hhas).2 (s.del_no hb h1 hhas) h1 (fun _ _ h=>h) (fun _ _=>rfl) s.free (fun k' hk'=>?_) ?_
 . obtain ⟨_, y', hy', rfl⟩ := hk';rw [hbase] at hy';cases hy'
   rfl
 . refine ⟨hesz, h2.pos, by simpa using h2.len, h2.cap, h2.max, fun c hc => ?_, fun _ => ⟨ad', hbase, hs, _, ct, Y44 w _ cells _ ct _ hg, ?_, fun i' j' hi' hj' => ?_⟩⟩
   . obtain ⟨k', hk', rfl⟩ := Y1d hc;have hk2:k'<b.elems.length:=by simpa using hk'
     by_cases he:i=k'
     . subst he;simp only [List.getElem_set_self];rw [Z2Z _ _ _ (by rw [hsz,hcl];omega),hcl]
     . simp only [List.getElem_set_ne he];exact h2.el _ (Y0j hk2)
   . simp only [Y35,Y0e,Y0o,YV,Y2u]; omega
   . rw [Z3t _ _ _ hpos, hlen];by_cases he:i'=i
     . subst he;have hset:(b.elems.set i' (Xl (b.elems.getD i' []) off q.cells)).getD i' []=Xl (b.elems.getD i' []) off q.cells:=by simp [Y0b,hi]
       rw [hset,Z5V _ _ _ (by rw [hsz,hcl];omega),hsz];by_cases hr:off<=j'/\j'<off+size
       . rw [Y6 (by omega), Y6 hr, Z1P, show ad'.off + (i' * loc'.esz + j') - (ad'.off + (i' * loc'.esz + off)) = j' - off by omega];exact hc2 _ (by omega)
       . rw [Y8 (by omega), Y8 hr];exact hrep i' j' hi' hj'
     . have hset : (b.elems.set i (Xl (b.elems.getD i []) off q.cells)).getD i' [] = b.elems.getD i' [] := by simp [Y0b, Y1p, Y2L he]
       have hout:=Zbq (k:=i) hj' he;rw [hset,Y8 (by omega)];exact hrep i' j' hi' hj'
end
section
variable {P:Program} {C:Ctx} {Fr:Nat->Prop} {e:Env} {h:X2} {F:XL} {φ:XO} {a:Act} {w:World}
theorem Z2G (s:St' C Fr e h F φ a w) {x:Operand} {n:Int} (hx:X1O (ev e x)=some n):∃ k,a.eval x=.int k n:=by
 unfold X1O at hx
 split at hx
 . rename_i k m hm;cases hx;exact⟨k,(s.eval hm).val_inv⟩
 . simp at hx
theorem Zer (s:St' C Fr e h F φ a w) {id:Nat} (hid:Fr id) {t el:TypeId} {z:List Value} {i:TypeInfo} (hu:P.underlying t=some (.slice el)) (hz:XX P el=some z) (hi:P.info? el=some i) (hby:0<i.bytes)
 {x y:Operand} {p:PV} {h':X2} (hd:X3 (.mslice z i.bytes x y) e h id=some (p,h')):Xf P C Fr e F φ a w (Instr.makeSlice t (a.eval x) (a.eval y)) id p h':=by
 simp only [X3] at hd
 split at hd
 case h_2=>simp at hd
 rename_i n m hn hm
 split at hd
 case isFalse=>simp at hd
 rename_i hb;cases hd;obtain⟨kn,hvn⟩:=Z2G s hn;obtain⟨km,hvm⟩:=Z2G s hm;obtain⟨i',v,hi',hv,rfl,h1,hl,hp⟩:=Z12 hz;obtain rfl:i'=i:=by rw [hi'] at hi; simpa using hi
 have hm48:m<=281474976710656:=by
  have h2:(1:Int)*m<=(i'.bytes:Int)*m:=Y4n (by omega) (by omega);omega
 have hr:=run_make (P:=P) w t el i' v hu hi' hv kn km n m hb.1 hb.2.1 hb.2.2 (by omega);have hc:=X12.zero (F:=F) (φ:=φ) h1 m.toNat;have hmade:madeCells v.cells (m.toNat*i'.size)=(Array.range (m.toNat*v.cells.toList.length)).map (v.cells.toList.toArray[· % v.cells.toList.length]!):=by
  rw [hl,Y43];have:i'.size=v.cells.size:=by rw [<- hl]; simp
  rw [this]
  rfl
 rw [<- hmade] at hc;refine⟨_,_,F,_,by rw [hvn,hvm]; exact hr,St'.made <| s.alloc hid _ el v.cells.toList.length n.toNat m.toNat _ hp (by simp) (by omega) (by simp [Xj];omega) (fun c hc'=>?_) ?_ (fun j k hj hk=>?_),?_⟩
 . obtain rfl := Y1q hc';simp [zpv]
 . rw [hc.size]; simp
 . have := hc.rep j k (by simp; omega) hk;have e1:(List.replicate m.toNat (zpv v.cells.toList)).getD j []=(List.replicate n.toNat (zpv v.cells.toList)).getD j []:=by
    have:j<m.toNat:=by omega
    simp [Y0b,hj,this]
   rw [e1] at this;exact this
 . exact .own id ⟨some ⟨w.heap.size,0,none⟩,v.cells.toList.length,n.toNat,m.toNat⟩ (by simp [X8]) hp
theorem Zbt (s:St' C Fr e h F φ a w) {id:Nat} (hid:Fr id) {t el:TypeId} {z:List Value} {i:TypeInfo} (hu:P.underlying t=some (.slice el)) (hz:XX P el=some z) (hi:P.info? el=some i) (hby:0<i.bytes)
 {x y:Operand} {p:PV} {h':X2} (hd:XH (.mslice z i.bytes x y) e h id=some (p,h')):Xf P C Fr e F φ a w (Instr.makeSlice t (a.eval x) (a.eval y)) id p h':=by
 simp only [XH] at hd
 split at hd
 case h_2=>simp at hd
 rename_i n m hn hm
 split at hd
 case isFalse=>simp at hd
 rename_i hb;obtain⟨hb1,rfl,hb3⟩:=hb;cases hd;obtain⟨kn,hvn⟩:=Z2G s hn;obtain⟨km,hvm⟩:=Z2G s hm;obtain⟨i',v,hi',hv,rfl,h1,hl,hp⟩:=Z12 hz;obtain rfl:i'=i:=by rw [hi'] at hi; simpa using hi
 have hm48:n<=281474976710656:=by
  have h2:(1:Int)*n<=(i'.bytes:Int)*n:=Y4n (by omega) (by omega);omega
 have hr:=run_make (P:=P) w t el i' v hu hi' hv kn km n n hb1 (Int.le_refl n) hb3 (by omega);have hc:=X12.zero (F:=F) (φ:=φ) h1 n.toNat;have hmade:madeCells v.cells (n.toNat*i'.size)=(Array.range (n.toNat*v.cells.toList.length)).map (v.cells.toList.toArray[· % v.cells.toList.length]!):=by
  rw [hl,Y43];have:i'.size=v.cells.size:=by rw [<- hl]; simp
  rw [this]
  rfl
 rw [<- hmade] at hc;obtain⟨s',hx⟩:=s.allocFrz (madeCells v.cells (n.toNat*i'.size)) el;have hln:(List.replicate n.toNat (zpv v.cells.toList)).length=n.toNat:=by simp
 have:=Rep.frozVec hc w.heap.size hx (cap:=n.toNat) (full:=true) (by omega) (fun _=>hln.symm) (by rw [hln]; simp [Xj];omega);rw [hln] at this;exact⟨_,_,_,φ,by rw [hvn,hvm]; exact hr,s'.weaken fun _ h=>h.1,this⟩
theorem Z4u (s:St' C Fr e h F φ a w) {d:Int} {x:Option Operand} {n:Int} (hx:XM e d x=some n):(x=none/\n=d) \/ ∃ k y,x=some y/\a.eval y=.int k n:=by
 cases x with
 | none=>exact .inl ⟨rfl,by simpa [XM] using hx.symm⟩
 | some y =>
   obtain⟨k,hk⟩:=Z2G s (x:=y) (by simpa [XM] using hx);exact .inr ⟨k,y,rfl,hk⟩
theorem Rep.cut {l:List (List PV)} {full:Bool} {v:Value} (hv:Rep F φ v (.vec l full)) {lo hi:Nat} (h1:lo<=hi) (h2:hi<=l.length) {esz:Nat} (hesz:l = [] \/ ∀ c∈l,c.length=esz) :
 ∃ base len cap,v=.slice base len cap/\len=l.length/\l.length<=cap/\∀ m,hi<=m->m<=cap->∀ b:Bool,(b=true->m=hi)->Rep F φ (sliced base lo hi m esz) (.vec ((l.take hi).drop lo) b):=by
 rcases hv.vec_inv with⟨rfl,rfl⟩|⟨ad,cap,esz',cs,rfl,hs,hcap,_,hmax,he,hF,hR⟩
 . refine ⟨none, 0, 0, rfl, rfl, Y0m _, fun m hm1 hm2 b hb => ?_⟩;obtain rfl:hi=0:=by simpa using h2
   obtain rfl:m=0:=by omega
   obtain rfl:lo=0:=by omega
   simpa [sliced] using Rep.vecnil b
 . refine ⟨some ad, l.length, cap, rfl, rfl, hcap, fun m hm1 hm2 b hb => ?_⟩;have hlen:((l.take hi).drop lo).length=hi-lo:=by simp; omega
   by_cases hml:m=lo
   . have : hi = lo := by omega
     subst this;subst hml;have e1:(l.take m).drop m = []:=YP (by omega);rw [e1];simp only [sliced,Y25,Y1W];exact Rep.vec (F:=F) (φ:=φ) ad 0 0 [] b cs (fun h=>absurd rfl h) (Y0m _) (fun _=>rfl) (by simp) (by simp) (by simp) (by simp)
   . by_cases hl0 : l = []
     . subst hl0;obtain rfl:hi=0:=by simpa using h2
       obtain rfl:lo=0:=by omega
       simp only [sliced,Y8 hml,Y1i,List.take_nil,List.drop_nil];exact Rep.vec (F:=F) (φ:=φ) _ (m-0) 0 [] b cs (fun h=>absurd rfl h) (Y0l _) (fun hb'=>by have:=hb hb'; simp;omega) (by simp) (by simp) (by simp) (by simp)
     have hspot:ad.add (lo*esz)=⟨ad.block,ad.off+lo*esz,none⟩:=ZZ _ _ (hs hl0);simp only [sliced,Y8 hml,Y1i,hspot];rw [<- hlen];refine Rep.vec (F:=F) (φ:=φ) _ (m-lo) esz _ b (fun i j=>cs (lo+i) j) (fun _=>rfl) (by rw [hlen];omega) (fun hb'=>by rw [hlen]; have:=hb hb';omega) (by rw [hlen];omega) (fun i hi'=>?_) (fun i j hi' hj=>?_) (fun i j hi' hj=>?_)
     all_goals
      rw [hlen] at hi';have hne:l≠[]:=by rintro rfl; simp at h2; omega
      have hall:=hesz.resolve_left hne;have hget:((l.take hi).drop lo).getD i []=l.getD (lo+i) []:=by
       simp only [Y0b,Y1B,Y1l];rw [Y6 (by omega)]
      have hlt:lo+i<l.length:=by omega
      have hesz':esz'=esz:=by
       rw [<- he (lo+i) hlt];exact hall _ (by simp [Y0b,hlt])
      subst hesz'
     . rw [hget]; exact he _ hlt
     . have := hF (lo + i) j hlt hj;rw [Y1t] at this;simpa [Y1N] using this
     . rw [hget]; exact hR _ _ hlt hj
theorem Z2a (s:St' C Fr e h F φ a w) {len cap:Nat} {lo hi:Option Operand} {A B:Int} (hlo:XM e 0 lo=some A) (hhi:XM e len hi=some B) (h0:0<=A) (h1:A<=B) (h2:B<=(len:Int)) (hc:len<=cap) :
 (Instr.sliceBounds true len cap (lo.map a.eval) (hi.map a.eval) none).run P w=.ok (A.toNat,B.toNat,cap) w:=by
 have hB:(B.toNat:Int)=B:=Y48 (by omega);rcases Z4u s hlo with⟨rfl,rfl⟩|⟨kl,x,rfl,hx⟩<;>rcases Z4u s hhi with⟨rfl,rfl⟩|⟨kh,y,rfl,hy⟩
 . simp [Instr.sliceBounds]
 . simp [Instr.sliceBounds,hy,Y2g w kh B cap .sliceAcap (by omega) (by omega)]
 . simp [Instr.sliceBounds,hx,Y2g w kl A len .sliceB (by omega) (by omega)]
 . simp [Instr.sliceBounds,hx,hy,Y2g w kh B cap .sliceAcap (by omega) (by omega),Y2g w kl A B.toNat .sliceB (by omega) (by omega)]
theorem Zbu (s:St' C Fr e h F φ a w) {len cap:Nat} {lo hi:Option Operand} {z:Operand} {A B M:Int} (hlo:XM e 0 lo=some A) (hhi:XM e len hi=some B) (hs:hi.isSome=true) (hm:X1O (ev e z)=some M) (h0:0<=A) (h1:A<=B) (h2:B<=M) (hc:M<=(cap:Int)) :
 (Instr.sliceBounds true len cap (lo.map a.eval) (hi.map a.eval) (some (a.eval z))).run P w=.ok (A.toNat,B.toNat,M.toNat) w:=by
 have hB:(B.toNat:Int)=B:=Y48 (by omega);have hM:(M.toNat:Int)=M:=Y48 (by omega);obtain⟨km,hz⟩:=Z2G s hm;rcases Z4u s hhi with⟨rfl,rfl⟩|⟨kh,y,rfl,hy⟩
 . simp at hs
 rcases Z4u s hlo with⟨rfl,rfl⟩|⟨kl,x,rfl,hx⟩
 . simp [Instr.sliceBounds,hz,hy,Y2g w km M cap .slice3Acap (by omega) (by omega),Y2g w kh B M.toNat .slice3B (by omega) (by omega)]
 . simp [Instr.sliceBounds,hz,hy,hx,Y2g w km M cap .slice3Acap (by omega) (by omega),Y2g w kh B M.toNat .slice3B (by omega) (by omega),Y2g w kl A B.toNat .slice3C (by omega) (by omega)]
theorem Zkr (s:St' C Fr e h F φ a w) {id:Nat} (hid:Fr id) {t el:TypeId} {inf:TypeInfo} (hu:P.underlying t=some (.slice el)) (hi:P.info? el=some inf)
 {x:Operand} {lo hi' mx:Option Operand} {p:PV} {h':X2} (hd:X3 (.slc inf.size x lo hi' mx) e h id=some (p,h')):Xf P C Fr e F φ a w (Instr.sliceAt t (a.eval x) (lo.map a.eval) (hi'.map a.eval) (mx.map a.eval)) id p h':=by
 have hel:P.elem t=el:=by simp [Program.elem,hu]
 have hu':P.underlying t=some (.slice (P.elem t)):=by rw [hel]; exact hu
 simp only [X3] at hd
 split at hd
 case h_3=>simp at hd
 . rename_i l full hx
   split at hd
   case h_2=>simp at hd
   rename_i A B hA hB
   split at hd
   . split at hd
     case isFalse=>simp at hd
     rename_i hb;cases hd;obtain⟨base,len,cap,hv,hlen,hcap,hrep⟩:=(s.eval hx).cut (lo:=A.toNat) (hi:=B.toNat) (by omega) (by omega) (.inr hb.2);subst hlen;refine Xf.quiet s ?_ (hrep cap (by omega) (Y0m _) false (by simp));rw [hv,Y2k w t _ _ _ _ hu',Y2W w t base l.length cap hu',Option.map_none,Z2a s hA hB hb.1.1 hb.1.2.1 hb.1.2.2 hcap];simp [hel,Zi hi]
   . rename_i m
     split at hd
     case h_2=>simp at hd
     rename_i c y hm
     split at hd
     case isFalse=>simp at hd
     rename_i hb;cases hd;obtain⟨base,len,cap,hv,hlen,hcap,hrep⟩:=(s.eval hx).cut (lo:=A.toNat) (hi:=B.toNat) (by omega) (by omega) (.inr hb.2);subst hlen;have hflag:(B == c)=true->c.toNat=B.toNat:=fun hbc=>by
      have:B=c:=by simpa using hbc
      rw [this]
     refine Xf.quiet s ?_ (hrep c.toNat (by omega) (by omega) (B == c) hflag);have hbs:=Zbu (P:=P) (cap:=cap) s hA hB rfl hm hb.1.1 hb.1.2.1 hb.1.2.2.1 (by omega);rw [hv,Y2k w t _ _ _ _ hu',Y2W w t base l.length cap hu',Y1i (a:=m),hbs];simp [hel,Zi hi]
 . rename_i k hx
   split at hd
   case h_2=>simp at hd
   rename_i b hb
   split at hd
   case h_2=>simp at hd
   rename_i A B hA hB
   split at hd
   case h_2=>simp at hd
   split at hd
   case isFalse=>simp at hd
   rename_i hbd;cases hd;obtain⟨loc',h1,hz,hv⟩:=(s.eval hx).own_inv;obtain⟨h2,h3⟩:=s.cellAt hb h1 hz;have hlen:=h2.len;have hkey:(fun j=>bif Nat.beq j id then some (⟨b.esz,(b.elems.take B.toNat).drop A.toNat⟩:Bx) else bif Nat.beq j k then none else h j)=(h.del k).upd id ⟨b.esz,(b.elems.take B.toNat).drop A.toNat⟩:=rfl;rw [hkey];have hne:id≠k:=fun e=>by subst e; rw [s.free _ hid] at h1; cases h1
   have hrun:(Instr.sliceAt t (a.eval x) (lo.map a.eval) (hi'.map a.eval) (none:Option Value)).run P w=.ok (sliced loc'.base A.toNat B.toNat loc'.cap inf.size) w:=by
    rw [hv,Y2k w t _ _ _ _ hu',Y2W w t loc'.base loc'.len loc'.cap hu',Z2a s (by exact hA) (by rw [<- hlen]; exact hB) hbd.1.1 hbd.1.2.1 (by rw [<- hlen]; exact hbd.1.2.2) h2.cap];simp [hel,Zi hi]
   have hesz:inf.size=loc'.esz:=by rw [<- h2.esz]; exact hbd.2.symm
   have s1:St' C Fr e (h.del k) F φ a w:=s.sub (fun _ _ h=>h) (fun _ _ hh=>(X2.del_some hh).2);have hcap:=h2.cap;by_cases hc0:loc'.cap=A.toNat
   . -- nothing is left
     have hB0:B.toNat=A.toNat:=by omega
     have he0:(b.elems.take B.toNat).drop A.toNat = []:=YP (by simp;omega);rw [he0,h2.esz];refine⟨_,w,F,_,hrun,(s1.allocNil hid loc'.base loc'.esz h2.pos).made,?_⟩;simp only [sliced,hc0,Y25,hB0,Y1W];exact .own id ⟨loc'.base,loc'.esz,0,0⟩ (by simp [X8]) hz
   . have hcne : loc'.cap ≠ 0 := by omega
     obtain⟨ad,hbase,hs,cells,ct,hg,hroom,hrep⟩:=h2.room hcne;have hhas:loc'.has ad.block:=⟨hcne,ad,hbase,rfl⟩
     have hadd:ad.add (A.toNat*loc'.esz)=⟨ad.block,ad.off+A.toNat*loc'.esz,none⟩:=ZZ _ _ hs
     let locN:Loc:=⟨some ⟨ad.block,ad.off+A.toNat*loc'.esz,none⟩,loc'.esz,B.toNat-A.toNat,loc'.cap-A.toNat⟩
     have hs2:=s1.adopt (id:=id) (loc':=locN) (b':=⟨b.esz,(b.elems.take B.toNat).drop A.toNat⟩) (φ':=X8 φ id locN) (Fr':=fun i=>Fr i/\i≠id) (cur':=cells) hg (h3 _ hhas).1 (h3 _ hhas).2 (s.del_no hb h1 hhas) (by simp [X8]) (Z1b (s.free id hid) locN) (fun i hi=>by simp [X8,hi])
      (fun i hi => by simp [X8, hi.2, s.free i hi.1]) (fun k' hk' => by obtain ⟨_, y, hy, rfl⟩ := hk'; simp only [locN] at hy; cases hy; rfl) (by
        rw [setRow_self w ad.block cells ct (0,0) hg];refine⟨h2.esz,h2.pos,by simp [locN]; omega,by simp only [locN]; omega,by have:=h2.max; simp only [locN]; omega,fun c hc=>h2.el c ?_,fun _=>⟨_,rfl,rfl,cells,ct,hg,?_,fun i j hi hj=>?_⟩⟩
        . exact YM (Y1j hc)
        . simp only [locN];have:(A.toNat+(loc'.cap-A.toNat))*loc'.esz=A.toNat*loc'.esz+(loc'.cap-A.toNat)*loc'.esz:=Y1t _ _ _;rw [show A.toNat+(loc'.cap-A.toNat)=loc'.cap by omega] at this;omega
        . simp only [locN] at hi hj ⊢;have hget:((b.elems.take B.toNat).drop A.toNat).getD i []=b.elems.getD (A.toNat+i) []:=by
           simp only [Y0b,Y1B,Y1l];rw [Y6 (by omega)]
          have hr:=hrep (A.toNat+i) j (by omega) hj;rw [Y1t] at hr;rw [hget,show ad.off+A.toNat*loc'.esz+(i*loc'.esz+j)=ad.off+(A.toNat*loc'.esz+i*loc'.esz+j) by omega]
          exact⟨hr.1,hr.2.mono (fun _ _ h=>h) (Z1b (s.free id hid) locN)⟩)
     rw [setRow_self w ad.block cells ct (0,0) hg] at hs2;refine⟨_,w,F,_,hrun,hs2.made,?_⟩;simp only [sliced,Y8 hc0,hbase,Y1i,hesz,hadd];exact .own id locN (by simp [X8]) hz
theorem X2J (s:St' C Fr e h F φ a w) {v:Value} {m:List (List PV)} {full:Bool} (hv:Rep F φ v (.vec m full)) {esz:Nat} (hm:∀ c∈m,c.length=esz) {n:Nat} (hn:n<=m.length) :
 ∃ base cap,∃ news:List Value,v=.slice base m.length cap/\(Builtin.firstCells esz n v).run P w=.ok news.toArray w/\news.length=n*esz/\∀ i j,i<n->j<esz->(news.toArray.getD (i*esz+j) undef).oneCell'=true/\Rep F φ (news.toArray.getD (i*esz+j) undef) ((m.getD i []).getD j pvu):=by
 have hel:∀ i,i<m.length->(m.getD i []).length=esz:=fun i hi=>hm _ (by simp [Y0b,hi]);rcases hv.vec_inv with⟨rfl,rfl⟩|⟨ad,cap,esz',cs,rfl,hs,hcap,_,hmax,he,hF,hR⟩
 . have h0 : n = 0 := by simpa using hn
   subst h0;exact⟨none,0,[],rfl,by simp [Builtin.firstCells],by simp,fun i j hi=>by omega⟩
 . have hesz : ∀ i, i < m.length -> esz' = esz := fun i hi => by rw [<- he i hi]; exact hel i hi
   have hpos:∀ k,k<n*esz->0<esz/\k / esz<n/\k % esz<esz:=fun k hk=>by
    have h0:0<esz:=by
     rcases Nat.eq_zero_or_pos esz with h|h
     . subst h; simp at hk
     . exact h
    exact⟨h0,Y42 (by rw [Y24]; exact hk),Y1F _ h0⟩
   have hF':∀ k,k<n*esz->F ⟨ad.block,ad.off+k,none⟩=some (cs (k / esz) (k % esz)):=fun k hk=>by
    obtain⟨h0,h1,h2⟩:=hpos k hk;have h3:k / esz<m.length:=YY h1 hn;have:=hF (k / esz) (k % esz) h3 (by rw [hesz _ h3]; exact h2);rw [hesz (k / esz) h3] at this;have hk':k / esz*esz+k % esz=k:=Y4r k esz
    rwa [hk'] at this
   refine⟨some ad,cap,(List.range (n*esz)).map fun k=>cs (k / esz) (k % esz),rfl,?_,by simp,fun i j hi hj=>?_⟩
   . refine Y45 (P := P) w esz n ad m.length cap _ (by simp) (fun j v hj => ?_);have hj':j<n*esz:=by have:=(Y7.1 hj).1; simpa using this
     have hv:cs (j / esz) (j % esz)=v:=by simpa [hj'] using hj
     have hne:m≠[]:=by
      rintro rfl;have h0:n=0:=by simpa using hn
      subst h0;simp at hj'
     rw [ZZ _ _ (hs hne),<- hv];exact (s.froz _ _ (hF' j hj')).2.2
   . have hlt := Z2r hi hj;have e1:(i*esz+j) / esz=i:=by rw [Nat.add_comm,Nat.add_mul_div_right _ _ (by omega),Y2a hj]; omega
     have e2:(i*esz+j) % esz=j:=by rw [Nat.add_comm,Y4F,Y1v hj]
     have hget:((List.range (n*esz)).map fun k=>cs (k / esz) (k % esz)).toArray.getD (i*esz+j) undef=cs i j:=by
      rw [Z4t _ _ _ hlt,e1,e2]
     rw [hget];have hj2:j<esz':=by rw [hesz i (by omega)]; exact hj
     exact⟨(s.froz _ _ (hF i j (by omega) hj2)).2.1,hR i j (by omega) hj2⟩
theorem X29 (s:St' C Fr e h F φ a w) {v:Value} {m:List (List PV)} {full:Bool} (hv:Rep F φ v (.vec m full)) {esz:Nat} (hm:∀ c∈m,c.length=esz) :
 ∃ base cap,∃ news:List Value,v=.slice base m.length cap/\(Builtin.firstCells esz m.length v).run P w=.ok news.toArray w/\X12 F φ esz news.toArray m:=by
 obtain⟨base,cap,news,h1,h2,h3,h4⟩:=X2J (P:=P) s hv hm (Y0m _);exact⟨base,cap,news,h1,h2,by simpa using h3,fun i hi=>hm _ (by simp [Y0b,hi]),h4⟩
theorem X5c (s:St' C Fr e h F φ a w) {k:Nat} {b:Bx} {loc:Loc} (hb:h k=some b) (hl:φ k=some loc) (hz:0<loc.esz) :
 ∃ olds:List Value,(Builtin.firstCells loc.esz loc.len (.slice loc.base loc.len loc.cap)).run P w=.ok olds.toArray w/\X12 F φ loc.esz olds.toArray b.elems:=by
 obtain⟨loc',h1,h2,h3⟩:=s.live k b hb;obtain rfl:loc'=loc:=by rw [h1] at hl; simpa using hl
 have h2:=h2.cells hz;have hel:∀ i,i<b.elems.length->(b.elems.getD i []).length=loc'.esz:=fun i hi=>h2.el _ (by simp [Y0b,hi]);by_cases hc0:loc'.cap=0
 . have hl0 : loc'.len = 0 := by have := h2.cap; omega
   have he0:b.elems = []:=YP (by rw [h2.len,hl0]);refine⟨[],?_,⟨by simp [he0],by simp [he0],by simp [he0]⟩⟩;rw [hl0];cases loc'.base with
   | none=>simp [Builtin.firstCells]
   | some x=>simp [Builtin.firstCells,loadCells,loadCellsFrom]
 . obtain ⟨ad, hbase, hs, cells, ct, hg, hroom, hrep⟩ := h2.room hc0;have hle:loc'.len*loc'.esz<=loc'.cap*loc'.esz:=YX _ h2.cap;refine⟨(List.range (loc'.len*loc'.esz)).map fun k=>cells.getD (ad.off+k) undef,?_,⟨by simp [h2.len],hel,fun i j hi hj=>?_⟩⟩
   . rw [hbase];refine Y45 (P:=P) w loc'.esz loc'.len ad loc'.len loc'.cap _ (by simp) (fun j v hj=>?_);have hj':j<loc'.len*loc'.esz:=by have:=(Y7.1 hj).1; simpa using this
     have hv:cells.getD (ad.off+j) undef=v:=by simpa [hj'] using hj
     rw [ZZ _ _ hs,<- hv,cell_of_row w _ _ cells ct (0,0) hg];have:ad.off+j<cells.size:=by omega
     simp [Array.getD,this]
   . have hlt : i * loc'.esz + j < loc'.len * loc'.esz := Z2r (by rw [<- h2.len]; exact hi) hj;rw [Z4t _ _ _ hlt];exact hrep i j (by rw [<- h2.len]; exact hi) hj
theorem X12.append {esz:Nat} {xs ys:Array Value} {l m:List (List PV)} (h1:X12 F φ esz xs l) (h2:X12 F φ esz ys m) (rest:Array Value) :
 ∀ i j,i<(l++m).length->j<esz->(((xs++ys)++rest).getD (i*esz+j) undef).oneCell'=true/\Rep F φ (((xs++ys)++rest).getD (i*esz+j) undef) (((l++m).getD i []).getD j pvu):=by
 intro i j hi hj;have hlt:=Z2r hi hj;have hsz:(xs++ys).size=(l++m).length*esz:=by rw [Y2K,h1.size,h2.size,Y0e,Y1t]
 have e0:((xs++ys)++rest).getD (i*esz+j) undef=(xs++ys).getD (i*esz+j) undef:=by
  simp only [Y0d];rw [Y17 (by rw [hsz]; exact hlt)]
 rw [e0];by_cases hil:i<l.length
 . have hlt1 : i * esz + j < xs.size := by rw [h1.size]; exact Z2r hil hj
   have e1:(xs++ys).getD (i*esz+j) undef=xs.getD (i*esz+j) undef:=by
    simp only [Y0d];rw [Y17 hlt1]
   have e2:(l++m).getD i []=l.getD i []:=by
    simp only [Y0b];rw [YO hil]
   rw [e1,e2];exact h1.rep i j hil hj
 . have him : i - l.length < m.length := by simp at hi; omega
   have hsub:i*esz+j=xs.size+((i-l.length)*esz+j):=by
    rw [h1.size,<- Y1N,<- Y1t];congr 2;omega
   have e1:(xs++ys).getD (i*esz+j) undef=ys.getD ((i-l.length)*esz+j) undef:=by
    simp only [Y0d];rw [hsub,Y2H (by omega)];congr 2;omega
   have e2:(l++m).getD i []=m.getD (i-l.length) []:=by
    simp only [Y0b];rw [YL (by omega)]
   rw [e1,e2];exact h2.rep _ j him hj
theorem Z5i {sT xT ty el el2:TypeId} {i:TypeInfo} (hu:P.underlying sT=some (.slice el)) (hux:P.underlying xT=some (.slice el2)) (hi:P.info? el=some i) {base xb:Option Addr} {sLen sCap n xc:Nat} {news:List Value}
 (hf:(Builtin.firstCells i.size n (.slice xb n xc)).run P w=.ok news.toArray w) (hroom:sLen+n<=sCap) :
 (Builtin.append_ #[sT, xT] ty #[.slice base sLen sCap, .slice xb n xc]).run P w =
   match base with
   | some x=>((storeCells (x.add (sLen*i.size)) news).run P w).andThen fun _ w'=>.ok (.slice base (sLen+n) sCap) w'
   | none=>.ok (.slice base (sLen+n) sCap) w:=by
 cases base<;>simp [Builtin.append_,Y9 hu,Y9 hux,Zi hi,Builtin.lenOf,hroom,hf]
theorem Z4X {sT xT ty el el2:TypeId} {i:TypeInfo} {z:Value} (hu:P.underlying sT=some (.slice el)) (hux:P.underlying xT=some (.slice el2)) (hi:P.info? el=some i) (hz:i.zero=some z) (hby:0<i.bytes)
 {base xb:Option Addr} {sLen sCap n xc:Nat} {olds news:List Value} (ho:(Builtin.firstCells i.size sLen (.slice base sLen sCap)).run P { w with drawn:=w.drawn+1 }=.ok olds.toArray { w with drawn:=w.drawn+1 })
 (hf:(Builtin.firstCells i.size n (.slice xb n xc)).run P { w with drawn:=w.drawn+1 }=.ok news.toArray { w with drawn:=w.drawn+1 }) (hroom:sCap<sLen+n) (hb:(sLen+n)*i.bytes<=140737488355328) :
 (Builtin.append_ #[sT, xT] ty #[.slice base sLen sCap, .slice xb n xc]).run P w =
   .ok (.slice (some ⟨w.heap.size,0,none⟩) (sLen+n) (grownCap w (sLen+n) sCap el))
    (World.alloc { w with drawn:=w.drawn+1 } (.cells (olds.toArray++news.toArray++Builtin.zeroCells z.cells (grownCap w (sLen+n) sCap el-(sLen+n))) el)):=by
 have hn:¬ (sLen+n<=sCap):=by omega
 have hby':¬ i.bytes=0:=by omega
 have h48:=growslice_fits (bytes:=i.bytes) hroom hb;have h48':¬ (281474976710656<Builtin.nextslicecap (sLen+n) sCap*i.bytes):=by omega
 simp [Builtin.append_,Y9 hu,Y9 hux,sizeOf,typeInfo,zeroValue,hi,hz,Builtin.lenOf,hn,hby',h48',Question.forced] at ho hf ⊢;simp [ho,hf,newRow,grownCap];congr 2;apply Y4L;simp [YT]
theorem Zes (s:St' C Fr e h F φ a w) {id:Nat} (hid:Fr id) {sT xT ty el el2:TypeId} {z:List Value} {i:TypeInfo} (hu:P.underlying sT=some (.slice el)) (hux:P.underlying xT=some (.slice el2)) (hz:XX P el=some z) (hi:P.info? el=some i) (hby:0<i.bytes)
 {x y:Operand} {p:PV} {h':X2} (hd:X3 (.append z i.bytes x y) e h id=some (p,h')):Xf P C Fr e F φ a w (Builtin.append_ #[sT,xT] ty #[a.eval x,a.eval y]) id p h':=by
 obtain⟨i',zv,hi',hzv,rfl,h1z,hlz,hpz⟩:=Z12 hz;obtain rfl:i'=i:=by rw [hi'] at hi; simpa using hi
 simp only [X3] at hd
 split at hd
 case h_2=>simp at hd
 rename_i k m full hx hy
 split at hd
 case h_2=>simp at hd
 rename_i b hb
 split at hd
 case isFalse=>simp at hd
 rename_i hcond;obtain⟨hm,hbesz,hbytes⟩:=hcond;cases hd;obtain⟨loc',h1,hz,hv⟩:=(s.eval hx).own_inv;obtain⟨h2,h3⟩:=s.cellAt hb h1 hz;have hlen:=h2.len;have hesz:loc'.esz=i'.size:=by rw [<- h2.esz,hbesz,hlz]
 have hne:id≠k:=fun e=>by subst e; rw [s.free _ hid] at h1; cases h1
 have hkey:(fun j=>bif Nat.beq j id then some (⟨b.esz,b.elems++m⟩:Bx) else bif Nat.beq j k then none else h j)=(h.del k).upd id ⟨b.esz,b.elems++m⟩:=rfl;rw [hkey];have s1:St' C Fr e (h.del k) F φ a w:=s.sub (fun _ _ h=>h) (fun _ _ hh=>(X2.del_some hh).2);have hm':∀ c∈m,c.length=i'.size:=fun c hc=>by rw [hm c hc,hlz]
 have h48:b.elems.length+m.length<=281474976710656:=by
  have:(b.elems.length+m.length)*1<=(b.elems.length+m.length)*i'.bytes:=Nat.mul_le_mul_left _ hby;omega
 have hallel:∀ c∈b.elems++m,c.length=i'.size:=fun c hc=>by
  rcases Y0h.1 hc with h|h
  . rw [<- hesz]; exact h2.el c h
  . exact hm' c h
 by_cases hroom:loc'.len+m.length<=loc'.cap
 . obtain ⟨xb, xc, news, hvy, hf, hnc⟩ := X29 (P := P) s (s.eval hy) hm';rw [hvy] at hf;have hrun:=Z5i (ty:=ty) (base:=loc'.base) hu hux hi hf hroom;by_cases hc0:loc'.cap=0
   . have hm0 : m = [] := YP (by omega);have hb0:b.elems = []:=YP (by omega);have hl0:loc'.len=0:=by omega
     subst hm0;have hn0:news = []:=by have:=hnc.size; simpa using this
     subst hn0;have hrun':(Builtin.append_ #[sT,xT] ty #[a.eval x,a.eval y]).run P w=.ok (.slice loc'.base 0 0) w:=by
      rw [hv,hvy,hrun];cases loc'.base<;>simp [storeCells,hl0,hc0]
     refine⟨_,w,F,_,hrun',by rw [hb0,h2.esz]; exact (s1.allocNil hid loc'.base loc'.esz h2.pos).made,.own id ⟨loc'.base,loc'.esz,0,0⟩ (by simp [X8]) hz⟩
   . obtain ⟨ad, hbase, hs, cells, ct, hg, hroom2, hrep⟩ := h2.room hc0;have hhas:loc'.has ad.block:=⟨hc0,ad,hbase,rfl⟩
     have hnl:news.length=m.length*i'.size:=by have:=hnc.size; simpa using this
     have hfit:ad.off+loc'.len*i'.size+news.length<=cells.size:=by
      have:(loc'.len+m.length)*loc'.esz<=loc'.cap*loc'.esz:=YX _ hroom;rw [Y1t] at this;rw [hnl,<- hesz];omega
     have h1n:∀ v∈news,v.oneCell'=true:=fun v hv=>by
      obtain⟨j,hj,rfl⟩:=Y1d hv;have hj':j<m.length*i'.size:=by rw [<- hnl]; exact hj
      have hp:0<i'.size:=by rw [<- hlz]; exact hpz
      have:=(hnc.rep (j / i'.size) (j % i'.size) (Y42 (by rw [Y24]; exact hj')) (Y1F _ hp)).1;rw [Y4r j i'.size] at this;simpa [Array.getD,hj] using this
     have hst:=Y3z P ad.block (ad.off+loc'.len*i'.size) ct news 0 cells w hg (by simpa using hfit) h1n;simp only [Y1k] at hst
     let locN:Loc:=⟨some ad,loc'.esz,loc'.len+m.length,loc'.cap⟩
     have hrun':(Builtin.append_ #[sT,xT] ty #[a.eval x,a.eval y]).run P w=.ok (.slice (some ad) (loc'.len+m.length) loc'.cap) (w.setRow ad.block (cells.toList.take (ad.off+loc'.len*i'.size)++news++cells.toList.drop (ad.off+loc'.len*i'.size+news.length)).toArray):=by
      rw [hv,hvy,hrun,hbase];simp only [ZZ _ _ hs,hst,YS]
     have hs2:=s1.adopt (id:=id) (loc':=locN) (b':=⟨b.esz,b.elems++m⟩) (φ':=X8 φ id locN) (Fr':=fun i=>Fr i/\i≠id) (cur':=(cells.toList.take (ad.off+loc'.len*i'.size)++news++cells.toList.drop (ad.off+loc'.len*i'.size+news.length)).toArray) hg (h3 _ hhas).1 (h3 _ hhas).2 (s.del_no hb h1 hhas)
      (by simp [X8]) (Z1b (s.free id hid) locN) (fun i hi => by simp [X8, hi]) (fun i hi => by simp [X8, hi.2, s.free i hi.1]) (fun k' hk' => by obtain ⟨_, y, hy, rfl⟩ := hk'; simp only [locN] at hy; cases hy; rfl) (by
        refine⟨h2.esz,h2.pos,by simp [locN]; omega,hroom,by simp only [locN,Xj]; omega,fun c hc=>by rw [hallel c hc,<- hesz],fun _=>⟨ad,rfl,hs,_,ct,Y44 w _ cells _ ct _ hg,?_,fun i j hi hj=>?_⟩⟩
        . simp only [locN,Y35,Y0e,Y0o,YV,Y2u]; omega
        . simp only [locN] at hi hj ⊢;rw [Z3t _ _ _ hfit];by_cases hil:i<loc'.len
          . have hlt : i * loc'.esz + j < loc'.len * loc'.esz := Z2r hil hj;rw [Y8 (by rw [<- hesz];omega)];have e2:(b.elems++m).getD i []=b.elems.getD i []:=by
             simp only [Y0b];rw [YO (by omega)]
            rw [e2];have:=hrep i j hil hj;exact⟨this.1,this.2.mono (fun _ _ h=>h) (Z1b (s.free id hid) locN)⟩
          . have him : i - loc'.len < m.length := by omega
            have hsub:i*loc'.esz=loc'.len*loc'.esz+(i-loc'.len)*loc'.esz:=by
             rw [<- Y1t]; congr 1; omega
            have hlt:=Z2r him hj;rw [Y6 (by rw [<- hesz,hnl,<- hesz];omega)];have e2:(b.elems++m).getD i []=m.getD (i-loc'.len) []:=by
             simp only [Y0b];rw [YL (by omega),hlen]
            have e3:ad.off+(i*loc'.esz+j)-(ad.off+loc'.len*i'.size)=(i-loc'.len)*i'.size+j:=by rw [<- hesz]; omega
            rw [e2,e3];have:=hnc.rep (i-loc'.len) j him (by rw [<- hesz]; exact hj);have e4:news.toArray.getD ((i-loc'.len)*i'.size+j) undef=news.getD ((i-loc'.len)*i'.size+j) undef:=by simp [Y0b,Y0d]
            rw [e4] at this
            exact⟨this.1,this.2.mono (fun _ _ h=>h) (Z1b (s.free id hid) locN)⟩)
     exact⟨_,_,F,_,hrun',hs2.made,.own id locN (by simp [X8]) hz⟩
 . have sd := s.drew;obtain⟨xb,xc,news,hvy,hf,hnc⟩:=X29 (P:=P) sd (sd.eval hy) hm';obtain⟨olds,ho,hoc⟩:=X5c (P:=P) sd hb h1 hz;rw [hvy] at hf;rw [hesz] at ho hoc;have hrun:=Z4X (ty:=ty) hu hux hi hzv hby ho hf (by omega) (by rw [<- hlen]; exact hbytes);have s1d:=s1.drew;have hge:=grownCap_ge w (loc'.len+m.length) loc'.cap el;have hsz0:zv.cells.size=i'.size:=by rw [<- hlz]; simp
   refine⟨_,_,F,X8 φ id ⟨some ⟨w.heap.size,0,none⟩,i'.size,loc'.len+m.length,grownCap w (loc'.len+m.length) loc'.cap el⟩,by rw [hv,hvy]; exact hrun,?_,.own id ⟨some ⟨w.heap.size,0,none⟩,i'.size,loc'.len+m.length,grownCap w (loc'.len+m.length) loc'.cap el⟩ (by simp [X8]) (by show 0<i'.size; rw [<- hlz]; exact hpz)⟩;rw [h2.esz,hesz];refine St'.made <| s1d.alloc hid _ el i'.size (loc'.len+m.length) (grownCap w (loc'.len+m.length) loc'.cap el) (b.elems++m) (by rw [<- hlz]; exact hpz) (by simp;omega) hge (by simp only [Xj];omega) hallel ?_ (fun i j hi hj=>?_)
   . have e1 : (olds.toArray ++ news.toArray ++ Builtin.zeroCells zv.cells (grownCap w (loc'.len + m.length) loc'.cap el - (loc'.len + m.length))).size = loc'.len * i'.size + m.length * i'.size + (grownCap w (loc'.len + m.length) loc'.cap el - (loc'.len + m.length)) * i'.size := by
      rw [Y2K,Y2K,hoc.size,hnc.size,size_zeroCells,hsz0,hlen]
     rw [e1,<- Y1t,<- Y1t];exact YX _ (by omega)
   . exact hoc.append hnc _ i j (by rw [Y0e,hlen]; exact hi) hj
theorem Zbv (s:St' C Fr e h F φ a w) (id:Nat) {sT xT ty el el2:TypeId} {z:List Value} {i:TypeInfo} (hu:P.underlying sT=some (.slice el)) (hux:P.underlying xT=some (.slice el2)) (hz:XX P el=some z) (hi:P.info? el=some i) (hby:0<i.bytes)
 {x y:Operand} {p:PV} {h':X2} (hd:XH (.append z i.bytes x y) e h id=some (p,h')):Xf P C Fr e F φ a w (Builtin.append_ #[sT,xT] ty #[a.eval x,a.eval y]) id p h':=by
 obtain⟨i',zv,hi',hzv,rfl,h1z,hlz,hpz⟩:=Z12 hz;obtain rfl:i'=i:=by rw [hi'] at hi; simpa using hi
 simp only [XH] at hd
 split at hd
 case h_2=>simp at hd
 rename_i l m full hx hy
 split at hd
 case isFalse=>simp at hd
 rename_i hcond;obtain⟨hl,hm,hbytes⟩:=hcond;cases hd;have hl':∀ c∈l,c.length=i'.size:=fun c hc=>by rw [hl c hc,hlz]
 have hm':∀ c∈m,c.length=i'.size:=fun c hc=>by rw [hm c hc,hlz]
 have sd:=s.drew;obtain⟨base,cap,olds,hv,ho,hoc⟩:=X29 (P:=P) sd (sd.eval hx) hl';obtain⟨xb,xc,news,hvy,hf,hnc⟩:=X29 (P:=P) sd (sd.eval hy) hm';have hcap:cap=l.length:=by
  rcases (s.eval hx).vec_inv with⟨rfl,hv'⟩|⟨ad,cap',esz',cs,hv',_,_,hfull,_⟩
  . rw [hv] at hv'; cases hv'; rfl
  . rw [hv] at hv'; cases hv'; exact hfull rfl
 subst hcap;by_cases hm0:m = []
 . subst hm0;obtain⟨xb,xc,news,hvy,hf,hnc⟩:=X29 (P:=P) s (s.eval hy) hm';rw [hvy] at hf;have hrun:=Z5i (ty:=ty) (base:=base) (sLen:=l.length) (sCap:=l.length) hu hux hi hf (by simp);have hn0:news = []:=by have:=hnc.size; simpa using this
   subst hn0;have hrun':(Builtin.append_ #[sT,xT] ty #[a.eval x,a.eval y]).run P w=.ok (a.eval x) w:=by
    rw [hv,hvy,hrun];cases base<;>simp [storeCells]
   have hr:=s.eval hx;rw [Y0p];refine Xf.quiet s hrun' ?_;rcases hr.vec_inv with⟨rfl,hv'⟩|⟨ad,cap',esz',cs,hv',hs,hc,_,hmax,he,hF,hR⟩
   . rw [hv']; exact .vecnil false
   . rw [hv']; exact .vec ad cap' esz' l false cs hs hc (by simp) hmax he hF hR
 . have hmpos : 0 < m.length := Y3o.2 hm0;have hrun:=Z4X (ty:=ty) (base:=base) (xb:=xb) (xc:=xc) hu hux hi hzv hby (by rw [<- hv]; exact ho) (by rw [<- hvy]; exact hf) (by omega) hbytes;have hge:=grownCap_ge w (l.length+m.length) l.length el;have hsz0:zv.cells.size=i'.size:=by rw [<- hlz]; simp
   have h48:l.length+m.length<=281474976710656:=by
    have:(l.length+m.length)*1<=(l.length+m.length)*i'.bytes:=Nat.mul_le_mul_left _ hby;omega
   have hall:=hoc.append hnc (Builtin.zeroCells zv.cells (grownCap w (l.length+m.length) l.length el-(l.length+m.length)));have hsz:(l.length+m.length)*i'.size<=(olds.toArray++news.toArray++Builtin.zeroCells zv.cells (grownCap w (l.length+m.length) l.length el-(l.length+m.length))).size:=by
    rw [Y2K,Y2K,hoc.size,hnc.size,<- Y1t];omega
   generalize olds.toArray++news.toArray++Builtin.zeroCells zv.cells (grownCap w (l.length+m.length) l.length el-(l.length+m.length))=arr at hrun hall hsz;obtain⟨s',hx'⟩:=sd.allocFrz arr el;refine⟨_,_,_,φ,by rw [hv,hvy]; exact hrun,s'.weaken fun _ h=>h.1,?_⟩;rw [<- Y0e];refine .vec ⟨w.heap.size,0,none⟩ _ i'.size (l++m) false (fun i j=>arr.getD (i*i'.size+j) undef) (fun _=>rfl)
    (by rw [Y0e]; exact hge) (by simp) (by rw [Y0e]; exact h48) (fun j hj=>?_) (fun j k hj hk=>?_) (fun j k hj hk=>(hall j k hj hk).2.mono hx' fun _ _ h=>h)
   . have hmem : (l ++ m).getD j [] ∈ l ++ m := by
      rw [Y0b,Y0c hj]; exact Y0j hj
     rcases Y0h.1 hmem with h|h
     . exact hl' _ h
     . exact hm' _ h
   . simp only [Y15];have hlt:=Z2r hj hk;rw [Y0e] at hlt;exact Z28 F _ _ (by omega) (hall j k hj hk).1
theorem X4G (s:St' C Fr e h F φ a w) {v:Value} {k i o len cap:Nat} (hv:Rep F φ v (.sl k i o len cap)) {b:Bx} (hb:h k=some b) (hi:i<b.elems.length) (ho:o+len<=b.esz) {n:Nat} (hn:n<=len) :
 ∃ base cap,∃ news:List Value,v=.slice base len cap/\(Builtin.firstCells 1 n v).run P w=.ok news.toArray w/\news.length=n/\∀ j,j<n->(news.getD j undef).oneCell'=true/\Rep F φ (news.getD j undef) ((b.elems.getD i []).getD (o+j) pvu):=by
 obtain⟨loc',ad,h1,hz,hbase,hs,hl,rfl⟩:=hv.sl_inv;obtain⟨h2,h3⟩:=s.cellAt hb h1 hz;have hilen:i<loc'.len:=by rw [<- h2.len]; exact hi
 have hcapne:loc'.cap≠0:=by have:=h2.cap; omega
 obtain⟨ad',hbase',_,cells,ct,hg,hroom,hrep⟩:=h2.room hcapne;obtain rfl:ad'=ad:=by rw [hbase] at hbase'; simpa using hbase'.symm
 have hesz:b.esz=loc'.esz:=h2.esz;have hin:∀ j,j<n->ad'.off+(i*loc'.esz+(o+j))<cells.size:=fun j hj=>by
  have:=Z2r (esz:=loc'.esz) (j:=o+j) (YY hilen h2.cap) (by omega);omega
 have hget:∀ j,j<n->((List.range n).map fun j=>cells.getD (ad'.off+(i*loc'.esz+(o+j))) undef).getD j undef=cells.getD (ad'.off+(i*loc'.esz+(o+j))) undef:=fun j hj=>by
  simp [Y0b,hj]
 refine⟨_,cap,(List.range n).map fun j=>cells.getD (ad'.off+(i*loc'.esz+(o+j))) undef,rfl,?_,by simp,fun j hj=>?_⟩
 . refine Y45 (P := P) w 1 n ⟨ad'.block, ad'.off + (i * loc'.esz + o), none⟩ len cap _ (by simp) fun j v hj => ?_;have hjn:j<n:=by have:=(Y7.1 hj).1; simpa using this
   have hv':v=cells.getD (ad'.off+(i*loc'.esz+(o+j))) undef:=by
    rw [<- hget j hjn,Y0b,hj]; rfl
   rw [ZZ _ _ rfl,hv'];have hlt:=hin j hjn;show w.cell? ⟨ad'.block,ad'.off+(i*loc'.esz+o)+j,none⟩=_;rw [show ad'.off+(i*loc'.esz+o)+j=ad'.off+(i*loc'.esz+(o+j)) by omega];unfold World.cell?;simp only [hg];simp [Array.getD,hlt]
 . rw [hget j hj];exact hrep i (o+j) hilen (by omega)
theorem X4J (s:St' C Fr e h F φ a w) {v:Value} {k i o len cap:Nat} (hv:Rep F φ v (.sl k i o len cap)) {b:Bx} (hb:h k=some b) (hi:i<b.elems.length) (ho:o+len<=b.esz) (news:List Value) (q:List PV) (hq:news.length=q.length) (hle:q.length<=len)
 (hrepN:∀ j,j<q.length->(news.getD j undef).oneCell'=true/\Rep F φ (news.getD j undef) (q.getD j pvu)) :
 ∃ ad w',v=.slice (some ad) len cap/\(storeCells ad news).run P w=.ok () w'/\St' C Fr e (h.upd k ⟨b.esz,b.elems.set i (Xl (b.elems.getD i []) o q)⟩) F φ a w':=by
 obtain⟨loc',ad,h1,hz,hbase,hs,hl,rfl⟩:=hv.sl_inv;obtain⟨h2,h3⟩:=s.cellAt hb h1 hz;have hilen:i<loc'.len:=by rw [<- h2.len]; exact hi
 have hcapne:loc'.cap≠0:=by have:=h2.cap; omega
 obtain⟨ad',hbase',_,cells,ct,hg,hroom,hrep⟩:=h2.room hcapne;obtain rfl:ad'=ad:=by rw [hbase] at hbase'; simpa using hbase'.symm
 have hesz:b.esz=loc'.esz:=h2.esz;have hcl:(b.elems.getD i []).length=loc'.esz:=h2.el _ (by simp [Y0b,hi]);have hpos:ad'.off+(i*loc'.esz+o)+news.length<=cells.size:=by
  have:=Z2r (esz:=loc'.esz) (j:=loc'.esz-1) (YY hilen h2.cap) (by have:=h2.pos;omega);have:=h2.pos;omega
 have hst:=Y3z P ad'.block (ad'.off+(i*loc'.esz+o)) ct news 0 cells w hg (by simpa using hpos) (fun v hv=>by
  obtain⟨j,hj,rfl⟩:=Y1d hv;have:=(hrepN j (by rw [<- hq]; exact hj)).1
  simpa [Y0b,hj] using this)
 simp only [Y1k] at hst;refine⟨⟨ad'.block,ad'.off+(i*loc'.esz+o),none⟩,_,rfl,hst,?_⟩;have hkey:h.upd k ⟨b.esz,b.elems.set i (Xl (b.elems.getD i []) o q)⟩=(h.del k).upd k ⟨b.esz,b.elems.set i (Xl (b.elems.getD i []) o q)⟩:=(X2.del_upd h k _).symm;rw [hkey];have hhas:loc'.has ad'.block:=⟨hcapne,ad',hbase,rfl⟩
 refine (s.sub (fun _ _ h=>h) (fun _ _ hh=>(X2.del_some hh).2)).adopt (loc':=loc') (φ':=φ) hg (h3 _ hhas).1 (h3 _ hhas).2 (s.del_no hb h1 hhas) h1 (fun _ _ h=>h) (fun _ _=>rfl) s.free (fun k' hk'=>?_) ?_
 . obtain ⟨_, y', hy', rfl⟩ := hk';rw [hbase] at hy';cases hy'
   rfl
 . refine ⟨hesz, h2.pos, by simpa using h2.len, h2.cap, h2.max, fun c hc => ?_, fun _ => ⟨ad', hbase, hs, _, ct, Y44 w _ cells _ ct _ hg, ?_, fun i' j' hi' hj' => ?_⟩⟩
   . obtain ⟨k', hk', rfl⟩ := Y1d hc;have hk2:k'<b.elems.length:=by simpa using hk'
     by_cases he:i=k'
     . subst he;simp only [List.getElem_set_self];rw [Z2Z _ _ _ (by rw [hcl];omega),hcl]
     . simp only [List.getElem_set_ne he];exact h2.el _ (Y0j hk2)
   . simp only [Y35,Y0e,Y0o,YV,Y2u]; omega
   . rw [Z3t _ _ _ hpos, hq];by_cases he:i'=i
     . subst he;have hset:(b.elems.set i' (Xl (b.elems.getD i' []) o q)).getD i' []=Xl (b.elems.getD i' []) o q:=by simp [Y0b,hi]
       rw [hset,Z5V _ _ _ (by rw [hcl];omega)];by_cases hr:o<=j'/\j'<o+q.length
       . rw [Y6 (by omega), Y6 hr, show ad'.off + (i' * loc'.esz + j') - (ad'.off + (i' * loc'.esz + o)) = j' - o by omega];exact hrepN _ (by omega)
       . rw [Y8 (by omega), Y8 hr];exact hrep i' j' hi' hj'
     . have hset : (b.elems.set i (Xl (b.elems.getD i []) o q)).getD i' [] = b.elems.getD i' [] := by simp [Y0b, Y1p, Y2L he]
       have hout:=Zbq (k:=i) hj' he;rw [hset,Y8 (by omega)];exact hrep i' j' hi' hj'
theorem X43 (s:St' C Fr e h F φ a w) {k:Nat} {b:Bx} {loc:Loc} (hb:h k=some b) (hl:φ k=some loc) (hz:0<loc.esz) (hc0:loc.cap≠0) {ad:Addr} (hbase:loc.base=some ad) {lo:Nat} {news:List Value} {m:List (List PV)} (hnl:news.length=m.length*loc.esz) (hel:∀ c∈m,c.length=loc.esz) (hle:lo+m.length<=loc.len)
 (hnc:∀ i j,i<m.length->j<loc.esz->(news.getD (i*loc.esz+j) undef).oneCell'=true/\Rep F φ (news.getD (i*loc.esz+j) undef) ((m.getD i []).getD j pvu)) :
 ∃ w',(storeCells ⟨ad.block,ad.off+lo*loc.esz,none⟩ news).run P w=.ok () w'/\St' C Fr e (h.upd k ⟨b.esz,b.elems.take lo++(m++b.elems.drop (lo+m.length))⟩) F φ a w':=by
 obtain⟨h2,h3⟩:=s.cellAt hb hl hz;have hlen:=h2.len;have hcap:=h2.cap;obtain⟨ad',hbase',hs,cells,ct,hg,hroom2,hrep⟩:=h2.room hc0;obtain rfl:ad'=ad:=by rw [hbase'] at hbase; exact Y13 hbase
 have hhas:loc.has ad'.block:=⟨hc0,ad',hbase',rfl⟩
 have hfit:ad'.off+lo*loc.esz+news.length<=cells.size:=by
  have e1:(lo+m.length)*loc.esz<=loc.cap*loc.esz:=YX _ (by omega);rw [Y1t] at e1;omega
 have hst:=Y3z P ad'.block (ad'.off+lo*loc.esz) ct news 0 cells w hg (by simpa using hfit) fun u hu=>by
  obtain⟨j,hj,rfl⟩:=Y1d hu;have:=(hnc (j / loc.esz) (j % loc.esz) (Y42 (by rw [Y24,<- hnl]; exact hj)) (Y1F _ hz)).1;rw [Y4r j loc.esz] at this;simpa [Y0b,hj] using this
 simp only [Y1k] at hst;refine⟨_,hst,?_⟩;rw [<- X2.del_upd h k];refine (s.sub (fun _ _ h=>h) (fun _ _ hh=>(X2.del_some hh).2):St' C Fr e (h.del k) F φ a w).adopt (loc':=loc) (φ':=φ) hg (h3 _ hhas).1 (h3 _ hhas).2 (s.del_no hb hl hhas) hl (fun _ _ h=>h) (fun _ _=>rfl) s.free (fun k' hk'=>?_) (⟨h2.esz,h2.pos,by simp; omega,hcap,h2.max,fun c hc=>?_,fun _=>⟨ad',hbase',hs,_,ct,Y44 w _ cells _ ct _ hg,?_,fun i j hi hj=>?_⟩⟩)
 . obtain ⟨_, y, hy, rfl⟩ := hk';rw [hbase'] at hy; cases hy; rfl
 . rcases Y0h.1 hc with h | h
   . exact h2.el c (YM h)
   . exact (Y0h.1 h).elim (hel c) fun h=>h2.el c (Y1j h)
 . simp only [Y35,Y0e,Y0o,YV,Y2u]; omega
 . rw [Z3t _ _ _ hfit];have hput:∀ {q:List PV} {v:Value},(b.elems.take lo++(m++b.elems.drop (lo+m.length))).getD i []=q->v.oneCell'=true/\Rep F φ v (q.getD j pvu)->v.oneCell'=true/\Rep F φ v (((b.elems.take lo++(m++b.elems.drop (lo+m.length))).getD i []).getD j pvu):=fun e h=>by rw [e]; exact h
   simp only [Y0b] at hput;rcases Y3u i lo with h1|h1
   . have := YX loc.esz (show i + 1 <= lo from h1);rw [Y1t] at this;rw [Y8 (by omega)];simp only [Y0b] at hrep ⊢;exact hput (by rw [YO (by rw [Y0o];omega),Y1l,Y6 h1]) (hrep i j hi hj)
   obtain⟨i,rfl⟩:∃ q,i=lo+q:=⟨i-lo,by omega⟩
   have e0:(lo+i)*loc.esz=lo*loc.esz+i*loc.esz:=Y1t ..;have er:(b.elems.take lo++(m++b.elems.drop (lo+m.length)))[lo+i]?=(m++b.elems.drop (lo+m.length))[i]?:=by rw [YL (by rw [Y0o];omega),Y0o,Y1X (by omega),Y2q]
   rcases Y3u i m.length with h4|h4
   . have := Z2r h4 hj;rw [Y6 (by omega),show ad'.off+((lo+i)*loc.esz+j)-(ad'.off+lo*loc.esz)=i*loc.esz+j by omega];simp only [Y0b] at hnc ⊢;exact hput (by rw [er,YO h4]) (hnc i j h4 hj)
   . have := YX loc.esz h4;rw [Y8 (by omega)];simp only [Y0b] at hrep ⊢;exact hput (by rw [er,YL h4,Y1B,show lo+m.length+(i-m.length)=lo+i by omega]) (hrep _ j hi hj)
theorem Zii (s:St' C Fr e h F φ a w) {id:Nat} {dT sT ty el el2:TypeId} {inf:TypeInfo} (hu:P.underlying dT=some (.slice el)) (hux:P.underlying sT=some (.slice el2)) (hi:P.info? el=some inf)
 {x y:Operand} {p:PV} {h':X2} (hd:X3 (.copy inf.size x y) e h id=some (p,h')):Xf P C Fr e F φ a w (Builtin.copy_ #[dT,sT] ty #[a.eval x,a.eval y]) id p h':=by
 simp only [X3] at hd
 split at hd
 case h_4=>simp at hd
 case h_2 =>
  rename_i k i o len cap m full hx hy
  split at hd
  case h_2=>simp at hd
  rename_i b hb
  split at hd
  case isFalse=>simp at hd
  rename_i hcond;obtain⟨hm,he1,hi0,ho⟩:=hcond;cases hd;have hn:min m.length len<=m.length:=Y3m _ _;obtain⟨xb,xc,news,hvy,hf,hnl,hrepN⟩:=X2J (P:=P) s (s.eval hy) hm hn;rw [he1,Y20] at hnl;have hql:((m.take len).map fun c=>c.getD 0 pvu).length=min m.length len:=by rw [Y0f,Y0o,Nat.min_comm]
  obtain⟨ad,w',hvx,hst,s'⟩:=X4J (P:=P) s (s.eval hx) hb hi0 ho news ((m.take len).map fun c=>c.getD 0 pvu) (by rw [hnl,hql]) (by rw [hql]; exact Y4p _ _) (fun j hj=>by
   rw [hql] at hj;have:=hrepN j 0 hj (by omega);rw [he1,Y20,Y1k] at this;have e1:news.toArray.getD j undef=news.getD j undef:=by simp [Y0b,Y0d]
   rw [e1] at this;have e2:((m.take len).map fun c=>c.getD 0 pvu).getD j pvu=(m.getD j []).getD 0 pvu:=by
    have hj1:j<m.length:=by omega
    have hj2:j<len:=by omega
    simp [Y0b,Y1l,hj1,hj2]
   rw [e2]
   exact this)
  rw [hvy] at hf;refine⟨_,w',F,φ,?_,s'.weaken fun _ h=>h.1,.val _⟩;rw [hvx,hvy];simp [Builtin.copy_,Y9 hu,Zi hi,Builtin.lenOf,hf,goInt,hst]
 case h_3 =>
  rename_i k i o len cap k2 i2 o2 len2 cap2 hx hy
  split at hd
  case h_2=>simp at hd
  rename_i b b2 hb hb2
  split at hd
  case isFalse=>simp at hd
  rename_i hcond;obtain⟨he1,hi0,ho,hi2,ho2⟩:=hcond;cases hd;obtain⟨xb,xc,news,hvy,hf,hnl,hrepN⟩:=X4G (P:=P) s (s.eval hy) hb2 hi2 ho2 (n:=min len2 len) (Y3m _ _);have hrl:(b2.elems.getD i2 []).length=b2.esz:=by
   obtain⟨loc',ad,h1,hz,_⟩:=(s.eval hy).sl_inv;obtain⟨h2,_⟩:=s.cellAt hb2 h1 hz;rw [h2.esz];exact h2.el _ (by simp [Y0b,hi2])
  have hql:((((b2.elems.getD i2 []).drop o2).take len2).take len).length=min len2 len:=by
   rw [Y0o,Y0o,YV,hrl]; omega
  obtain⟨ad,w',hvx,hst,s'⟩:=X4J (P:=P) s (s.eval hx) hb hi0 ho news _ (by rw [hnl,hql]) (by rw [hql]; exact Y4p _ _) (fun j hj=>by
   rw [hql] at hj;have:=hrepN j hj;have e2:((((b2.elems.getD i2 []).drop o2).take len2).take len).getD j pvu=(b2.elems.getD i2 []).getD (o2+j) pvu:=by
    have hj1:j<len2:=by omega
    have hj2:j<len:=by omega
    simp only [Y0b,Y1l,Y1B];rw [Y6 hj2,Y6 hj1]
   rw [e2]
   exact this)
  rw [hvy] at hf;refine⟨_,w',F,φ,?_,s'.weaken fun _ h=>h.1,.val _⟩;rw [hvx,hvy];have hsz:(sizeOf el).run P w=.ok 1 w:=by rw [<- he1]; exact Zi hi
  simp [Builtin.copy_,Y9 hu,hsz,Builtin.lenOf,hf,goInt,hst]
 rename_i k m full hx hy
 split at hd
 case h_2=>simp at hd
 rename_i b hb
 split at hd
 case isFalse=>simp at hd
 rename_i hcond;obtain⟨hm,hbesz⟩:=hcond;cases hd;obtain⟨loc',h1,hz,hv⟩:=(s.eval hx).own_inv;obtain⟨h2,h3⟩:=s.cellAt hb h1 hz;have hlen:=h2.len;have hesz:loc'.esz=inf.size:=by rw [<- h2.esz,hbesz]
 have hn:min m.length loc'.len<=m.length:=Y3m _ _;obtain⟨xb,xc,news,hvy,hf,hnl,hrepN⟩:=X2J (P:=P) s (s.eval hy) hm hn;rw [hvy] at hf;have hmin:min m.length b.elems.length=min m.length loc'.len:=by rw [hlen]
 have hnlt:min m.length loc'.len<=loc'.len:=Y4p _ _;have hpre:(Builtin.copy_ #[dT,sT] ty #[a.eval x,a.eval y]).run P w=match loc'.base with
  | some ad=>((storeCells ad news).run P w).andThen fun _ w'=>.ok (.int .i64 (min m.length loc'.len:Nat)) w'
  | none=>.ok (.int .i64 (min m.length loc'.len:Nat)) w:=by
  rw [hv,hvy];cases loc'.base<;>simp [Builtin.copy_,Y9 hu,Zi hi,Builtin.lenOf,hf,goInt]
 by_cases hc0:loc'.cap=0
 . have hl0 : loc'.len = 0 := by have := h2.cap; omega
   have hb0:b.elems = []:=YP (by omega);have hn0:min m.length loc'.len=0:=by omega
   have hnw:news = []:=YP (by rw [hnl,hn0];omega);have hrun:(Builtin.copy_ #[dT,sT] ty #[a.eval x,a.eval y]).run P w=.ok (.int .i64 (min m.length loc'.len:Nat)) w:=by
    rw [hpre,hnw];cases loc'.base<;>simp [storeCells]
   have hsame:h.upd k ⟨b.esz,m.take b.elems.length++b.elems.drop m.length⟩=h:=by
    funext j;by_cases hj:j=k
    . subst hj;rw [X2.upd_same,hb];obtain⟨besz,bel⟩:=b;simp only at hb0;subst hb0;simp
    . rw [X2.upd_ne _ _ hj]
   rw [hsame,hmin];exact⟨_,w,F,φ,hrun,s.weaken fun _ h=>h.1,.val _⟩
 . obtain ⟨ad, hbase, hs, _⟩ := h2.room hc0;have hln:(m.take (min m.length loc'.len)).length=min m.length loc'.len:=by rw [Y0o]; omega
   obtain⟨w',hst,s'⟩:=X43 (P:=P) s hb h1 hz hc0 hbase (lo:=0) (news:=news) (m:=m.take (min m.length loc'.len)) (by rw [hnl,hln,hesz]) (fun c hc=>by rw [hm c (YM hc),hesz]) (by rw [hln];omega) (fun i j hi hj=>by
    rw [hln] at hi;have:=hrepN i j hi (by rw [<- hesz]; exact hj);have e1:(m.take (min m.length loc'.len)).getD i []=m.getD i []:=by rw [Y0b,Y1l,Y6 hi,<- Y0b]
    rw [hesz,e1]
    simpa [Y0b,Y0d] using this)
   have e2:b.elems.take 0++(m.take (min m.length loc'.len)++b.elems.drop (0+(m.take (min m.length loc'.len)).length))=m.take b.elems.length++b.elems.drop m.length:=by
    rw [hln,<- hlen,Y1r,Y1e,Y15];rcases Nat.le_total m.length b.elems.length with h|h
    . rw [Y1X h,YA h,Y0q]
    . rw [Nat.min_eq_right h,Y3N,Y1G h]
   rw [e2] at s';simp only [Y3U,Y1k,<- Z5f ad hs] at hst;rw [hmin];refine⟨_,w',F,φ,?_,s'.weaken fun _ h=>h.1,.val _⟩;rw [hpre,hbase];simp only [hst,YS]
theorem Zbw (s:St' C Fr e h F φ a w) {id:Nat} {x:Operand} {i:Nat} {p:PV} {h':X2} (hd:X3 (.extract x i) e h id=some (p,h')):Xf P C Fr e F φ a w (Instr.extract (a.eval x) i) id p h':=by
 simp only [X3] at hd
 split at hd
 . rename_i l hl
   split at hd
   case isFalse=>simp at hd
   rename_i hi;cases hd;obtain⟨vs,hv,h1,h2⟩:=(s.eval hl).tup_inv;have hi':i<vs.size:=by omega
   exact Xf.quiet s (val:=vs.getD i undef) (by simp [Instr.extract,hv,hi',Array.getD]) (h2 i hi)
 . simp at hd
theorem Zij (s:St' C Fr e h F φ a w) {id:Nat} {f:FuncId} {caps:Array Operand} {p:PV} {h':X2} (hd:X3 (.mkfn f caps.toList) e h id=some (p,h')):Xf P C Fr e F φ a w (Instr.makeFunc (.func f) (#[].map a.eval) (caps.map a.eval)) id p h':=by
 simp only [X3] at hd
 split at hd
 . rename_i l hl;cases hd;obtain⟨h1,h2⟩:=s.evals hl;refine Xf.quiet s (val:=.func (.func f) #[] (caps.map a.eval)) (by simp [Instr.makeFunc]) (.fn f _ l (by simpa using h1) fun i hi=>?_);have:=h2 i hi;rw [<- Z1P];simpa using this
 . simp at hd
theorem ZlD (s:St' C Fr e h F φ a w) {id:Nat} {ts:Array TypeId} {ty:TypeId} {x y:Operand} {p:PV} {h':X2} (hd:X3 (.mx x y) e h id=some (p,h')):Xf P C Fr e F φ a w (Builtin.max_ ts ty #[a.eval x,a.eval y]) id p h':=by
 simp only [X3] at hd
 split at hd
 . rename_i k n k' m hx hy;cases hd;exact Xf.quiet s (by rw [(s.eval hx).val_inv,(s.eval hy).val_inv]; exact run_max_int2 w ts ty k k' n m) (.val _)
 . simp at hd
theorem ZlE (s:St' C Fr e h F φ a w) {id:Nat} {ts:Array TypeId} {ty:TypeId} {x y:Operand} {p:PV} {h':X2} (hd:X3 (.mn x y) e h id=some (p,h')):Xf P C Fr e F φ a w (Builtin.min_ ts ty #[a.eval x,a.eval y]) id p h':=by
 simp only [X3] at hd
 split at hd
 . rename_i k n k' m hx hy;cases hd;exact Xf.quiet s (by rw [(s.eval hx).val_inv,(s.eval hy).val_inv]; exact run_min_int2 w ts ty k k' n m) (.val _)
 . simp at hd
end
section
variable {P:Program} {C:Ctx} {Fr:Nat->Prop} {e:Env} {h:X2} {F:XL} {φ:XO} {a:Act} {w:World}
theorem Z2t {t:TypeId} {k:Nat} (ht:X1a P t=some k):(k=0/\∃ i,P.underlying t=some (.int i)) \/ (k=1/\P.underlying t=some .bool) \/ (k=2/\P.underlying t=some .string):=by
 unfold X1a at ht
 split at ht
 . rename_i i hu; cases ht; exact .inl ⟨rfl,i,hu⟩
 . rename_i hu; cases ht; exact .inr (.inl ⟨rfl,hu⟩)
 . rename_i hu; cases ht; exact .inr (.inr ⟨rfl,hu⟩)
 . cases ht
theorem Z4v {k:Nat} {p q:PV} {b:Bool} (he:X1W k p q=some b):(k=0/\∃ i x y,p=.val (.int i x)/\q=.val (.int i y)/\b=(x == y)) \/ (k=1/\∃ x y,p=.val (.bool x)/\q=.val (.bool y)/\b=(x == y)) \/ (k=2/\∃ x y,p=.val (.string x)/\q=.val (.string y)/\b=(x == y)):=by
 unfold X1W at he
 split at he
 . split at he
   . rename_i hc; obtain⟨rfl,rfl⟩:=hc; cases he; exact .inl ⟨rfl,_,_,_,rfl,rfl,rfl⟩
   . cases he
 . split at he
   . rename_i hc; subst hc; cases he; exact .inr (.inl ⟨rfl,_,_,rfl,rfl,rfl⟩)
   . cases he
 . split at he
   . rename_i hc; subst hc; cases he; exact .inr (.inr ⟨rfl,_,_,rfl,rfl,rfl⟩)
   . cases he
 . cases he
theorem Zbx {t:TypeId} {k:Nat} (ht:X1a P t=some k) {u v:Value} {p q:PV} (hp:Rep F φ u p) (hq:Rep F φ v q) {b:Bool} (he:X1W k p q=some b) (d:Nat):(Op.equalIn (d+1) t u v).run P w=.ok b w:=by
 rcases Z4v he with⟨rfl,i,x,y,rfl,rfl,rfl⟩|⟨rfl,x,y,rfl,rfl,rfl⟩|⟨rfl,x,y,rfl,rfl,rfl⟩
 all_goals
  obtain rfl:=hp.val_inv;obtain rfl:=hq.val_inv;rcases Z2t ht with⟨h1,i,hu⟩|⟨h1,hu⟩|⟨h1,hu⟩
  all_goals first
   | (cases h1; done)
   | (unfold Op.equalIn
      simp [Y9 hu])
theorem Z2g:∀ {ks:List Nat} {l m:List PV} {b:Bool},Xk ks l m=some b->l.length=ks.length/\m.length=ks.length
 | [],[],[],_,_=>⟨rfl,rfl⟩
 | k :: ks, x :: l, y :: m, b, h => by
   simp only [Xk] at h
   split at h
   . rename_i b1 b2 h1 h2;have:=Z2g h2;exact⟨by simp [this.1],by simp [this.2]⟩
   . cases h
 | [],[],_ :: _,_,h=>by simp [Xk] at h
 | [],_ :: _,_,_,h=>by simp [Xk] at h
 | _ :: _,[],_,_,h=>by simp [Xk] at h
 | _ :: _,_ :: _,[],_,h=>by simp [Xk] at h
theorem Z4w {t:TypeId} (hl:X1l P t=some (false,1)) {vs:Array Value} {i:Nat} (hi:i<vs.size):(part t vs i).run P w=.ok (vs.getD i undef) w:=by
 obtain⟨_,d,inf,hu,hd,hinf,hsz⟩:=Z2L hl;simp [part,Z2k hu hd,hi,Array.getD]
theorem toList_getD' (vs:Array Value) (i:Nat):vs.toList.getD i undef=vs.getD i undef:=by simp [Y0b,Y0d]
theorem Z1q (x:PV) (l:List PV) (j:Nat):(x :: l).getD (j+1) pvu=l.getD j pvu:=rfl
theorem Zdc {d:Nat} {xs ys:Array Value}:∀ {fs:List Field} {i:Nat} {ks:List Nat} {l m:List PV} {b:Bool},X2Q P fs i=some ks->Xk ks l m=some b->i+l.length<=xs.size->i+m.length<=ys.size ->
 (∀ j,j<l.length->Rep F φ (xs.getD (i+j) undef) (l.getD j pvu))->(∀ j,j<m.length->Rep F φ (ys.getD (i+j) undef) (m.getD j pvu)) ->
 (forIn fs ((none, ()) : Option Bool × Unit) fun f __s =>
   if f.name = "_" then pure (ForInStep.yield (none,()))
   else do
    let __do_lift <- part f.type xs f.offset
    let __do_lift_1 <- part f.type ys f.offset
    let __do_lift <- Op.equalIn (d+1) f.type __do_lift __do_lift_1
    if __do_lift=false then pure (ForInStep.done (some false,())) else pure (ForInStep.yield (none,())):Sem (Option Bool×Unit)).run P w=.ok (if b=true then none else some false,()) w
 | [], i, ks, l, m, b, hf, he, _, _, _, _ => by
   obtain rfl : []=ks:=by simpa [X2Q] using hf
   obtain⟨h1,h2⟩:=Z2g he;obtain rfl:l = []:=YP h1;obtain rfl:m = []:=YP h2;obtain rfl:true=b:=by simpa [Xk] using he
   simp
 | f :: fs, i, ks, l, m, b, hf, he, hx, hy, hrx, hry => by
   simp only [X2Q] at hf
   split at hf
   case h_2=>cases hf
   rename_i k ks' hk hks
   split at hf
   case isFalse=>cases hf
   rename_i hc;cases hf;simp only [Y0k,Y0n,bne_iff_ne,ne_eq,Y1S] at hc;obtain⟨⟨hn,hlay⟩,hoff⟩:=hc;cases l with
   | nil=>simp [Xk] at he
   | cons p l =>
     cases m with
     | nil=>simp [Xk] at he
     | cons q m =>
       simp only [Xk] at he
       split at he
       case h_2=>cases he
       rename_i b1 b2 h1 h2;cases he;have hxi:i<xs.size:=by simp at hx; omega
       have hyi:i<ys.size:=by simp at hy; omega
       have r1:=hrx 0 (by simp);have r2:=hry 0 (by simp);simp only [Y1k] at r1 r2;have e0:=Zbx (w:=w) hk r1 r2 h1 d;have ih:=Zdc (d:=d) (xs:=xs) (ys:=ys) (fs:=fs) (i:=i+1) hks h2 (by simp at hx ⊢;omega) (by simp at hy ⊢;omega)
        (fun j hj=>by have:=hrx (j+1) (by simpa using hj); rw [Z1q] at this; rw [show i+1+j=i+(j+1) by omega]; exact this)
        (fun j hj=>by have:=hry (j+1) (by simpa using hj); rw [Z1q] at this; rw [show i+1+j=i+(j+1) by omega]; exact this)
       rw [Y3Z];simp only [hn,Y26,Y1a,hoff,Z4w hlay hxi,Z4w hlay hyi,YS,e0];cases b1 with
       | true=>simp only [Bool.true_eq_false,Y26,Y22,YS,Y1g]; exact ih
       | false=>simp
theorem Za6 {d:Nat} {el:TypeId} {k:Nat} (hk:X1a P el=some k) (hlay:X1l P el=some (false,1)) {xs ys:Array Value}:∀ {n i:Nat} {l m:List PV} {b:Bool},Xk (List.replicate n k) l m=some b->i+l.length<=xs.size->i+m.length<=ys.size ->
 (∀ j,j<l.length->Rep F φ (xs.getD (i+j) undef) (l.getD j pvu))->(∀ j,j<m.length->Rep F φ (ys.getD (i+j) undef) (m.getD j pvu)) ->
 (forIn (List.range' i n) ((none, ()) : Option Bool × Unit) fun i __s => do
   let __do_lift <- part el xs (i*1)
   let __do_lift_1 <- part el ys (i*1)
   let __do_lift <- Op.equalIn (d+1) el __do_lift __do_lift_1
   if __do_lift=false then pure (ForInStep.done (some false,())) else pure (ForInStep.yield (none,())):Sem (Option Bool×Unit)).run P w=.ok (if b=true then none else some false,()) w
 | 0, i, l, m, b, he, _, _, _, _ => by
   obtain⟨h1,h2⟩:=Z2g he;obtain rfl:l = []:=YP h1;obtain rfl:m = []:=YP h2;obtain rfl:true=b:=by simpa [Xk] using he
   simp
 | n + 1, i, l, m, b, he, hx, hy, hrx, hry => by
   rw [Y3n] at he;cases l with
   | nil=>simp [Xk] at he
   | cons p l =>
     cases m with
     | nil=>simp [Xk] at he
     | cons q m =>
       simp only [Xk] at he
       split at he
       case h_2=>cases he
       rename_i b1 b2 h1 h2;cases he;have hxi:i<xs.size:=by simp at hx; omega
       have hyi:i<ys.size:=by simp at hy; omega
       have r1:=hrx 0 (by simp);have r2:=hry 0 (by simp);simp only [Y1k] at r1 r2;have e0:=Zbx (w:=w) hk r1 r2 h1 d;have ih:=Za6 (d:=d) hk hlay (xs:=xs) (ys:=ys) (n:=n) (i:=i+1) h2 (by simp at hx ⊢;omega) (by simp at hy ⊢;omega)
        (fun j hj=>by have:=hrx (j+1) (by simpa using hj); rw [Z1q] at this; rw [show i+1+j=i+(j+1) by omega]; exact this)
        (fun j hj=>by have:=hry (j+1) (by simpa using hj); rw [Z1q] at this; rw [show i+1+j=i+(j+1) by omega]; exact this)
       rw [List.range'_succ,Y3Z];simp only [Y1a,Y20,Z4w hlay hxi,Z4w hlay hyi,YS,e0];cases b1 with
       | true =>
         simp only [Bool.true_eq_false,Y26,Y22,YS,Y1g];simpa only [Y20] using ih
       | false=>simp
theorem Za7 {el:TypeId} (hlay:X1l P el=some (false,1)):(sizeOf el).run P w=.ok 1 w:=by
 obtain⟨_,d,inf,hu,hd,hinf,hsz⟩:=Z2L hlay;rw [Zi hinf,hsz]
theorem ZfW {t:TypeId} {ks:List Nat} (ht:X2i P t=some ks) {u v:Value} {l m:List PV} (hp:Rep F φ u (.agg l)) (hq:Rep F φ v (.agg m)) {b:Bool} (he:Xk ks l m=some b) (d:Nat):(Op.equalIn (d+2) t u v).run P w=.ok b w:=by
 obtain⟨xs,rfl,hx,_,hrx⟩:=hp.agg_inv;obtain⟨ys,rfl,hy,_,hry⟩:=hq.agg_inv;unfold X2i at ht
 split at ht
 . cases ht
 split at ht
 . rename_i fs hu
   split at ht
   . cases ht
   rename_i hs;have hs':P.stoodInHeld t=false:=by simpa using hs
   have key:=Zdc (w:=w) (d:=d) (xs:=xs) (ys:=ys) (i:=0) ht he (by omega) (by omega) (fun j hj=>by rw [Y15]; exact hrx j hj) (fun j hj=>by rw [Y15]; exact hry j hj);unfold Op.equalIn;simp only [Y1a,Y9 hu,YS];simp [hs',<- Array.forIn_toList];rw [key];cases b<;>rfl
 . rename_i n el hu
   split at ht
   case h_2=>cases ht
   rename_i k hk
   split at ht
   case isFalse=>cases ht
   rename_i hlay;simp only [Y0n] at hlay;cases ht;have key:=Za6 (w:=w) (d:=d) hk hlay (xs:=xs) (ys:=ys) (i:=0) he (by omega) (by omega) (fun j hj=>by rw [Y15]; exact hrx j hj) (fun j hj=>by rw [Y15]; exact hry j hj);unfold Op.equalIn;simp only [Y1a,Y9 hu,YS];simp [Za7 hlay];simp only [Y20] at key;rw [key];cases b<;>rfl
 . cases ht
theorem Zet {t:TypeId} {ks:List Nat} (ht:X2i P t=some ks):P.eqGuardType P.depth t=false:=by
 unfold X2i at ht
 split at ht
 . cases ht
 . rename_i h; simpa using h
theorem Z82 {op:BinOp} {t:TypeId} {ks:List Nat} (ht:X2i P t=some ks) {x y:Operand} {va vb:Value} {p q r:PV} (hx:Rep F φ va p) (hy:Rep F φ vb q) (hs:X4l op (.cells ks) p q=some r) :
 ∃ val,(do eqGuard op t x y va vb; binOp op t va vb:Sem Value).run P w=.ok val w/\Rep F φ val r:=by
 simp only [X4l] at hs
 split at hs
 case h_2=>cases hs
 rename_i l m
 split at hs
 case h_2=>cases hs
 rename_i b hb;have key:=ZfW (w:=w) ht hx hy hb 9998;obtain⟨xs,rfl,_⟩:=hx.agg_inv;obtain⟨ys,rfl,_⟩:=hy.agg_inv;have hg:=Zet ht
 split at hs
 . cases hs;exact⟨.bool b,by simp [eqGuard,hg,binOp,Op.equal,Op.maxDepth,key],.val _⟩
 . cases hs;exact⟨.bool (!b),by simp [eqGuard,hg,binOp,Op.equal,Op.maxDepth,key],.val _⟩
 . cases hs
theorem X2G {t:TypeId} {k:Nat} (ht:X1a P t=some k) {u:Value} {p:PV} (hp:Rep F φ u p) {b:Bool} (he:X1W k p p=some b) (em:Bool) (n:Nat):(Instr.checkKey em (n+1) t u).run P w=.ok () w:=by
 rcases Z4v he with⟨rfl,i,x,y,rfl,hq,rfl⟩|⟨rfl,x,y,rfl,hq,rfl⟩|⟨rfl,x,y,rfl,hq,rfl⟩
 all_goals
  obtain rfl:=hp.val_inv;rcases Z2t ht with⟨h1,i,hu⟩|⟨h1,hu⟩|⟨h1,hu⟩
  all_goals first
   | (cases h1; done)
   | (unfold Instr.checkKey
      simp [Y9 hu])
theorem X4D {em:Bool} {n:Nat} {xs:Array Value}:∀ {fs:List Field} {i:Nat} {ks:List Nat} {l:List PV} {b:Bool},X2Q P fs i=some ks->Xk ks l l=some b->i+l.length<=xs.size->(∀ j,j<l.length->Rep F φ (xs.getD (i+j) undef) (l.getD j pvu)) ->
 (forIn fs PUnit.unit fun f __s =>
   if f.name = "_" then pure (ForInStep.yield PUnit.unit)
   else do
    let __do_lift <- part f.type xs f.offset
    Instr.checkKey em (n+1) f.type __do_lift
    pure (ForInStep.yield PUnit.unit):Sem PUnit).run P w=.ok PUnit.unit w
 | [],i,ks,l,b,hf,he,_,_=>by simp
 | f :: fs, i, ks, l, b, hf, he, hx, hrx => by
   simp only [X2Q] at hf
   split at hf
   case h_2=>cases hf
   rename_i k ks' hk hks
   split at hf
   case isFalse=>cases hf
   rename_i hc;cases hf;simp only [Y0k,Y0n,bne_iff_ne,ne_eq,Y1S] at hc;obtain⟨⟨hn,hlay⟩,hoff⟩:=hc;cases l with
   | nil=>simp [Xk] at he
   | cons p l =>
     simp only [Xk] at he
     split at he
     case h_2=>cases he
     rename_i b1 b2 h1 h2;have hxi:i<xs.size:=by simp at hx; omega
     have r1:=hrx 0 (by simp);simp only [Y1k] at r1;have e0:=X2G (w:=w) hk r1 h1 em n;have ih:=X4D (em:=em) (n:=n) (xs:=xs) (fs:=fs) (i:=i+1) hks h2 (by simp at hx ⊢;omega)
      (fun j hj=>by have:=hrx (j+1) (by simpa using hj); rw [Z1q] at this; rw [show i+1+j=i+(j+1) by omega]; exact this)
     rw [Y3Z];simp only [hn,Y26,Y1a,hoff,Z4w hlay hxi,YS,e0,Y22];exact ih
theorem X4c {em:Bool} {n:Nat} {el:TypeId} {k:Nat} (hk:X1a P el=some k) (hlay:X1l P el=some (false,1)) {xs:Array Value}:∀ {c i:Nat} {l:List PV} {b:Bool},Xk (List.replicate c k) l l=some b->i+l.length<=xs.size->(∀ j,j<l.length->Rep F φ (xs.getD (i+j) undef) (l.getD j pvu)) ->
 (forIn (List.range' i c) PUnit.unit fun i __s => do
   let __do_lift <- sizeOf el
   let __do_lift <- part el xs (i*__do_lift)
   Instr.checkKey em (n+1) el __do_lift
   pure (ForInStep.yield PUnit.unit):Sem PUnit).run P w=.ok PUnit.unit w
 | 0,i,l,b,he,_,_=>by simp
 | c + 1, i, l, b, he, hx, hrx => by
   rw [Y3n] at he;cases l with
   | nil=>simp [Xk] at he
   | cons p l =>
     simp only [Xk] at he
     split at he
     case h_2=>cases he
     rename_i b1 b2 h1 h2;have hxi:i<xs.size:=by simp at hx; omega
     have r1:=hrx 0 (by simp);simp only [Y1k] at r1;have e0:=X2G (w:=w) hk r1 h1 em n;have ih:=X4c (em:=em) (n:=n) hk hlay (xs:=xs) (c:=c) (i:=i+1) h2 (by simp at hx ⊢;omega)
      (fun j hj=>by have:=hrx (j+1) (by simpa using hj); rw [Z1q] at this; rw [show i+1+j=i+(j+1) by omega]; exact this)
     rw [List.range'_succ,Y3Z];simp only [Y1a,Za7 hlay,Y20,Z4w hlay hxi,YS,e0,Y22];exact ih
theorem X4x {t:TypeId} {ks:List Nat} (ht:X2i P t=some ks) {u:Value} {l:List PV} (hp:Rep F φ u (.agg l)) {b:Bool} (he:Xk ks l l=some b) (em:Bool) (n:Nat):(Instr.checkKey em (n+2) t u).run P w=.ok () w:=by
 obtain⟨xs,rfl,hx,_,hrx⟩:=hp.agg_inv;unfold X2i at ht
 split at ht
 . cases ht
 split at ht
 . rename_i fs hu
   split at ht
   . cases ht
   have key:=X4D (w:=w) (em:=em) (n:=n) (xs:=xs) (i:=0) ht he (by omega) (fun j hj=>by rw [Y15]; exact hrx j hj);unfold Instr.checkKey;simp only [Y1a,Y9 hu,YS];simp only [<- Array.forIn_toList,ne_eq,ite_not,Y1a,key,YS]
   rfl
 . rename_i c el hu
   split at ht
   case h_2=>cases ht
   rename_i k hk
   split at ht
   case isFalse=>cases ht
   rename_i hlay;simp only [Y0n] at hlay;cases ht;have key:=X4c (w:=w) (em:=em) (n:=n) hk hlay (xs:=xs) (i:=0) he (by omega) (fun j hj=>by rw [Y15]; exact hrx j hj);unfold Instr.checkKey;simp only [Y1a,Y9 hu,YS,Std.Legacy.Range.forIn_eq_forIn_range',Std.Legacy.Range.size,Nat.sub_zero,Y2A,Nat.div_one,key]
   rfl
 . cases ht
theorem Z5W {t:TypeId} {c:KC} (hk:X4w P t=some c):(∃ k,c=.one k/\X1a P t=some k) \/ ∃ ks,c=.agg ks/\X2i P t=some ks:=by
 unfold X4w at hk
 split at hk
 . rename_i k h; cases hk; exact .inl ⟨k,rfl,h⟩
 . cases hf : X2i P t with
   | none=>simp [hf] at hk
   | some ks=>simp [hf] at hk; exact .inr ⟨ks,hk.symm,rfl⟩
theorem Za8 {t:TypeId} {c:KC} (hk:X4w P t=some c) {u:Value} {p:PV} (hp:Rep F φ u p) (hs:X3c c p p=some true) (em:Bool):(Instr.checkKey em 10000 t u).run P w=.ok () w:=by
 rcases Z5W hk with⟨k,rfl,hk'⟩|⟨ks,rfl,hk'⟩
 . exact X2G hk' hp hs em 9999
 . simp only [X3c] at hs
   split at hs
   . exact X4x hk' hp hs em 9998
   . cases hs
theorem ZjU {t:TypeId} {c:KC} (hk:X4w P t=some c) {u v:Value} {p q:PV} (hp:Rep F φ u p) (hq:Rep F φ v q) {b:Bool} (hs:X3c c p q=some b):(Op.equal t u v).run P w=.ok b w:=by
 rcases Z5W hk with⟨k,rfl,hk'⟩|⟨ks,rfl,hk'⟩
 . exact Zbx hk' hp hq hs 9999
 . simp only [X3c] at hs
   split at hs
   . exact ZfW hk' hp hq hs 9998
   . cases hs
def X5D (es:List MapEntry) (i0:Nat) (r:Option Nat) (x:Option (Nat×Value)):Prop :=
 match r with
 | none=>x=none
 | some j=>∃ m,es[j]?=some m/\x=some (i0+j,m.val)
theorem Z5X {c:KC} {kp:PV} {row:List PV} {rs:List (List PV)} {r:Option Nat} (h:X1g c kp (row :: rs)=some r):(X3c c kp (row.getD 0 pvu)=some true/\r=some 0) \/ (X3c c kp (row.getD 0 pvu)=some false/\∃ r',X1g c kp rs=some r'/\r=r'.map (· + 1)):=by
 simp only [X1g] at h
 split at h
 . rename_i h1; cases h; exact .inl ⟨h1,rfl⟩
 . rename_i h1
   split at h
   . rename_i j hj; cases h; exact .inr ⟨h1,_,hj,rfl⟩
   . rename_i hj; cases h; exact .inr ⟨h1,_,hj,rfl⟩
   . cases h
 . cases h
theorem Z8b {t:TypeId} {c:KC} (hk:X4w P t=some c) {u:Value} {kp:PV} (hp:Rep F φ u kp):∀ {es:List MapEntry} {rs:List (List PV)} {i0:Nat} {r:Option Nat},XW F φ es rs->X1g c kp rs=some r->∃ x,(Instr.findAsking t u es i0).run P w=.ok x w/\X5D es i0 r x
 | [], [], i0, r, _, h => by
   obtain rfl:none=r:=by simpa [X1g] using h
   exact⟨none,by simp [Instr.findAsking],rfl⟩
 | m :: es, row :: rs, i0, r, hr, h => by
   obtain⟨⟨k,v,rfl,h1,h2⟩,h3⟩:=hr;rcases Z5X h with⟨he,rfl⟩|⟨he,r',hr',rfl⟩
   . exact⟨some (i0,m.val),by simp [Instr.findAsking,ZjU hk hp h1 he],m,rfl,rfl⟩
   . obtain ⟨x, hx, hf⟩ := Z8b hk hp (i0 := i0 + 1) h3 hr';refine⟨x,by simp [Instr.findAsking,ZjU hk hp h1 he,hx],?_⟩;cases r' with
     | none=>exact hf
     | some j =>
       obtain⟨m',hm,rfl⟩:=hf;exact⟨m',by simpa using hm,by rw [show i0+1+j=i0+(j+1) by omega]⟩
 | [],_ :: _,_,_,hr,_=>hr.elim
 | _ :: _,[],_,_,hr,_=>hr.elim
theorem ZfX {t:TypeId} {d:TypeDesc} {k:Nat} (hu:P.underlying t=some d) (hk:X1a P t=some k) {u v:Value} {p q:PV} (hp:Rep F φ u p) (hq:Rep F φ v q) {b:Bool} (he:X1W k p q=some b):Instr.sameNow d u v=some b:=by
 rcases Z4v he with⟨rfl,i,x,y,rfl,rfl,rfl⟩|⟨rfl,x,y,rfl,rfl,rfl⟩|⟨rfl,x,y,rfl,rfl,rfl⟩
 all_goals
  obtain rfl:=hp.val_inv;obtain rfl:=hq.val_inv;rcases Z2t hk with⟨h1,i,hu'⟩|⟨h1,hu'⟩|⟨h1,hu'⟩
  all_goals first
   | (cases h1; done)
   | (rw [hu] at hu'
      cases hu'
      simp [Instr.sameNow])
theorem Zdd {t:TypeId} {d:TypeDesc} {k:Nat} (hu:P.underlying t=some d) (hk:X1a P t=some k) {u:Value} {kp:PV} (hp:Rep F φ u kp):∀ {es:List MapEntry} {rs:List (List PV)} {i0:Nat} {r:Option Nat},XW F φ es rs->X1g (.one k) kp rs=some r->∃ x,Instr.findNow d u es i0=some x/\X5D es i0 r x
 | [], [], i0, r, _, h => by
   obtain rfl:none=r:=by simpa [X1g] using h
   exact⟨none,by simp [Instr.findNow],rfl⟩
 | m :: es, row :: rs, i0, r, hr, h => by
   obtain⟨⟨kk,v,rfl,h1,h2⟩,h3⟩:=hr;rcases Z5X h with⟨he,rfl⟩|⟨he,r',hr',rfl⟩
   . exact⟨some (i0,m.val),by simp [Instr.findNow,ZfX hu hk hp h1 he],m,rfl,rfl⟩
   . obtain ⟨x, hx, hf⟩ := Zdd hu hk hp (i0 := i0 + 1) h3 hr';refine⟨x,by simp [Instr.findNow,ZfX hu hk hp h1 he,hx],?_⟩;cases r' with
     | none=>exact hf
     | some j =>
       obtain⟨m',hm,rfl⟩:=hf;exact⟨m',by simpa using hm,by rw [show i0+1+j=i0+(j+1) by omega]⟩
 | [],_ :: _,_,_,hr,_=>hr.elim
 | _ :: _,[],_,_,hr,_=>hr.elim
theorem Z6E {t:TypeId} {c:KC} (hk:X4w P t=some c) {u:Value} {kp:PV} (hp:Rep F φ u kp) {es:List MapEntry} {rs:List (List PV)} {r:Option Nat} (hr:XW F φ es rs) (h:X1g c kp rs=some r):∃ x,(Instr.findKey t u es).run P w=.ok x w/\X5D es 0 r x:=by
 rcases Z5W hk with⟨k,rfl,hk'⟩|⟨ks,rfl,hk'⟩
 . have hd : ∃ d, P.underlying t = some d := by
    rcases Z2t hk' with⟨h1,i,hu⟩|⟨h1,hu⟩|⟨h1,hu⟩<;>exact⟨_,hu⟩
   obtain⟨d,hu⟩:=hd;obtain⟨x,hx,hf⟩:=Zdd hu hk' hp (i0:=0) hr h;exact⟨x,by simp [Instr.findKey,Y9 hu,hx],hf⟩
 . obtain ⟨x, hx, hf⟩ := Z8b (w := w) hk hp (i0 := 0) hr h;have hd:∃ d,P.underlying t=some d/\∀ u v,Instr.sameNow d u v=none:=by
    unfold X2i at hk'
    split at hk'
    . cases hk'
    split at hk'
    . rename_i fs hu; exact⟨_,hu,fun u v=>by unfold Instr.sameNow; split<;>rename_i h<;>first|rfl|cases h⟩
    . rename_i n el hu; exact⟨_,hu,fun u v=>by unfold Instr.sameNow; split<;>rename_i h<;>first|rfl|cases h⟩
    . cases hk'
   obtain⟨d,hu,hnow⟩:=hd;cases es with
   | nil =>
     refine⟨x,?_,hf⟩;simp only [Instr.findAsking,Y22] at hx;cases hx;simp [Instr.findKey,Y9 hu,Instr.findNow]
   | cons m es=>exact⟨x,by simp [Instr.findKey,Y9 hu,Instr.findNow,hnow,hx],hf⟩
theorem Zik {x y:ByteArray} (h:(x == y)=true):x=y:=Y4S (eq_of_beq (show (x.data == y.data)=true from h))
theorem Zeu (x:ByteArray):(x == x)=true:=show (x.data == x.data)=true from BEq.rfl
theorem Zde {k:Nat} {u v:Value} {p q:PV} (hp:Rep F φ u p) (hq:Rep F φ v q) (he:X1W k p q=some true) (n:Nat):Instr.sameBits n v u=true:=by
 rcases Z4v he with⟨rfl,i,x,y,rfl,rfl,hb⟩|⟨rfl,x,y,rfl,rfl,hb⟩|⟨rfl,x,y,rfl,rfl,hb⟩
 all_goals
  obtain rfl:=hp.val_inv;obtain rfl:=hq.val_inv
 . have : x = y := by simpa using hb.symm
   subst this;cases n<;>simp [Instr.sameBits]
 . have : x = y := by simpa using hb.symm
   subst this;cases n<;>simp [Instr.sameBits]
 . have : x = y := Zik hb.symm;subst this;cases n<;>simp [Instr.sameBits,Zeu]
theorem Zev {n:Nat} {xs ys:List Value}:∀ {ks:List Nat} {l m:List PV},Xk ks l m=some true->xs.length=l.length->ys.length=m.length->(∀ i,i<l.length->Rep F φ (xs.getD i undef) (l.getD i pvu))->(∀ i,i<m.length->Rep F φ (ys.getD i undef) (m.getD i pvu))->(ys.zip xs).all (fun (x,y)=>Instr.sameBits n x y)=true:=by
 induction xs generalizing ys with
 | nil=>intros; simp
 | cons x xs ih =>
   intro ks l m he hx hy hrx hry;cases ys with
   | nil=>simp
   | cons y ys =>
     cases l with
     | nil=>simp at hx
     | cons p l =>
       cases m with
       | nil=>simp at hy
       | cons q m =>
         cases ks with
         | nil=>simp [Xk] at he
         | cons k ks =>
           simp only [Xk] at he
           split at he
           case h_2=>cases he
           rename_i b1 b2 h1 h2;have hb:b1=true/\b2=true:=by simpa using he
           obtain⟨rfl,rfl⟩:=hb;have r1:=hrx 0 (by simp);have r2:=hry 0 (by simp);rw [List.zip_cons_cons,Y4Q];have e1:Instr.sameBits n y x=true:=Zde (by simpa using r1) (by simpa using r2) h1 n;simp only [e1,Y1g];exact ih h2 (by simpa using hx) (by simpa using hy) (fun i hi=>by simpa using hrx (i+1) (by simpa using hi)) (fun i hi=>by simpa using hry (i+1) (by simpa using hi))
theorem ZfY {c:KC} {u v:Value} {p q:PV} (hp:Rep F φ u p) (hq:Rep F φ v q) (he:X3c c p q=some true):(Instr.keyThatStays v u).run P w=.ok u w:=by
 have hs:Instr.sameBits 10000 v u=true:=by
  cases c with
  | one k=>exact Zde hp hq he _
  | agg ks =>
    simp only [X3c] at he
    split at he
    case h_2=>cases he
    obtain⟨xs,rfl,hx,_,hrx⟩:=hp.agg_inv;obtain⟨ys,rfl,hy,_,hry⟩:=hq.agg_inv;obtain⟨l1,l2⟩:=Z2g he;have:=Zev (n:=9999) (xs:=xs.toList) (ys:=ys.toList) he (by simpa using hx) (by simpa using hy) (fun i hi=>by rw [toList_getD']; exact hrx i hi) (fun i hi=>by rw [toList_getD']; exact hry i hi);simp only [Instr.sameBits,Y0k,Y1S];exact⟨by omega,this⟩
 simp [Instr.keyThatStays,hs]
end
section
variable {P:Program} {C:Ctx} {Fr:Nat->Prop} {e:Env} {h:X2} {F:XL} {φ:XO} {a:Act} {w:World}
theorem XW.at:∀ {es:List MapEntry} {rs:List (List PV)},XW F φ es rs->∀ {j:Nat} {m:MapEntry},es[j]?=some m->∃ k v,rs[j]?=some [k,v]/\Rep F φ m.key k/\Rep F φ m.val v
 | m :: es, r :: rs, h, 0, m', hm => by
   obtain⟨⟨k,v,rfl,h1,h2⟩,h3⟩:=h;obtain rfl:m=m':=by simpa using hm
   exact⟨k,v,rfl,h1,h2⟩
 | m :: es, r :: rs, h, j + 1, m', hm => by
   obtain⟨k,v,h1,h2,h3⟩:=h.2.at (j:=j) (m:=m') (by simpa using hm);exact⟨k,v,by simpa using h1,h2,h3⟩
 | [],[],_,_,_,hm=>by simp at hm
 | [],_ :: _,h,_,_,_=>h.elim
 | _ :: _,[],h,_,_,_=>h.elim
theorem XW.set:∀ {es:List MapEntry} {rs:List (List PV)},XW F φ es rs->∀ {j:Nat} {m:MapEntry} {k v:PV},Rep F φ m.key k->Rep F φ m.val v->XW F φ (es.set j m) (rs.set j [k,v])
 | [],[],_,_,_,_,_,_,_=>trivial
 | m :: es,r :: rs,h,0,m',k,v,h1,h2=>⟨⟨k,v,rfl,h1,h2⟩,h.2⟩
 | m :: es,r :: rs,h,j+1,m',k,v,h1,h2=>⟨h.1,h.2.set h1 h2⟩
 | [],_ :: _,h,_,_,_,_,_,_=>h.elim
 | _ :: _,[],h,_,_,_,_,_,_=>h.elim
theorem XW.push:∀ {es:List MapEntry} {rs:List (List PV)},XW F φ es rs->∀ {m:MapEntry} {k v:PV},Rep F φ m.key k->Rep F φ m.val v->XW F φ (es ++ [m]) (rs ++ [[k,v]])
 | [],[],_,m,k,v,h1,h2=>⟨⟨k,v,rfl,h1,h2⟩,Yt⟩
 | m :: es,r :: rs,h,m',k,v,h1,h2=>⟨h.1,h.2.push h1 h2⟩
 | [],_ :: _,h,_,_,_,_,_=>h.elim
 | _ :: _,[],h,_,_,_,_,_=>h.elim
theorem St'.allocMapOf (s:St' C Fr e h F φ a w) {id:Nat} (hid:Fr id) (es0:Array MapEntry) (t0:Nat) (rows0:List (List PV)) (hrows:XW F φ es0.toList rows0) :
 St' C (fun i=>Fr i/\i≠id) e (h.upd id ⟨0,rows0⟩) F (X8 φ id ⟨some ⟨w.heap.size,0,none⟩,0,0,1⟩) a (w.alloc (.map es0 t0)) :=
 s.allocOb hid _ rfl fun hext=>.inr ⟨rfl,rfl,by simp,⟨w.heap.size,0,none⟩,rfl,es0,t0,Y3v w _,hrows.imp fun _ _ _ _ _ h=>h.mono (fun _ _ h=>h) hext⟩
theorem St'.allocMap (s:St' C Fr e h F φ a w) {id:Nat} (hid:Fr id) :
 St' C (fun i=>Fr i/\i≠id) e (h.upd id ⟨0,[]⟩) F (X8 φ id ⟨some ⟨w.heap.size,0,none⟩,0,0,1⟩) a (w.alloc (.map #[] 0)):=s.allocMapOf hid #[] 0 [] Yt
theorem St'.adoptMap (s:St' C Fr e h F φ a w) {id:Nat} {b:Bx} {loc:Loc} {x:Addr} (hb:h id=some b) (hl:φ id=some loc) (hz:loc.esz=0) (hx:loc.base=some x) {es':Array MapEntry} {t':Nat} {rows:List (List PV)} (hr:XW F φ es'.toList rows) :
 St' C Fr e (h.upd id ⟨0,rows⟩) F φ a (w.putObj x.block (.map es' t')):=by
 obtain⟨loc',h1,h2,h3⟩:=s.live id b hb;obtain rfl:loc'=loc:=by rw [h1] at hl; simpa using hl
 have h2:=h2.rows hz;obtain⟨y,hy,es,t,hg,_⟩:=h2.room;obtain rfl:y=x:=by rw [hy] at hx; simpa using hx
 have hhas:loc'.has y.block:=⟨h2.cap,y,hy,rfl⟩
 have hold:∀ k,k≠y.block->(w.putObj y.block (.map es' t')).heap[k]?=w.heap[k]?:=fun k hk=>Y4M hk
 refine { nt := s.nt, glob := s.glob, marks := s.marks.mono (fun k hk => by rw [hold k (fun e => by subst e; rw [hg] at hk; cases hk)]; exact hk), loc0 := s.loc0, free := s.free, env := s.env, froz := fun x v hx => ?_, ext := s.ext, old := s.old, os := s.os, tape := s.tape, output := s.output,
          size:=by have:=s.size; simpa using this,kept:=fun k hk hG=>?_,live:=?_,sep:=?_ }
 . obtain ⟨g1, g2, g3⟩ := s.froz x v hx;refine⟨g1,g2,?_⟩;have:x.block≠y.block:=fun e=>by rw [(h3 _ hhas).2 x e] at hx; cases hx
   rw [Y2h (w:=w) (hold _ this)];exact g3
 . have : k ≠ y.block := by
    rintro rfl;rcases (h3 _ hhas).1 with h' | h'
    . omega
    . exact hG h'
   rw [hold k this];exact s.kept k hk hG
 . intro i bi hbi;by_cases hi:i=id
   . subst hi;rw [X2.upd_same] at hbi;cases hbi;exact⟨loc',h1,.inr ⟨rfl,hz,h2.cap,y,hy,es',t',World.putObj_heap_same (YF.1 hg).1,hr⟩,h3⟩
   . rw [X2.upd_ne _ _ hi] at hbi;obtain⟨li,g1,g2,g3⟩:=s.live i bi hbi;exact⟨li,g1,g2.mono (fun _ _ h=>h) (fun _ _ h=>h) (fun k hk=>hold k fun e=>by subst e; exact hi (s.sep i id bi b li loc' _ hbi hb g1 h1 hk hhas)),g3⟩
 . intro i j bi bj li lj k hi hj hli hlj hki hkj;have conv:∀ {i:Nat} {bi:Bx},(h.upd id ⟨0,rows⟩) i=some bi->∃ b0,h i=some b0:=by
    intro i bi hi;by_cases hid:i=id
    . subst hid; exact⟨b,hb⟩
    . rw [X2.upd_ne _ _ hid] at hi; exact⟨bi,hi⟩
   obtain⟨b1,g1⟩:=conv hi
   obtain⟨b2,g2⟩:=conv hj
   exact s.sep i j b1 b2 li lj k g1 g2 hli hlj hki hkj
theorem X30 {r t:Nat} {es:Array MapEntry} (hg:w.heap[r]?=some (.map es t)):(getObj r).run P w=.ok (.map es t) w:=by simp [getObj,Sem.run,hg]
theorem ZfZ (s:St' C Fr e h F φ a w) {id:Nat} (hid:Fr id) {t:TypeId}:Xf P C Fr e F φ a w (Instr.makeMap t none) id (.mp id) (h.upd id ⟨0,[]⟩):=by
 refine⟨.map (some w.heap.size),w.alloc (.map #[] 0),F,_,by simp [Instr.makeMap],(s.allocMap hid).made,?_⟩;exact .mp id ⟨some ⟨w.heap.size,0,none⟩,0,0,1⟩ ⟨w.heap.size,0,none⟩ (by simp [X8]) rfl rfl
theorem Zby {t:TypeId} {z:Bool×List Value} (hz:X3b P t=some z):∃ v,(zeroValue t).run P w=.ok v w/\Rep F φ v (X6N z.1 z.2):=by
 unfold X3b at hz
 split at hz
 case h_2=>cases hz
 rename_i i hi
 split at hz
 . rename_i cs hcs
   split at hz
   case isFalse=>cases hz
   rename_i hall;cases hz;refine⟨.agg cs,ZX hi hcs,?_⟩;simp only [X6N];refine .agg cs _ (by simp [zpv]) (fun j hj=>?_) (fun j hj=>?_)
   . have hj' : j < cs.size := by simpa [zpv] using hj
     have:=YK.1 hall cs[j] (by simp);simpa [Array.getD,hj'] using this
   . have hj' : j < cs.size := by simpa [zpv] using hj
     have e1:cs.getD j undef=cs[j]:=by simp [Array.getD,hj']
     have e2:(zpv cs.toList).getD j pvu=X3Z cs[j]:=by simp [zpv,Y0b,hj']
     rw [e1,e2];exact Z2s _
 . rename_i v _ hv
   split at hz
   case isFalse=>cases hz
   cases hz;exact⟨v,ZX hi hv,Z2s v⟩
 . cases hz
theorem Zew (s:St' C Fr e h F φ a w) {id:Nat} {t kt el:TypeId} (hu:P.underlying t=some (.map kt el)) {c:KC} (hk:X4w P kt=some c) {z:Bool×List Value} (hz:X3b P el=some z) {ok:Bool}
 {x i:Operand} {p:PV} {h':X2} (hd:X3 (.lookup c z.1 z.2 ok x i) e h id=some (p,h')):Xf P C Fr e F φ a w (Instr.lookup t (a.eval x) (a.eval i) ok) id p h':=by
 simp only [X3] at hd
 split at hd
 case h_2=>cases hd
 rename_i k kp hx hi
 split at hd
 case h_2=>cases hd
 rename_i b hb
 split at hd
 case isFalse=>cases hd
 rename_i hc;obtain⟨loc,ad,hloc,hz0,hbase,hv⟩:=(s.eval hx).mp_inv;obtain⟨loc',h1,h2,h3⟩:=s.live k b hb;obtain rfl:loc'=loc:=by rw [h1] at hloc; simpa using hloc
 obtain⟨y,hy,es,tm,hg,hr⟩:=(h2.rows hz0).room;obtain rfl:y=ad:=by rw [hy] at hbase; simpa using hbase
 have hck:=Za8 (w:=w) hk (s.eval hi) hc.2 es.isEmpty
 split at hd
 case h_3=>cases hd
 . rename_i j hj;cases hd;obtain⟨fx,hf,m,hm,rfl⟩:=Z6E (w:=w) hk (s.eval hi) hr hj;obtain⟨kk,vv,hrow,_,hvr⟩:=hr.at hm;have hval:(b.elems.getD j []).getD 1 pvu=vv:=by simp [Y0b,hrow]
   rw [hval];cases ok with
   | true =>
     refine Xf.quiet s (val:=.tuple #[m.val,.bool true]) (by simp [Instr.lookup,Y9 hu,hv,X30 hg,hck,hf]) ?_;exact .tup _ _ rfl fun i hi=>by
      match i,hi with
      | 0,_=>exact hvr
      | 1,_=>exact .val _
   | false=>exact Xf.quiet s (val:=m.val) (by simp [Instr.lookup,Y9 hu,hv,X30 hg,hck,hf]) hvr
 . rename_i hj;cases hd;obtain⟨fx,hf,rfl⟩:=Z6E (w:=w) hk (s.eval hi) hr hj;obtain⟨zv,hzr,hzrep⟩:=Zby (P:=P) (w:=w) (F:=F) (φ:=φ) hz;cases ok with
   | true =>
     refine Xf.quiet s (val:=.tuple #[zv,.bool false]) (by simp [Instr.lookup,Y9 hu,hv,X30 hg,hck,hf,hzr]) ?_;exact .tup _ _ rfl fun i hi=>by
      match i,hi with
      | 0,_=>exact hzrep
      | 1,_=>exact .val _
   | false=>exact Xf.quiet s (val:=zv) (by simp [Instr.lookup,Y9 hu,hv,X30 hg,hck,hf,hzr]) hzrep
theorem Z8c:∀ {l:List (List PV)} {ns:List Int},X3C l=some ns->l.length=ns.length/\∀ i,i<l.length->l.getD i [] = [.val (.int .u8 (ns.getD i 0))]
 | [], ns, h => by
   have:ns = []:=by simpa [X3C] using h.symm
   subst this;exact⟨rfl,fun i hi=>absurd hi (Ye i)⟩
 | x :: r, ns, h => by
   unfold X3C at h
   split at h
   . rename_i h0; cases h0
   . rename_i n r' h0;cases h0
     split at h
     case h_2=>cases h
     rename_i l hl;cases h;obtain⟨h1,h2⟩:=Z8c hl;refine⟨by simp [h1],fun i hi=>?_⟩;cases i with
     | zero=>rfl
     | succ i=>simpa using h2 i (by simpa using hi)
   . cases h
theorem Z6z (w:World) (el:TypeId) (str:ByteArray):Go.Lib.bytesWorld w el str=w.drew.alloc (.cells (Go.Lib.bytesCells w el str) el ((Go.Lib.bytesCells w el str).size,(Go.Lib.bytesCells w el str).size+1)):=by
 have h1:=Go.Lib.bytesWorld_at_new w el str;have h2:=Go.Lib.bytesWorld_at_old w el str;have h3:=Go.Lib.bytesWorld_size w el str;have hh:(Go.Lib.bytesWorld w el str).heap=(w.drew.alloc (.cells (Go.Lib.bytesCells w el str) el ((Go.Lib.bytesCells w el str).size,(Go.Lib.bytesCells w el str).size+1))).heap:=by
  apply Array.ext_getElem?;intro j;rcases Y4i j w.heap.size with hj|hj|hj
  . rw [h2 j hj];exact (Y4t w.drew _ j hj).symm
  . subst hj;rw [h1];exact (Y3v w.drew _).symm
  . rw [Y3S (by rw [h3];omega),Y3S (by simp [World.alloc,World.drew,-World.alloc_eq,-World.drew_eq];omega)]
 have hr:∀ w1 w2:World,w1.heap=w2.heap->{ w1 with heap:=w2.heap }=w1:=fun w1 w2 h=>by rw [<- h]
 have e1:Go.Lib.bytesWorld w el str={ Go.Lib.bytesWorld w el str with heap:=(w.drew.alloc (.cells (Go.Lib.bytesCells w el str) el ((Go.Lib.bytesCells w el str).size,(Go.Lib.bytesCells w el str).size+1))).heap }:=(hr _ _ hh).symm;rw [e1];unfold Go.Lib.bytesWorld World.freeze
 split<;>rfl
theorem Zbz (str:ByteArray):(X1L str).length=str.size:=by
 unfold X1L;rw [Y0f]
 rfl
theorem Zks (s:St' C Fr e h F φ a w) {id:Nat} {src dst el:TypeId} (hu:P.underlying src=some .string) (hu':P.underlying dst=some (.slice el)) (hel:P.underlying el=some (.int .u8)) {x:Operand} {p:PV} {h':X2} (hd:X3 (.s2b x) e h id=some (p,h')) :
 Xf P C Fr e F φ a w (convert src dst (a.eval x)) id p h':=by
 simp only [X3] at hd
 split at hd
 case h_2=>cases hd
 rename_i str hx
 split at hd
 case isFalse=>cases hd
 rename_i hmax;cases hd;have hv:=(s.eval hx).val_inv;have sd:=s.drew;have s1:=sd.allocBlock (.cells (Go.Lib.bytesCells w el str) el ((Go.Lib.bytesCells w el str).size,(Go.Lib.bytesCells w el str).size+1));have hF:∀ x:Addr,x.block=w.heap.size->F x=none:=fun x hx=>by
  cases hFx:F x with
  | none=>rfl
  | some v=>have:=s.lt hFx; omega
 have s2:=s1.frz (g:=w.heap.size) (Y3v w.drew _) hF (fun i b loc hb hl hk=>by have:=s.has_lt hb hl hk;omega) (.inl s.size);have hx2:=Z29 hF (Go.Lib.bytesCells w el str);have hsl:=Zbz str;refine⟨_,_,_,φ,by rw [hv]; exact Go.Lib.run_convert_string_bytes w src dst el str hu hu' hel,by rw [Z6z]; exact s2.weaken fun _ h=>h.1,?_⟩;rw [<- hsl];have hcs:(Go.Lib.bytesCells w el str).size=str.size+(grownCap w str.size 0 el-str.size):=by
  unfold Go.Lib.bytesCells;rw [Y2K,Array.size_map,Array.size_replicate]
  rfl
 have hcell:∀ i,i<str.size->(Go.Lib.bytesCells w el str).getD i undef=.int .u8 (str.data.toList.getD i 0).toNat:=fun i hi=>by
  simp [Go.Lib.bytesCells,Y0d,Y3a,List.getD,hi]
 have hrow:∀ i,i<str.size->(X1L str).getD i [] = [PV.val (.int .u8 ((str.data.toList.getD i 0).toNat:Int))]:=fun i hi=>by
  have hi':i<str.data.toList.length:=hi;unfold X1L;simp [Y0b,Y0y,Y0c hi']
 have hge:=grownCap_ge w str.size 0 el;refine .vec ⟨w.heap.size,0,none⟩ _ 1 (X1L str) false (fun i j=>(Go.Lib.bytesCells w el str).getD (i+j) undef) (fun _=>rfl) (by rw [hsl]; exact hge) (by simp) (by rw [hsl]; exact hmax) (fun j hj=>?_) (fun j k hj hk=>?_) (fun j k hj hk=>?_)
 . rw [hrow j (by omega)]; rfl
 . obtain rfl : k = 0 := by omega
   simp only [Y15,Y20,Y1k];exact Z28 F _ _ (by omega) (by rw [hcell j (by omega)]; rfl)
 . obtain rfl : k = 0 := by omega
   simp only [Y1k];rw [hcell j (by omega),hrow j (by omega)];exact .val _
theorem Zkt (s:St' C Fr e h F φ a w) {id:Nat} {src dst el:TypeId} (hu:P.underlying src=some (.slice el)) (hel:P.underlying el=some (.int .u8)) (hd':P.underlying dst=some .string) {x:Operand} {p:PV} {h':X2} (hd:X3 (.b2s x) e h id=some (p,h')) :
 Xf P C Fr e F φ a w (convert src dst (a.eval x)) id p h':=by
 simp only [X3] at hd
 split at hd
 case h_2=>cases hd
 rename_i l fl hx
 split at hd
 case h_2=>cases hd
 rename_i ns hns;cases hd;obtain⟨hlen,hget⟩:=Z8c hns;have empty:ns = []->strOfNums ns=ByteArray.empty:=by rintro rfl; rfl
 rcases (s.eval hx).vec_inv with⟨rfl,hv⟩|⟨ad,cap,esz,cs,hv,hs,-,-,-,hez,hF,hR⟩
 . have h0 : ns = [] := Y30.1 (by rw [<- hlen]; rfl);refine Xf.quiet s (val:=.string (strOfNums ns)) ?_ (.val _);rw [hv,empty h0,run_convert_bytes_nil w src el hu hel 0 0 dst hd']
 . by_cases hl0 : l = []
   . subst hl0;have h0:ns = []:=Y30.1 (by rw [<- hlen]; rfl);refine Xf.quiet s (val:=.string (strOfNums ns)) ?_ (.val _);rw [hv,empty h0,Y2E,run_convert_bytes_string w src dst el (some ad) 0 cap hu hel hd',run_bytesToString w ad 0 cap [] (by simp [loadCells,loadCellsFrom])]
     rfl
   . have had := hs hl0;have hp:0<l.length:=Y3o.2 hl0;have he1:esz=1:=by rw [<- hez 0 hp,hget 0 hp]; rfl
     subst he1;refine Xf.quiet s (val:=.string (strOfNums ns)) ?_ (.val _);rw [hv];obtain⟨ab,ao,asp⟩:=ad;have:asp=none:=had;subst this;refine run_convert_bytes_arg w src el hu hel ab ao l.length cap ns hlen.symm (fun i hi=>?_) dst hd';have h1:=hF i 0 hi (by decide);have h2:=hR i 0 hi (by decide);rw [hget i hi] at h2;have h3:cs i 0=.int .u8 (ns.getD i 0):=h2.val_inv;have h4:=(s.froz _ _ h1).2.2;rw [h3] at h4;simpa using h4
theorem Za9 {c:KC} {kp:PV}:∀ {rs:List (List PV)} {j:Nat},X1g c kp rs=some (some j)->X3c c kp ((rs.getD j []).getD 0 pvu)=some true
 | [],j,h=>by simp [X1g] at h
 | row :: rs, j, h => by
   rcases Z5X h with⟨he,hr⟩|⟨he,r',hr',hr⟩
   . cases hr; simpa using he
   . cases r' with
     | none=>cases hr
     | some j' =>
       cases hr;simpa using Za9 hr'
theorem Zex (s:St' C Fr e h F φ a w) {id:Nat} {t kt el:TypeId} (hu:P.underlying t=some (.map kt el)) {c:KC} (hk:X4w P kt=some c)
 {x i v:Operand} {p:PV} {h':X2} (hd:X3 (.mapset c x i v) e h id=some (p,h')):p=pvu/\∃ w',(Instr.mapUpdate t (a.eval x) (a.eval i) (a.eval v)).run P w=.ok () w'/\St' C Fr e h' F φ a w':=by
 simp only [X3] at hd
 split at hd
 case h_2=>cases hd
 rename_i k kp q hx hi hvq
 split at hd
 case h_2=>cases hd
 rename_i b hb
 split at hd
 case isFalse=>cases hd
 rename_i hc;obtain⟨loc,ad,hloc,hz0,hbase,hv⟩:=(s.eval hx).mp_inv;obtain⟨loc',h1,h2,h3⟩:=s.live k b hb;obtain rfl:loc'=loc:=by rw [h1] at hloc; simpa using hloc
 obtain⟨y,hy,es,tm,hg,hr⟩:=(h2.rows hz0).room;obtain rfl:y=ad:=by rw [hy] at hbase; simpa using hbase
 have hck:=Za8 (w:=w) hk (s.eval hi) hc.2 false;have hset:∀ o:Obj,(setObj y.block o).run P w=.ok () (w.putObj y.block o):=fun o=>by simp [setObj,Sem.run,hg,World.putObj]
 split at hd
 case h_3=>cases hd
 . rename_i j hj;cases hd;obtain⟨fx,hf,m,hm,rfl⟩:=Z6E (w:=w) hk (s.eval hi) hr hj;obtain⟨kk,vv,hrow,hkr,hvr⟩:=hr.at hm;have hkey:=Za9 hj;have hkk:(b.elems.getD j []).getD 0 pvu=kk:=by simp [Y0b,hrow]
   rw [hkk] at hkey;have hm':es[j]?=some m:=by simpa using hm
   have hst:=ZfY (P:=P) (w:=w) (s.eval hi) hkr hkey
   refine⟨rfl,w.putObj y.block (.map (es.modify j fun e=>{ e with key:=a.eval i,val:=a.eval v }) tm),by
    simp [Instr.mapUpdate,Y9 hu,hv,X30 hg,hck,hf,hm',hst,hset],?_⟩
   have hrows:XW F φ (es.modify j fun e=>{ e with key:=a.eval i,val:=a.eval v }).toList (b.elems.set j [kp,q]):=by
    have e1:(es.modify j fun e=>{ e with key:=a.eval i,val:=a.eval v }).toList=es.toList.set j { m with key:=a.eval i,val:=a.eval v }:=by
     apply Y4j;intro n;rw [<- Array.getElem?_toList.symm,Array.getElem?_modify,Y1p];by_cases hn:j=n
     . subst hn;have hlt:j<es.size:=(YF.1 hm').1;have hb0:=(YF.1 hm').2;simp [hm',hlt,hb0]
     . simp [hn]
    rw [e1];exact hr.set (s.eval hi) (s.eval hvq)
   exact s.adoptMap hb h1 hz0 hy hrows
 . rename_i hj;cases hd;obtain⟨fx,hf,rfl⟩:=Z6E (w:=w) hk (s.eval hi) hr hj
   refine⟨rfl,w.putObj y.block (.map (es.push { key:=a.eval i,val:=a.eval v,born:=tm }) (tm+1)),by
    simp [Instr.mapUpdate,Y9 hu,hv,X30 hg,hck,hf,hset],?_⟩
   have hrows:XW F φ (es.push { key:=a.eval i,val:=a.eval v,born:=tm }).toList (b.elems ++ [[kp,q]]):=by
    rw [Array.toList_push];exact hr.push (s.eval hi) (s.eval hvq)
   exact s.adoptMap hb h1 hz0 hy hrows
theorem Z71 {t el:TypeId} (hu:P.underlying t=some (.slice el)) (d n c:Nat) (b:Option Addr):(Op.equalIn (d+1) t (.slice b n c) (.slice none 0 0)).run P w=.ok b.isNone w:=by
 unfold Op.equalIn;cases b<;>simp [Y9 hu]
theorem Zg0 {t el:TypeId} (hu:P.underlying t=some (.slice el)) (n c:Nat) (b:Option Addr):(binOp .eql t (.slice b n c) (.slice none 0 0)).run P w=.ok (.bool b.isNone) w:=by
 simp only [binOp];simp [Op.equal,Op.maxDepth,Z71 hu 9999]
theorem Zg1 {t el:TypeId} (hu:P.underlying t=some (.slice el)) (n c:Nat) (b:Option Addr):(binOp .neq t (.slice b n c) (.slice none 0 0)).run P w=.ok (.bool (!b.isNone)) w:=by
 simp only [binOp];simp [Op.equal,Op.maxDepth,Z71 hu 9999]
theorem Zil (s:St' C Fr e h F φ a w) {id:Nat} {t el:TypeId} {n:Nat} {inf:TypeInfo} (hu:P.underlying t=some (.array n el)) (hi1:P.info? el=some inf) (h1:inf.size=1) (hn:n<=1048576)
 {x:Operand} {lo hi:Option Operand} {p:PV} {h':X2} (hd:X3 (.slcA n x lo hi) e h id=some (p,h')):Xf P C Fr e F φ a w (Instr.sliceAt t (a.eval x) (lo.map a.eval) (hi.map a.eval) none) id p h':=by
 simp only [X3] at hd;have run:∀ (ad:Addr) (A B:Int),a.eval x=.pointer (some ad)->XM e 0 lo=some A->XM e n hi=some B->0<=A->A<=B->B<=(n:Int)->A<(n:Int)->(Instr.sliceAt t (a.eval x) (lo.map a.eval) (hi.map a.eval) none).run P w=.ok (.slice (some (ad.add A.toNat)) (B.toNat-A.toNat) (n-A.toNat)) w:=by
  intro ad A B hv hA hB h0 hAB hBn hAn;have hne:¬ n=A.toNat:=by omega
  have hsz:=Zi (w:=w) hi1;rw [h1] at hsz;rcases Z4u s hA with⟨rfl,rfl⟩|⟨ka,oa,rfl,ha⟩<;>rcases Z4u s hB with⟨rfl,rfl⟩|⟨kb,ob,rfl,hb'⟩
  all_goals first
   | (simp [Instr.sliceAt,Y9 hu,Instr.sureAddr,hv,Instr.sliceBounds,Instr.sliceBound,asIntOf,hsz, *]; done)
   | (simp [Instr.sliceAt,Y9 hu,Instr.sureAddr,hv,Instr.sliceBounds,Instr.sliceBound,asIntOf,hsz, *]; intro h0;omega)
   | (simp [Instr.sliceAt,Y9 hu,Instr.sureAddr,hv,Instr.sliceBounds,Instr.sliceBound,asIntOf,hsz, *]; rw [Y6 (by omega)]; simp [hsz,hne]; done)
   | (simp [Instr.sliceAt,Y9 hu,Instr.sureAddr,hv,Instr.sliceBounds,Instr.sliceBound,asIntOf,hsz, *]; rw [Y6 (by omega)]; simp [hsz]; intro h0;omega)
   | (simp [Instr.sliceAt,Y9 hu,Instr.sureAddr,hv,Instr.sliceBounds,Instr.sliceBound,asIntOf,hsz, *]; rw [Y6 (by omega)]; done)
   | (simp [Instr.sliceAt,Y9 hu,Instr.sureAddr,hv,Instr.sliceBounds,Instr.sliceBound,asIntOf,hsz, *]; rw [Y6 (by omega)]; simp [hsz,hne]; done)
   | (simp [Instr.sliceAt,Y9 hu,Instr.sureAddr,hv,Instr.sliceBounds,Instr.sliceBound,asIntOf,hsz, *]; rw [Y6 (by omega)]; simp [hsz]; intro h0;omega)
   | (simp [Instr.sliceAt,Y9 hu,Instr.sureAddr,hv,Instr.sliceBounds,Instr.sliceBound,asIntOf,hsz, *]; rw [Y6 (by omega)]; done)
   | (simp [Instr.sliceAt,Y9 hu,Instr.sureAddr,hv,Instr.sliceBounds,Instr.sliceBound,asIntOf,hsz, *]; rw [Y6 (by omega)]; rw [Y6 (by omega)]; simp [hsz,hne]; done)
   | (simp [Instr.sliceAt,Y9 hu,Instr.sureAddr,hv,Instr.sliceBounds,Instr.sliceBound,asIntOf,hsz, *]; rw [Y6 (by omega)]; rw [Y6 (by omega)]; simp [hsz]; intro h0;omega)
   | (simp [Instr.sliceAt,Y9 hu,Instr.sureAddr,hv,Instr.sliceBounds,Instr.sliceBound,asIntOf,hsz, *]; rw [Y6 (by omega)]; rw [Y6 (by omega)]; done)
   | (simp [Instr.sliceAt,Y9 hu,Instr.sureAddr,hv,Instr.sliceBounds,Instr.sliceBound,asIntOf,hsz, *]; rw [Y6 (by omega)]; simp; rw [Y6 (by omega)]; simp [hsz,hne]; done)
   | (simp [Instr.sliceAt,Y9 hu,Instr.sureAddr,hv,Instr.sliceBounds,Instr.sliceBound,asIntOf,hsz, *]; rw [Y6 (by omega)]; simp; rw [Y6 (by omega)]; simp [hsz]; intro h0;omega)
   | (simp [Instr.sliceAt,Y9 hu,Instr.sureAddr,hv,Instr.sliceBounds,Instr.sliceBound,asIntOf,hsz, *]; rw [Y6 (by omega)]; simp; rw [Y6 (by omega)]; done)
 split at hd
 . rename_i l hx
   split at hd
   case h_2=>cases hd
   rename_i A B hA hB
   split at hd
   case isFalse=>cases hd
   rename_i hb;obtain⟨b0,b1,b2,b3,b4⟩:=hb;cases hd;obtain⟨ad,cs,hv,hs,hF,hR⟩:=(s.eval hx).cp_inv;refine Xf.quiet s (run ad A B hv hA hB b0 b1 b2 b3) ?_;rw [ZZ _ _ hs];have hlen:(((l.take B.toNat).drop A.toNat).map fun c => [c]).length=B.toNat-A.toNat:=by rw [Y0f,YV,Y0o]; omega
   have hget:∀ i,i<B.toNat-A.toNat->(((l.take B.toNat).drop A.toNat).map fun c => [c]).getD i [] = [l.getD (A.toNat+i) pvu]:=fun i hi=>by
    simp only [Y0b,Y0y,Y1B,Y1l];rw [Y6 (by omega),Y0c (show A.toNat+i<l.length by omega)]
    rfl
   have:=Rep.vec (F:=F) (φ:=φ) ⟨ad.block,ad.off+A.toNat,none⟩ (n-A.toNat) 1 (((l.take B.toNat).drop A.toNat).map fun c => [c]) false (fun i _=>cs (A.toNat+i)) (fun _=>rfl) (by rw [hlen];omega) (by simp) (by rw [hlen]; simp only [Xj];omega)
    (fun i hi => by rw [hlen] at hi; rw [hget i hi]; rfl) (fun i j hi hj => by
      rw [hlen] at hi;obtain rfl:j=0:=by omega
      have:=hF (A.toNat+i) (by omega);simp only [Y20,Y1k];rw [Y1N]
      exact this) (fun i j hi hj=>by
      rw [hlen] at hi;obtain rfl:j=0:=by omega
      rw [hget i hi]
      exact hR (A.toNat+i) (by omega))
   rwa [hlen] at this
 . rename_i k i o hx
   split at hd
   case h_2=>cases hd
   rename_i A B hA hB
   split at hd
   case isFalse=>cases hd
   rename_i hb;obtain⟨b0,b1,b2,b3⟩:=hb;cases hd;obtain⟨loc,ad,hloc,hz,hbase,hs,hv⟩:=(s.eval hx).ptr_inv;refine Xf.quiet s (run _ A B hv hA hB b0 b1 b2 b3) ?_;rw [ZZ _ _ rfl];have:=Rep.sl (F:=F) (φ:=φ) k i (o+A.toNat) (B.toNat-A.toNat) (n-A.toNat) loc ad hloc hz hbase hs (by omega);rw [show ad.off+(i*loc.esz+o)+A.toNat=ad.off+(i*loc.esz+(o+A.toNat)) by omega];exact this
 . cases hd
theorem Zim (s:St' C Fr e h F φ a w) {id:Nat} {t el:TypeId} {inf:TypeInfo} (hu:P.underlying t=some (.slice el)) (hi:P.info? el=some inf)
 {x:Operand} {lo hi' mx:Option Operand} {p:PV} {h':X2} (hd:XH (.slc inf.size x lo hi' mx) e h id=some (p,h')):Xf P C Fr e F φ a w (Instr.sliceAt t (a.eval x) (lo.map a.eval) (hi'.map a.eval) (mx.map a.eval)) id p h':=by
 have hel:P.elem t=el:=by simp [Program.elem,hu]
 have hu':P.underlying t=some (.slice (P.elem t)):=by rw [hel]; exact hu
 cases mx with
 | some m=>simp [XH] at hd
 | none =>
   simp only [XH] at hd
   split at hd
   case h_4=>cases hd
   case h_3 =>
    rename_i l hx
    split at hd
    case h_2=>cases hd
    rename_i A B hA hB
    split at hd
    case isFalse=>cases hd
    rename_i hc;obtain⟨rfl,rfl⟩:=hc;cases hd;rcases (s.eval hx).vec_inv with⟨rfl,hv⟩|⟨ad,cap,esz,cs,hv,hs,hcap,hfull,hmax,he,hF,hR⟩
    . have hrun : (Instr.sliceAt t (a.eval x) (lo.map a.eval) (hi'.map a.eval) (none : Option Value)).run P w = .ok (sliced none 0 0 0 inf.size) w := by
       rw [hv,Y2k w t _ _ _ _ hu',Y2W w t none 0 0 hu',Z2a (len:=0) (cap:=0) (A:=0) (B:=0) s hA hB (by omega) (by omega) (by simp) (Y0m _)];simp [hel,Zi hi]
      exact Xf.quiet s hrun (.vecnil true)
    . have hrun : (Instr.sliceAt t (a.eval x) (lo.map a.eval) (hi'.map a.eval) (none : Option Value)).run P w = .ok (sliced (some ad) 0 l.length cap inf.size) w := by
       rw [hv,Y2k w t _ _ _ _ hu',Y2W w t (some ad) l.length cap hu',Z2a (A:=0) (B:=(l.length:Int)) s hA hB (by omega) (by omega) (by omega) hcap];simp [hel,Zi hi]
      refine Xf.quiet s hrun ?_;have hsl:sliced (some ad) 0 l.length cap inf.size=.slice (some ad) l.length cap:=by
       unfold sliced;by_cases hc:cap=0
       . simp [hc]
       . simp [Y2L hc,Addr.add]
      rw [hsl,<- hv];exact s.eval hx
   . rename_i k hx
     split at hd
     case h_2=>cases hd
     rename_i b hb
     split at hd
     case h_2=>cases hd
     rename_i A B hA hB
     split at hd
     case isFalse=>cases hd
     rename_i hbd;cases hd;obtain⟨loc',h1,hz,hv⟩:=(s.eval hx).own_inv;obtain⟨h2,h3⟩:=s.cellAt hb h1 hz;have hlen:=h2.len;have hcap:=h2.cap;have hesz:inf.size=loc'.esz:=by rw [<- h2.esz]; exact hbd.2.symm
     have hrun:(Instr.sliceAt t (a.eval x) (lo.map a.eval) (hi'.map a.eval) (none:Option Value)).run P w=.ok (sliced loc'.base A.toNat B.toNat loc'.cap inf.size) w:=by
      rw [hv,Y2k w t _ _ _ _ hu',Y2W w t loc'.base loc'.len loc'.cap hu',Z2a s (by exact hA) (by rw [<- hlen]; exact hB) hbd.1.1 hbd.1.2.1 (by rw [<- hlen]; exact hbd.1.2.2) h2.cap];simp [hel,Zi hi]
     refine Xf.quiet s hrun ?_;unfold sliced;refine .view k A.toNat (B.toNat-A.toNat) loc' _ h1 hz (by omega) (fun hlt=>?_);rw [Y8 (by omega),hesz]
   . rename_i k o n hx
     split at hd
     case h_2=>cases hd
     rename_i b hb
     split at hd
     case h_2=>cases hd
     rename_i A B hA hB
     split at hd
     case isFalse=>cases hd
     rename_i hbd;cases hd;obtain⟨loc,base,hloc,hz,hvc,hbs,hv⟩:=(s.eval hx).view_inv;obtain⟨loc',h1,h2,h3⟩:=s.live k b hb;obtain rfl:loc'=loc:=by rw [h1] at hloc; simpa using hloc
     have h2:=h2.cells hz;have hlen:=h2.len;have hcap:=h2.cap;have hesz:inf.size=loc'.esz:=by rw [<- h2.esz]; exact hbd.2.2.symm
     have hrun:(Instr.sliceAt t (a.eval x) (lo.map a.eval) (hi'.map a.eval) (none:Option Value)).run P w=.ok (sliced base A.toNat B.toNat (loc'.cap-o) inf.size) w:=by
      rw [hv,Y2k w t _ _ _ _ hu',Y2W w t base n (loc'.cap-o) hu',Z2a s (by exact hA) (by exact hB) hbd.1.1 hbd.1.2.1 hbd.1.2.2 (by omega)];simp [hel,Zi hi]
     refine Xf.quiet s hrun ?_;unfold sliced;rw [show loc'.cap-o-A.toNat=loc'.cap-(o+A.toNat) by omega];refine .view k (o+A.toNat) (B.toNat-A.toNat) loc' _ h1 hz (by omega) (fun hlt=>?_);rw [Y8 (by omega),hesz,hbs (by omega),Option.map_map];congr 1;funext y;simp [Addr.add_add,Y1t]
theorem Zg2 (s:St' C Fr e h F φ a w) {id:Nat} {t ty el:TypeId} {z:List Value} (hu:P.underlying t=some (.slice el)) (hz:XX P el=some z)
 {x:Operand} {p:PV} {h':X2} (hd:X3 (.clear z x) e h id=some (p,h')):Xf P C Fr e F φ a w (Builtin.clear_ #[t] ty #[a.eval x]) id p h':=by
 obtain⟨i,v,hi,hv0,rfl,hz1,hzl,hzp⟩:=Z12 hz;simp only [X3] at hd
 split at hd
 case h_2=>cases hd
 rename_i k lo n hx
 split at hd
 case h_2=>cases hd
 rename_i b hb
 split at hd
 case isFalse=>cases hd
 rename_i hcond;obtain⟨hle,hbesz⟩:=hcond;cases hd;obtain⟨loc,base,hloc,hz,hvc,hbs,hv⟩:=(s.eval hx).view_inv;obtain⟨loc',h1,h2,h3⟩:=s.live k b hb;obtain rfl:loc'=loc:=by rw [h1] at hloc; simpa using hloc
 have h2:=h2.cells hz;have hlen:=h2.len;have hcap:=h2.cap;have hesz:loc'.esz=v.cells.toList.length:=by rw [<- h2.esz,hbesz]
 by_cases hn:n=0
 . subst hn;have hrun:(Builtin.clear_ #[t] ty #[a.eval x]).run P w=.ok (.tuple #[]) w:=by
    rw [hv];cases base<;>simp [Builtin.clear_,Y9 hu]
   have hsame:h.upd k ⟨b.esz,b.elems.take lo++(List.replicate 0 (zpv v.cells.toList)++b.elems.drop (lo+0))⟩=h:=by
    funext j;by_cases hj:j=k
    . subst hj;rw [X2.upd_same,hb];simp
    . rw [X2.upd_ne _ _ hj]
   rw [hsame];exact⟨_,w,F,φ,hrun,s.weaken fun _ h=>h.1,.val _⟩
 . have hc0 : loc'.cap ≠ 0 := by omega
   obtain⟨ad,hbase,hs,_⟩:=h2.room hc0;have hbv:=hbs (by omega);rw [hbase,Y1i,ZZ _ _ hs] at hbv;have hzs:v.cells.size=loc'.esz:=by rw [hesz]; simp
   have hNC:X12 F φ v.cells.toList.length (Builtin.zeroCells v.cells n) (List.replicate n (zpv v.cells.toList)):=by
    have:=X12.zero (F:=F) (φ:=φ) hz1 n;simpa [Builtin.zeroCells] using this
   obtain⟨w',hst,s'⟩:=X43 (P:=P) s hb h1 hz hc0 hbase (lo:=lo) (news:=(Builtin.zeroCells v.cells n).toList) (m:=List.replicate n (zpv v.cells.toList)) (by simp [size_zeroCells,hzs]) (fun c hc=>by rw [Y1q hc,hesz]; simp [zpv]) (by simp;omega) (fun i j hi hj=>by
    have:=hNC.rep i j hi (by rw [<- hesz]; exact hj);rw [<- hesz] at this
    simpa [Y0b,Y0d] using this)
   rw [Y37] at s';refine⟨_,w',F,φ,?_,s'.weaken fun _ h=>h.1,.val _⟩;rw [hv,hbv];obtain⟨n',rfl⟩:∃ n',n=n'+1:=⟨n-1,by omega⟩
   simp only [Builtin.clear_,Y35,Y04,Y2E,Y15,Nat.lt_add_one,getElem?_pos,List.getElem_toArray,List.getElem_cons_zero,Y1a,Y9 hu,YS,ZX hi hv0];rw [hst]
   rfl
end
end
end Go.Proofs.YtoolafpiaobphaaGreatDoor
