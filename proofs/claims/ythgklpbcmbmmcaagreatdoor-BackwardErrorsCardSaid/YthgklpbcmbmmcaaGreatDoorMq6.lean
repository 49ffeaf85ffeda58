/-
 Proved: for every input the law BackwardErrors returns true,never panics,and leaves its arguments as0 they were,on the given card's conditions (the table of the bits package reads as0 the program's text lays it,and is tied to it).
-/
import Derived.SevenTiedAt
import Derived.Test.YthgklpbcmbmmcaaGreatDoorCards
import Derived.Test.YthgklpbcmbmmcaaGreatDoorTie
import Derived.Test.YthgklpbcmbmmcaaGreatDoorMq5
set_option linter.unusedSimpArgs false
set_option linter.unusedVariables false
set_option linter.unusedSectionVars false
namespace Go.Proofs.YthgklpbcmbmmcaaGreatDoor
open Go.RowKit
attribute [local irreducible] aw opsK dK
theorem Zb1 {f:FuncId} {args:List PV} {v:Value} (hb:HasBody Tryz.prog f) (h:∀ (F:Froz) (w:World) (vs:Array Value),Holds F w→RepL F noLoc vs args→Calls Tryz.prog f vs w fun e w'=>e=.returned v∧Below w.heap.size w w'):Spec Tryz.prog f args (· = .val v):=by
 refine⟨hb,fun F w vs hF hv=>(h F w vs hF hv).mono ?_⟩
 rintro en w' ⟨rfl,hbel⟩
 exact⟨v,.val v,F,rfl,rfl,.val _,hbel,Holds.kept hF hbel,fun _ _ h=>h,fun _ _=>rfl⟩
def numS (k:Nat):ByteArray:=⟨(Go.Lib.decDigits k).toArray⟩
theorem Z64 (k:Nat) (hk:k<100):Spec Tryz.prog 94 [.val (.int .i64 (k:Int))] (· = .val (.string (numS k))):=by
 refine Zb1 ⟨_,Tryz.func94,by kernel_rfl,by kernel_rfl⟩ fun F w vs hF hv=>?_
 obtain rfl:vs = #[.int .i64 (k:Int)]:=by
  refine Array.ext hv.1 fun i h1 h2=>?_
  have hi:i=0:=by simp at h2; omega
  subst hi
  have:=(show Rep F noLoc (vs.getD 0 undef) (.val (.int .i64 (k:Int))) from hv.2 0 (Nat.zero_lt_succ _)).val_inv
  simpa [Array.getD_eq_getD_getElem?,h1] using this
 refine (Any.strconv_Itoa_small lays171 k hk w).mono ?_
 rintro e w' ⟨rfl,rfl⟩
 exact⟨rfl,Below.refl _ _⟩
def strC (x:ByteArray):List PV := [.val (.string x)]
theorem Z2A (l:List ByteArray):pureLL (l.map strC):=Zi (enc:=strC) (fun _=>⟨trivial,trivial⟩) l
def joinS (l:List ByteArray) (sep:ByteArray):ByteArray:=⟨(Go.Lib.join (l.map (·.data.toList)) sep.data.toList).toArray⟩
theorem ZdK (l:List ByteArray) (fl:Bool) (sep:ByteArray) (hl:l.length≤140737488355328) (hlen:(Go.Lib.join (l.map (·.data.toList)) sep.data.toList).length≤140737488355328):Spec Tryz.prog 95 [.vec (l.map strC) fl,.val (.string sep)] (· = .val (.string (joinS l sep))):=by
 refine Zb1 ⟨_,Tryz.func95,by kernel_rfl,by kernel_rfl⟩ fun F w vs hF hv=>?_
 have hv1:Rep F noLoc (vs.getD 0 undef) (.vec (l.map strC) fl):=hv.2 0 (show 0<2 by decide)
 have hv2:vs.getD 1 undef=.string sep:=(show Rep F noLoc (vs.getD 1 undef) (.val (.string sep)) from hv.2 1 (show 1<2 by decide)).val_inv
 have hvs:vs = #[vs.getD 0 undef,vs.getD 1 undef]:=by
  refine Array.ext hv.1 fun i h1 h2=>?_
  have hs:vs.size=2:=hv.1
  have hi:i=0 ∨ i=1:=by omega
  rcases hi with rfl|rfl<;>simp [Array.getD_eq_getD_getElem?,h1]
 rw [hvs,hv2]
 rcases hv1.vec_inv with⟨h0,hq⟩|⟨x,cap,esz,cs,hq,hs,hcap,hfull,hmax,he,hF1,hR⟩
 · have h0 : l = [] := List.map_eq_nil_iff.1 h0
   subst h0
   rw [hq]
   refine (Any.strings_Join_none lays156 builderExtra156 none 0 sep w).mono ?_
   rintro e w' ⟨rfl,rfl⟩
   exact⟨rfl,Below.refl _ _⟩
 · rw [hq, List.length_map]
   by_cases hne:l = []
   · subst hne
     refine (Any.strings_Join_none lays156 builderExtra156 (some x) cap sep w).mono ?_
     rintro e w' ⟨rfl,rfl⟩
     exact⟨rfl,Below.refl _ _⟩
   · have hsp := hs (by simpa using hne)
     obtain⟨bk,o,sp⟩:=x
     dsimp only at hsp
     subst hsp
     rw [List.length_map] at hcap
     have hpos:0<l.length:=List.length_pos_iff.2 hne
     have hez:esz=1:=by
      have:=he 0 (by simpa using hpos)
      rw [← this]
      simp [List.getD_eq_getElem?_getD,hpos,strC]
     subst hez
     have hcell:∀ (j:Nat) y,l[j]?=some y→F ⟨bk,o+j,none⟩=some (.string y):=fun j y hj=>by
      have hjl:=(List.getElem?_eq_some_iff.1 hj).1
      have h1:=hF1 j 0 (by simpa using hjl) (by decide)
      have h2:=hR j 0 (by simpa using hjl) (by decide)
      have h3:((l.map strC).getD j []).getD 0 pvu=.val (.string y):=by simp [List.getD_eq_getElem?_getD,hj,strC]
      rw [h3] at h2
      have h4:=h2.val_inv
      rw [h4] at h1
      simpa using h1
     refine Any.strings_Join lays156 builderExtra156 bk o cap l sep w (fun j y hj=>(hF.1 _ _ (hcell j y hj)).2.2) ?_ hl hcap hlen
     obtain⟨y,hy⟩:∃ y,l[0]?=some y:=⟨_,List.getElem?_eq_getElem hpos⟩
     have:=(hF.1 _ _ (hcell 0 y hy)).2.2
     unfold World.cell? at this
     split at this
     · rename_i ho; exact (Array.getElem?_eq_some_iff.1 ho).1
     · cases this
def litS (c:Cu) (r:Nat):List ByteArray:=(if c.1.testBit r then [numS r] else [])++if c.2.testBit r then [⟨#[33]⟩++numS r] else []
def litsS (c:Cu) (rs:List Nat):List ByteArray:=rs.flatMap (litS c)
def textS (c:Cu):ByteArray:=if litsS c (mem (c.1 ||| c.2)) = [] then ⟨#[102,117,108,108]⟩ else joinS (litsS c (mem (c.1 ||| c.2))) ⟨#[32]⟩
theorem Zc0 (c:Cu) (rs:List Nat) (r:Nat):litsS c (rs ++ [r])=litsS c rs++litS c r:=by unfold litsS; rw [List.flatMap_append]; simp
theorem Zfb (c:Cu) (r:Nat):(litS c r).length≤2:=by unfold litS; rw [List.length_append]; split<;>split<;>simp
theorem Z65 (c:Cu):∀ rs:List Nat,(litsS c rs).length≤2*rs.length
 | []=>by simp [litsS]
 | r :: rs => by
   have h1:=Zfb c r
   have h2:=Z65 c rs
   unfold litsS at h2 ⊢
   rw [List.flatMap_cons,List.length_append,List.length_cons]
   omega
theorem Z8C {k:Nat} (hk:k<100):(numS k).data.toList.length≤2:=by
 show (Go.Lib.decDigits k).toArray.toList.length≤2
 by_cases h:k<10
 · rw [Go.Lib.decDigits_one h]; simp
 · rw [Go.Lib.decDigits_two h hk]; simp
theorem ZdL (x:ByteArray):((⟨#[33]⟩:ByteArray)++x).data.toList=33 :: x.data.toList:=by rw [ByteArray.data_append]; simp
theorem Zc1 {c:Cu} {rs:List Nat} (h:∀ r∈rs,r<100):∀ x∈litsS c rs,x.data.toList.length≤3:=fun x hx=>by
 obtain⟨r,hr,hx⟩:=List.mem_flatMap.1 hx
 have hn:=Z8C (h r hr)
 unfold litS at hx
 rcases List.mem_append.1 hx with hx|hx
 · split at hx
   · rw [List.mem_singleton] at hx; subst hx; omega
   · cases hx
 · split at hx
   · rw [List.mem_singleton] at hx; subst hx
     rw [ZdL,List.length_cons]; omega
   · cases hx
theorem Zgf {l:List (List UInt8)} {k:Nat} (h:∀ x∈l,x.length≤k):Go.Lib.lens l≤k*l.length:=by
 induction l with
 | nil=>simp [Go.Lib.lens]
 | cons x l ih =>
   have h1:=h x (List.mem_cons_self ..)
   have h2:=ih fun y hy=>h y (List.mem_cons_of_mem _ hy)
   have:Go.Lib.lens (x :: l)=x.length+Go.Lib.lens l:=by simp [Go.Lib.lens]
   rw [this,List.length_cons,Nat.mul_succ]; omega
theorem Zfc {l:List ByteArray} (h:∀ x∈l,x.data.toList.length≤3) (hl:l.length≤1000) (sep:ByteArray) (hs:sep.data.toList.length≤10):(Go.Lib.join (l.map (·.data.toList)) sep.data.toList).length≤140737488355328:=by
 cases l with
 | nil=>simp [Go.Lib.join_nil]
 | cons x l =>
   rw [List.map_cons,Go.Lib.join_length]
   have:=Zgf (k:=3) (l:=(x :: l).map (·.data.toList)) fun y hy=>by
    obtain⟨z,hz,rfl⟩:=List.mem_map.1 hy
    exact h z hz
   rw [List.map_cons] at this
   simp only [List.length_cons,List.length_map] at this hl ⊢
   have h2:sep.data.toList.length*l.length≤10*l.length:=Nat.mul_le_mul_right _ hs
   omega
set_option maxRecDepth 100000 in
set_option maxHeartbeats 4000000 in
theorem Zc2 (c:Cu) (hc:Ok64 c):Spec Tryz.prog 45 [cuP c] (· = .val (.string (textS c))):=by
 have hor:=Z1W hc.1 hc.2
 refine Z2 ok45 (Nat.le_of_ble_eq_true rfl) fun C hC=>?_
 refine Zj ?_
 refine Z8 ?_
 refine Z4 rfl rfl rfl ?_
 refine gd 5 ⟨?_⟩
 refine Zb (ZJ (id:=0) (i0:=0) (j0:=0) rfl (by decide) (by decide) rfl 1 (by decide) (by decide)) ?_
 refine gd 9 ⟨?_⟩
 refine Z3 (Z1Q c.1 c.2 hc.1 hc.2) rfl rfl rfl ⟨Z1 _,Z1 _,trivial⟩ rfl ?_
 have hM:textS c=if litsS c (mem (c.1 ||| c.2)) = [] then ⟨#[102,117,108,108]⟩ else joinS (litsS c (mem (c.1 ||| c.2))) ⟨#[32]⟩:=rfl
 rw [hM]
 generalize c.1 ||| c.2=M at hor ⊢
 refine Z3 (Z1O M) rfl rfl rfl ⟨Z1 _,trivial⟩ rfl ?_
 refine go ?_
 refine Z2J (X:=List Nat) hC (caps := [.cp [.vec (words (digs M)) false]]) [(1,.cp (cuC c)),(3,.ptr 0 0 0),(10,.fn 130 [.cp [.vec (words (digs M)) false]])]
  (fun z => [(0,⟨1,[[.own 1]]⟩),(1,⟨1,(litsS c z).map strC⟩)]) rfl ⟨⟨Z7 _,trivial⟩,trivial⟩ (Z2M M hor) (fun _=>rfl)
  (fun ex pre z=>ex=.normal∧z=pre.map (·.val)) 2 (by decide) [] ⟨rfl,rfl⟩
  (Z3l (EnvQ.mem (ρ := fun i => i) (m := 2) (L := [(1, .cp (cuC c)), (3, .ptr 0 0 0), (10, .fn 130 [.cp [.vec (words (digs M)) false]])]) ⟨⟨_, rfl, .pure _ (Zk c)⟩, ⟨_, rfl, .ptr (ρ := fun i => i) 0 0 0 (by decide)⟩, ⟨_, rfl, .pure _ ⟨⟨Z7 _, trivial⟩, trivial⟩⟩, trivial⟩)
    (HeapQ.mem (ρ:=fun i=>i) (m:=2) (L := [(0,⟨1,[[.own 1]]⟩),(1,⟨1,(litsS c []).map strC⟩)]) ⟨⟨by decide,_,rfl,RenB.single ⟨.own (ρ:=fun i=>i) 1 (by decide),trivial⟩ rfl⟩,⟨by decide,_,rfl,.same _ trivial⟩,trivial⟩) hC (by decide))
  (fun z q hq=>by simp at hq; rcases hq with rfl|rfl<;>exact Nat.zero_lt_succ _) _ (fun x=>rfl) ?_ ?_ ?_
 · rintro C2 hC2 pre x z ⟨-, rfl⟩ hlen
   have hx:=Z2x x.2
   have hml:=Z26 M
   have hsn:=Zc0 c (pre.map (·.val)) x.val
   have hll:=Z65 c (pre.map (·.val))
   rw [List.length_map] at hll
   generalize litsS c (pre.map (·.val))=acc at hsn hll ⊢
   have hn:=Z8C (show x.val<100 by omega)
   have hcat:∀ (e:Env) (h:Heap) (n:Nat) (q:Operand),ev e q=some (.val (.string (numS x.val)))→dEval (.bin .add .num (.const (.string ⟨#[33]⟩)) q) e h n=some (.val (.string (⟨#[33]⟩++numS x.val)),h):=fun e h n q hq=>by
    have hsz:(⟨#[33]⟩:ByteArray).size+(numS x.val).size≤9223372036854775807:=by
     have:(numS x.val).size=(numS x.val).data.toList.length:=by rw [Array.length_toList]; rfl
     rw [this]
     show 1+_≤_
     omega
    have h1:ev e (.const (.string ⟨#[33]⟩))=some (.val (.string ⟨#[33]⟩)):=rfl
    simp only [dEval,h1,hq,pbin,sbin,if_pos hsz,Option.map]
   unfold litS at hsn
   refine gd 15 ⟨?_⟩
   refine Z3 (Z17 c.1 hc.1 x.val) rfl rfl rfl ⟨Z1 _,trivial,trivial⟩ rfl ?_
   cases h1:c.1.testBit x.val
   · rw [h1, if_neg (by decide), List.nil_append] at hsn
     refine gd 24 ⟨?_⟩
     refine Z3 (Z17 c.2 hc.2 x.val) rfl rfl rfl ⟨Z1 _,trivial,trivial⟩ rfl ?_
     cases h2:c.2.testBit x.val
     · rw [h2, if_neg (by decide), List.append_nil] at hsn
       refine go ?_
       exact⟨.inl rfl,pre.map (·.val) ++ [x.val],fun i=>i,⟨rfl,by rw [List.map_append]; rfl⟩,fun i hi=>rfl,Zv,
        ⟨⟨_,rfl,.pure _ (Zk c)⟩,⟨_,rfl,.ptr (ρ:=fun i=>i) 0 0 0 (by decide)⟩,⟨_,rfl,.pure _ ⟨⟨Z7 _,trivial⟩,trivial⟩⟩,trivial⟩,
        ⟨⟨by decide,_,rfl,RenB.single ⟨.own (ρ:=fun i=>i) 1 (by decide),trivial⟩ rfl⟩,⟨by decide,_,rfl,by rw [hsn]; exact .same _ (Z2A _)⟩,trivial⟩⟩
     · rw [h2, if_pos rfl] at hsn
       refine gd 27 ⟨?_⟩
       refine Zz (Z64 x.val (by omega)) rfl rfl rfl ⟨trivial,trivial⟩ ?_
       refine Zt (hcat _ _ _ _ rfl) rfl rfl ?_
       refine gd 30 ⟨?_⟩
       refine Zt (Zq (k:=1) (m := [strC (⟨#[33]⟩++numS x.val)]) (fl:=true) rfl rfl rfl (fun q hq=>by rw [List.mem_singleton] at hq; subst hq; rfl) rfl (by
        show ((acc.map strC).length+1)*16≤_
        rw [List.length_map];omega)) rfl rfl ?_
       refine go ?_
       refine⟨.inl rfl,pre.map (·.val) ++ [x.val],mv 1 7,⟨rfl,by rw [List.map_append]; rfl⟩,Z5u (by decide),ZB rfl,
        ⟨⟨_,rfl,.pure _ (Zk c)⟩,⟨_,rfl,.ptr (ρ:=mv 1 7) 0 0 0 (by decide)⟩,⟨_,rfl,.pure _ ⟨⟨Z7 _,trivial⟩,trivial⟩⟩,trivial⟩,
        ⟨⟨by decide,_,rfl,RenB.single ⟨.own (ρ:=mv 1 7) 1 (by decide),trivial⟩ rfl⟩,⟨by decide,_,rfl,?_⟩,trivial⟩⟩
       show RenB _ _ ⟨1,acc.map strC ++ [strC (⟨#[33]⟩++numS x.val)]⟩ ⟨1,(litsS c (pre.map (·.val) ++ [x.val])).map strC⟩
       have hp:=Z2A (acc ++ [⟨#[33]⟩++numS x.val])
       rw [hsn,List.map_append]
       rw [List.map_append] at hp
       exact .same _ hp
   · rw [h1, if_pos rfl] at hsn
     refine gd 18 ⟨?_⟩
     refine Zz (Z64 x.val (by omega)) rfl rfl rfl ⟨trivial,trivial⟩ ?_
     refine gd 20 ⟨?_⟩
     refine Zt (Zq (k:=1) (m := [strC (numS x.val)]) (fl:=true) rfl rfl rfl (fun q hq=>by rw [List.mem_singleton] at hq; subst hq; rfl) rfl (by
      show ((acc.map strC).length+1)*16≤_
      rw [List.length_map];omega)) rfl rfl ?_
     refine gd 24 ⟨?_⟩
     refine Z3 (Z17 c.2 hc.2 x.val) rfl rfl rfl ⟨Z1 _,trivial,trivial⟩ rfl ?_
     cases h2:c.2.testBit x.val
     · rw [h2, if_neg (by decide), List.append_nil] at hsn
       refine go ?_
       refine⟨.inl rfl,pre.map (·.val) ++ [x.val],mv 1 6,⟨rfl,by rw [List.map_append]; rfl⟩,Z5u (by decide),ZB rfl,
        ⟨⟨_,rfl,.pure _ (Zk c)⟩,⟨_,rfl,.ptr (ρ:=mv 1 6) 0 0 0 (by decide)⟩,⟨_,rfl,.pure _ ⟨⟨Z7 _,trivial⟩,trivial⟩⟩,trivial⟩,
        ⟨⟨by decide,_,rfl,RenB.single ⟨.own (ρ:=mv 1 6) 1 (by decide),trivial⟩ rfl⟩,⟨by decide,_,rfl,?_⟩,trivial⟩⟩
       show RenB _ _ ⟨1,acc.map strC ++ [strC (numS x.val)]⟩ ⟨1,(litsS c (pre.map (·.val) ++ [x.val])).map strC⟩
       have hp:=Z2A (acc ++ [numS x.val])
       rw [hsn,List.map_append]
       rw [List.map_append] at hp
       exact .same _ hp
     · rw [h2, if_pos rfl] at hsn
       refine gd 27 ⟨?_⟩
       refine Zz (Z64 x.val (by omega)) rfl rfl rfl ⟨trivial,trivial⟩ ?_
       refine Zt (hcat _ _ _ _ rfl) rfl rfl ?_
       refine gd 30 ⟨?_⟩
       refine Zt (Zq (k:=6) (m := [strC (⟨#[33]⟩++numS x.val)]) (fl:=true) rfl rfl rfl (fun q hq=>by rw [List.mem_singleton] at hq; subst hq; rfl) rfl (by
        show ((acc.map strC ++ [strC (numS x.val)]).length+1)*16≤_
        rw [List.length_append,List.length_map,List.length_singleton];omega)) rfl rfl ?_
       refine go ?_
       refine⟨.inl rfl,pre.map (·.val) ++ [x.val],mv 1 13,⟨rfl,by rw [List.map_append]; rfl⟩,Z5u (by decide),ZB rfl,
        ⟨⟨_,rfl,.pure _ (Zk c)⟩,⟨_,rfl,.ptr (ρ:=mv 1 13) 0 0 0 (by decide)⟩,⟨_,rfl,.pure _ ⟨⟨Z7 _,trivial⟩,trivial⟩⟩,trivial⟩,
        ⟨⟨by decide,_,rfl,RenB.single ⟨.own (ρ:=mv 1 13) 1 (by decide),trivial⟩ rfl⟩,⟨by decide,_,rfl,?_⟩,trivial⟩⟩
       show RenB _ _ ⟨1,acc.map strC ++ [strC (numS x.val)] ++ [strC (⟨#[33]⟩++numS x.val)]⟩ ⟨1,(litsS c (pre.map (·.val) ++ [x.val])).map strC⟩
       have hp:=Z2A (acc++([numS x.val] ++ [⟨#[33]⟩++numS x.val]))
       rw [hsn,List.map_append,List.map_append,← List.append_assoc]
       rw [List.map_append,List.map_append,← List.append_assoc] at hp
       exact .same _ hp
 · rintro xs z hxs ⟨-, rfl⟩
   rw [hxs]
   have hsz:=Zc1 (c:=c) (rs:=mem M) fun r hr=>by have:=Z2x hr; omega
   have hll:=Z65 c (mem M)
   have hml:=Z26 M
   generalize litsS c (mem M)=l at hsz hll ⊢
   refine gd 33 ⟨?_⟩
   cases l with
   | nil =>
     refine Z5 (Za (v:=true) rfl rfl) rfl rfl ?_
     refine go ?_
     exact Z6 rfl trivial rfl
   | cons y l =>
     refine Z5 (Za (v:=false) rfl (by simp;omega)) rfl rfl ?_
     repeat' (first|refine Zfl 34 ?_|(first|refine st ?_|(apply B<;>intro hb<;>try cases hb)))
     refine At.mk ?_
     refine Zb (Zf (ob:=0) (id:=1) (i0:=0) (j0:=0) rfl rfl (by decide) (Z2A _) (Nat.le_of_ble_eq_true rfl) (Nat.le_of_ble_eq_true rfl) rfl) ?_
     refine gd 35 ⟨?_⟩
     refine Z3 (ZdK (y :: l) false ⟨#[32]⟩ (by omega) (Zfc hsz (by omega) _ (by decide))) rfl rfl rfl ⟨Z2A _,trivial,trivial⟩ rfl ?_
     refine go ?_
     exact Z6 rfl trivial (by rw [if_neg (by simp)])
 · rintro ex pre z - ⟨rfl,_⟩ (h|⟨id,h⟩)<;>cases h
section
variable {P:Program} {e:Env} {h:Heap} {n:Nat}
theorem Z3Q {d:Option Nat} {z:Rsv} {i mask:Nat} {op:AOp} {iso:Nat} {alt:Bool} {g:Nat×Bool} {xs:List DItem} {K:Env→Heap→Prop} (hw:wantB (some g) e=some false) (hk:dK P z n xs (updO e d pvu) h K):dK P z n (⟨i,⟨d,op,some g⟩,mask,iso,alt⟩ :: xs) e h K:=by
 unfold dK
 exact⟨_,.skip hw,fun p' f' hh=>by obtain⟨rfl,rfl⟩:=hh; exact hk⟩
end
theorem ZfA:setN 0=.agg [.vec [] false]:=by unfold setN; rw [Zy]; rfl
theorem Zfd {x:RU} (hx:x.tg<64) {s:Nat} (hs:s<18446744073709551616):nextR x s<18446744073709551616:=by
 unfold nextR
 split
 · exact Nat.lt_of_le_of_lt Nat.and_le_left hs
 · exact Z1W hs (ZL hx)
def stepP (x:RU) (s:Nat) (ok:Bool):PV:=.tup [setN (if ok then nextR x s else 0),.val (.bool ok)]
theorem Z4u (x:RU) (s:Nat):PV.tup [.agg [.vec [] false],.val (.bool false)]=stepP x s false:=by
 show _=PV.tup [setN 0,.val (.bool false)]
 rw [ZfA]
set_option maxRecDepth 100000 in
set_option maxHeartbeats 8000000 in
theorem Zc3 {t:PB} (h:PbOk t) (S:List Nat) (s:Nat) (hs:s<18446744073709551616) (k:Nat) (hk:k<t.rs.length):Spec Tryz.prog 91 [.agg (pbP t S),setN s,.val (.int .i64 (k:Int))] (· = stepP t.rs[k] s (stepR t t.rs[k] s)):=by
 have hro:=h.rs _ (List.getElem_mem hk)
 have hpp:=Z1n t S
 have hrl:(t.rs.map ruP).length=t.rs.length:=by simp
 refine Z2 ok91 (Nat.le_of_ble_eq_true rfl) fun C hC=>?_
 refine Zj ?_
 refine Z8 ?_
 refine Z4 rfl rfl rfl ?_
 refine Z4 rfl rfl rfl ?_
 refine gd 15 ⟨?_⟩
 refine Zn rfl ?_
 refine Z5 (Za (v:=false) rfl (decide_eq_false (by omega))) rfl rfl ?_
 refine gd 22 ⟨?_⟩
 refine Zn rfl ?_
 refine Z5 (Za (v:=false) rfl (decide_eq_false (by rw [hrl];omega))) rfl rfl ?_
 refine gd 28 ⟨?_⟩
 refine Z5 (Zo (xs:=t.rs) (g:=ruP) rfl rfl k rfl hk rfl) rfl rfl ?_
 generalize t.rs[k]=x at hro ⊢
 have hxt:=hro.tg
 have hx64:=hro.m.lt (by decide)
 have hnx:=Zfd (x:=x) (show x.tg<64 by omega) hs
 have hgood:=ZbP h S (nextR x s) hnx
 have hclo:=Z2l t.l S s hs
 have hho:=Z3M x.cu (clo t.l s) hx64 (Z8i _ _)
 have hhas:=Z17 s hs x.tg
 have hne:=ZaQ (r:=x) (show x.tg<64 by omega) hs
 have hw:=Z1z s hs x.tg (by omega)
 have hst:stepR t x s=(decide (s.testBit x.tg=x.rev)&&(goodB t (nextR x s)&&(x.rev||hoC x.cu (clo t.l s)))):=by
  unfold stepR
  rw [decide_eq_decide.2 hne]
 rw [hst]
 refine gd 33 ⟨?_⟩
 refine Z3 hw rfl rfl rfl ⟨Z1 _,trivial,trivial⟩ rfl ?_
 cases hv:x.rev
 · have hnv : nextR x s = s ||| 2 ^ x.tg := by unfold nextR; rw [hv]; rfl
   rw [← hnv]
   refine gd 35 ⟨?_⟩
   refine Z5 (Za (v:=false) rfl hv) rfl rfl ?_
   refine gd 43 ⟨?_⟩
   refine Zz hhas rfl rfl rfl ⟨Z1 _,trivial,trivial⟩ ?_
   refine gd 45 ⟨?_⟩
   refine Zt (Za (v:=false) rfl hv) rfl rfl ?_
   cases hb:s.testBit x.tg
   case true =>
    repeat' (first|refine Z3Q rfl ?_|(first|refine st ?_|(apply B<;>intro hb<;>try cases hb)))
    exact Z1c (r:=.tup [.agg [.vec [] true],.val (.bool false)]) rfl ⟨⟨trivial,trivial⟩,trivial,trivial⟩ (Z4u x s)
   refine gd 49 ⟨?_⟩
   refine Z2t rfl ?_
   refine Zt (Za (v:=false) rfl hv) rfl rfl ?_
   refine gd 57 ⟨?_⟩
   refine Z2t rfl ?_
   refine Zz hclo rfl rfl rfl ⟨Zs _ _,Z1 _,trivial⟩ ?_
   refine Z2t rfl ?_
   refine Zz hho rfl rfl rfl ⟨Zm _,Z1 _,trivial⟩ ?_
   cases hh:hoC x.cu (clo t.l s)
   case false =>
    repeat' (first|refine Z3Q rfl ?_|(first|refine st ?_|(apply B<;>intro hb<;>try cases hb)))
    exact Z1c (r:=.tup [.agg [.vec [] true],.val (.bool false)]) rfl ⟨⟨trivial,trivial⟩,trivial,trivial⟩ (by cases goodB t (nextR x s)<;>exact Z4u x s)
   refine gd 65 ⟨?_⟩
   refine Z2t rfl ?_
   refine Zz hgood rfl rfl rfl ⟨hpp,Z1 _,trivial⟩ ?_
   cases hg:goodB t (nextR x s)
   case false =>
    repeat' (first|refine Z3Q rfl ?_|(first|refine st ?_|(apply B<;>intro hb<;>try cases hb)))
    exact Z1c (r:=.tup [.agg [.vec [] true],.val (.bool false)]) rfl ⟨⟨trivial,trivial⟩,trivial,trivial⟩ (Z4u x s)
   repeat' (first|refine Z3Q rfl ?_|(first|refine st ?_|(apply B<;>intro hb<;>try cases hb)))
   exact Z6 rfl ⟨Z1 _,trivial,trivial⟩ rfl
 · have hnv : nextR x s = minusN s (2 ^ x.tg) := by unfold nextR; rw [hv]; rfl
   have hwo:=Z1l s hs (x.tg:Int)
   rw [Z2S hs (by omega),← hnv] at hwo
   refine gd 35 ⟨?_⟩
   refine Z5 (Za (v:=true) rfl hv) rfl rfl ?_
   refine gd 39 ⟨?_⟩
   refine Z3 hwo rfl rfl rfl ⟨Z1 _,trivial,trivial⟩ rfl ?_
   refine gd 43 ⟨?_⟩
   refine Zz hhas rfl rfl rfl ⟨Z1 _,trivial,trivial⟩ ?_
   refine gd 45 ⟨?_⟩
   refine Zt (Za (v:=true) rfl hv) rfl rfl ?_
   cases hb:s.testBit x.tg
   case false =>
    repeat' (first|refine Z3Q rfl ?_|(first|refine st ?_|(apply B<;>intro hb<;>try cases hb)))
    exact Z1c (r:=.tup [.agg [.vec [] true],.val (.bool false)]) rfl ⟨⟨trivial,trivial⟩,trivial,trivial⟩ (Z4u x s)
   refine gd 49 ⟨?_⟩
   refine Z2t rfl ?_
   refine Zt (Za (v:=true) rfl hv) rfl rfl ?_
   refine gd 65 ⟨?_⟩
   refine Z2t rfl ?_
   refine Zz hgood rfl rfl rfl ⟨hpp,Z1 _,trivial⟩ ?_
   cases hg:goodB t (nextR x s)
   case false =>
    repeat' (first|refine Z3Q rfl ?_|(first|refine st ?_|(apply B<;>intro hb<;>try cases hb)))
    exact Z1c (r:=.tup [.agg [.vec [] true],.val (.bool false)]) rfl ⟨⟨trivial,trivial⟩,trivial,trivial⟩ (Z4u x s)
   repeat' (first|refine Z3Q rfl ?_|(first|refine st ?_|(apply B<;>intro hb<;>try cases hb)))
   exact Z6 rfl ⟨Z1 _,trivial,trivial⟩ rfl
set_option maxHeartbeats 4000000 in
theorem ZdM {t:PB} (h:PbOk t) (S:List Nat) (p:List Nat) (fl:Bool) (hl:p.length≤1000000) {E:Nat} (hr:RunOk t t.st p E):Spec Tryz.prog 43 [.agg (pbP t S),.vec (inL p) fl] (· = .tup [setN E,.val (.int .i64 (p.length:Int)),.val (.bool true)]):=by
 have hpp:=Z1n t S
 have hpl:=Z3z p
 have hlen:=Z9V p
 refine Z2 ok43 (Nat.le_of_ble_eq_true rfl) fun C hC=>?_
 have hpc:∀ D,innL D (pbP t S):=fun D=>Z1f (fun _ h=>h.elim) _ hpp
 have hpi:∀ D,innLL D (inL p):=fun D=>Zg (fun _ h=>h.elim) _ hpl
 refine Zj ?_
 refine Z8 ?_
 refine Z4 rfl rfl rfl ?_
 refine go ?_
 refine ZG hC (fun (z:Nat×Nat)=>z.1≤p.length∧InS t z.2∧RunOk t z.2 (p.drop z.1) E) (fun z=>p.length-z.1) 2 (fun z => [(1,.vec (inL p) fl),(2,.cp (pbP t S)),(4,.ptr 0 0 0),(7,.ptr 1 0 0),(18,.vec (inL p) fl),(19,.val (.int .i64 (p.length:Int))),(20,.val (.int .i64 (z.1:Int)))]) (fun z => [(0,⟨1,[[.vec [] true]]⟩),(1,⟨1,[[.vec (words (digs z.2)) false]]⟩)]) (Nat.zero_le _) (0,t.st) ⟨Nat.zero_le _,h.st,hr⟩
  ⟨⟨rfl,hpi _⟩,⟨rfl,hpc _⟩,⟨rfl,show (0:Nat)<2 by decide⟩,⟨rfl,show (1:Nat)<2 by decide⟩,⟨rfl,hpi _⟩,⟨by rw [← hlen]; rfl,trivial⟩,⟨rfl,trivial⟩,trivial⟩ ⟨⟨by decide,rfl,⟨⟨trivial,trivial⟩,trivial⟩⟩,⟨by decide,rfl,⟨⟨Zd _ _,trivial⟩,trivial⟩⟩,trivial⟩ ?_
 rintro⟨i,s⟩ ⟨hi,hs,hrun⟩
 dsimp only at hi hs hrun ⊢
 have hinc:IntKind.i64.wrap ((i:Int)+1)=((i+1:Nat):Int):=IntWalk.i64_in _ ⟨by omega,by omega⟩
 refine gd 21 ⟨?_⟩
 by_cases hil:i<p.length
 · refine Z5 (Za (v := true) rfl (decide_eq_true (Int.ofNat_lt.2 hil))) rfl rfl ?_
   rw [List.drop_eq_getElem_cons hil] at hrun
   refine gd 23 ⟨?_⟩
   refine Z5 (Zo (xs:=p) (g:=inC1) rfl rfl i rfl hil rfl) rfl rfl ?_
   generalize p[i]=k at hrun ⊢
   obtain⟨x,hx,hst,hrun⟩:=hrun
   obtain⟨hkl,rfl⟩:=List.getElem?_eq_some_iff.1 hx
   refine gd 29 ⟨?_⟩
   refine Z3 (Zc3 h S s (hs.lt h.n.2) k hkl) rfl rfl rfl ⟨hpp,Z1 _,trivial,trivial⟩ rfl ?_
   rw [hst]
   refine go ?_
   exact⟨(i+1,nextR t.rs[k] s),⟨hil,Z4t h (List.getElem_mem hkl) hs,hrun⟩,by show p.length-(i+1)<p.length-i; omega,⟨⟨rfl,hpi _⟩,⟨rfl,hpc _⟩,⟨rfl,show (0:Nat)<2 by decide⟩,⟨rfl,show (1:Nat)<2 by decide⟩,⟨rfl,hpi _⟩,⟨rfl,trivial⟩,⟨by show some _=some _; rw [hinc],trivial⟩,trivial⟩,⟨⟨by decide,rfl,⟨⟨trivial,trivial⟩,trivial⟩⟩,⟨by decide,rfl,⟨⟨Zd _ _,trivial⟩,trivial⟩⟩,trivial⟩⟩
 · refine Z5 (Za (v := false) rfl (decide_eq_false (by omega))) rfl rfl ?_
   refine go ?_
   rw [List.drop_eq_nil_of_le (by omega)] at hrun
   obtain rfl:=Z9U hrun
   exact Z6 rfl ⟨Z1 _,trivial,trivial,trivial⟩ (by rw [hlen]; rfl)
section
variable {P:Program} {e:Env} {h:Heap} {n:Nat}
theorem Z3A {k:Nat} {p q:PV} (hk:e k=some p) (hr:RenP (fun i=>i) (fun _=>False) p q):SubA n e h n (e.upd k q) h:=by
 rintro C a w ⟨F,φ,s⟩
 refine⟨F,φ,{ s with env:=fun j r hq=>?_ }⟩
 by_cases hj:j=k
 · subst hj
   rw [Env.upd_same] at hq
   cases hq
   exact⟨(s.env j p hk).1,hr.rep (fun i x hd _=>hd.elim) (s.env j p hk).2⟩
 · rw [Env.upd_ne _ _ hj] at hq
   exact s.env j r hq
theorem RenLs.agg {ρ:Nat→Nat} {D:Nat→Prop} {l m:List PV} (h:RenLs ρ D l m):RenP ρ D (.agg l) (.agg m):=by
 obtain⟨h1,h2⟩:=h.get
 exact .agg l m h1 fun i hi=>h2 i (by omega)
end
theorem Z1Z (l:List Int) (N:Nat) (h:maskTo (topOf l) l=N) (fl:Bool):Spec Tryz.prog 38 [.vec (nums l) fl] (· = setN N):=h▸ZcG l fl
theorem Z4v:Small ([]:List Pr):=fun p hp=>by cases hp
theorem ZfB {a b:Nat} (h:Up [] a b):False:=by
 cases h with
 | one h=>cases h
 | more _ h=>cases h
theorem Z7O {s m:Nat} (hs:s ||| mkN m=mkN m) (hm:m≤63):clo [] s=s:=by
 have hlt:s<18446744073709551616:=by
  have h1:s≤mkN m:=by rw [← hs]; exact Nat.left_le_or
  have:=Z39 hm
  omega
 refine Nat.eq_of_testBit_eq fun i=>?_
 rw [Bool.eq_iff_iff,Z5V Z4v hlt]
 constructor
 · rintro ⟨a, h1, h2, h3⟩
   rcases (Z3O Z4v i a).1 h3 with h4|rfl
   · exact (ZfB h4).elim
   · exact h1
 · intro h1
   have h2:=orSub.1 hs i h1
   rw [Z1I,Bool.and_eq_true,decide_eq_true_eq] at h2
   exact⟨i,h1,h2.1,(Z3O Z4v i i).2 (.inr rfl)⟩
def rsE:List RU := [⟨false,(0,0),1,0⟩,⟨false,(2,0),2,0⟩,⟨true,(0,0),1,0⟩]
def tE (nv:List Cu):PB:=⟨3,[],0,rsE,nv,[(4,2)]⟩
theorem inC3 {c:Cu} (h1:c.1 ||| 14=14) (h2:c.2 ||| 14=14) (h3:emC c=false):InC 3 c∧InM 62 c:=⟨⟨h1,h2,h3⟩,Z3v h1 (by decide),Z3v h2 (by decide)⟩
theorem ZgL (nv:List Cu) (hl:nv.length≤64) (h:∀ c∈nv,InC 3 c∧InM 62 c) (h0:soC nv 0=false):PbOk (tE nv):=by
 refine⟨show 1≤3∧3≤63 by decide,⟨List.Pairwise.nil,fun p hp=>(by cases hp),⟨fun _=>0,fun p hp=>(by cases hp)⟩⟩,fun p hp=>(by cases hp),show 0 ||| mkN 3=mkN 3 by decide,show rsE.length≤64 by decide,fun r hr=>?_,hl,h,show 1≤64 by decide,fun c hc=>?_,?_⟩
 · have hr : r ∈ rsE := hr
   unfold rsE at hr
   simp only [List.mem_cons,List.not_mem_nil,or_false] at hr
   rcases hr with rfl|rfl|rfl
   · have := inC3 (c := (0, 0)) (by decide) (by decide) (by decide)
     exact⟨this.1,this.2,show 1≤1∧1≤3∧1≤5 by decide,fun _=>rfl⟩
   · have := inC3 (c := (2, 0)) (by decide) (by decide) (by decide)
     exact⟨this.1,this.2,show 1≤2∧2≤3∧2≤5 by decide,fun h=>by cases h⟩
   · have := inC3 (c := (0, 0)) (by decide) (by decide) (by decide)
     exact⟨this.1,this.2,show 1≤1∧1≤3∧1≤5 by decide,fun _=>rfl⟩
 · have hc : c ∈ [((4, 2) : Cu)] := hc
   rw [List.mem_singleton] at hc
   subst hc
   exact inC3 (by decide) (by decide) (by decide)
 · show soC nv (clo [] 0) = false
   rw [Z7O (m:=3) (by decide) (by decide)]; exact h0
def t0:PB:=tE []
def t1:PB:=tE [(6,0)]
theorem Z7P:PbOk t0:=ZgL [] (by decide) (fun c hc=>by cases hc) rfl
theorem Zc4:PbOk t1:=ZgL [(6,0)] (by decide) (fun c hc=>by
 rw [List.mem_singleton] at hc
 subst hc
 exact inC3 (by decide) (by decide) (by decide)) (by decide)
theorem goodE {nv:List Cu} {s:Nat} (hs:s ||| 14=14):goodB (tE nv) s = !soC nv s:=by
 show (!soC nv (clo [] s))=_
 rw [Z7O (m:=3) hs (by decide)]
theorem reachE {nv:List Cu} {s:Nat} (hs:s ||| 14=14):reachB (tE nv) s=soC [(4,2)] s:=by
 show soC [(4,2)] (clo [] s)=_
 rw [Z7O (m:=3) hs (by decide)]
theorem stepE {nv:List Cu} {x:RU} {s:Nat} (hs:s ||| 14=14) (hn:nextR x s ||| 14=14):stepR (tE nv) x s=(decide (nextR x s≠s)&&(!soC nv (nextR x s)&&(x.rev||hoC x.cu s))):=by
 unfold stepR
 rw [goodE hn]
 show (_&&(_&&(x.rev||hoC x.cu (clo [] s))))=_
 rw [Z7O (m:=3) hs (by decide)]
theorem able0:Able t0 t0.st:=by
 have r0:(⟨false,(0,0),1,0⟩:RU)∈t0.rs:=by show _∈rsE; unfold rsE; simp
 have r1:(⟨false,(2,0),2,0⟩:RU)∈t0.rs:=by show _∈rsE; unfold rsE; simp
 have r2:(⟨true,(0,0),1,0⟩:RU)∈t0.rs:=by show _∈rsE; unfold rsE; simp
 refine .step (S:=0) (x:=⟨false,(0,0),1,0⟩) (by show _ ||| 14=14; decide) (by unfold t0; rw [goodE (by decide)]; rfl) r0 (by unfold t0; rw [stepE (by decide) (by decide)]; decide) ?_
 refine .step (S:=2) (x:=⟨false,(2,0),2,0⟩) (by show _ ||| 14=14; decide) (by unfold t0; rw [goodE (by decide)]; rfl) r1 (by unfold t0; rw [stepE (by decide) (by decide)]; decide) ?_
 refine .step (S:=6) (x:=⟨true,(0,0),1,0⟩) (by show _ ||| 14=14; decide) (by unfold t0; rw [goodE (by decide)]; rfl) r2 (by unfold t0; rw [stepE (by decide) (by decide)]; decide) ?_
 exact .base (S:=4) (by show _ ||| 14=14; decide) (by unfold t0; rw [goodE (by decide)]; rfl) (by unfold t0; rw [reachE (by decide)]; decide)
theorem Z66 {S:Nat} (h:Able t1 S):S.testBit 2=true:=by
 induction h with
 | base hS hg hr =>
   unfold t1 at hr
   rw [reachE hS,Z3N] at hr
   exact ((Z12 _ _).1 hr).1 2 (by decide)
 | step hS hg hx hs ha ih =>
   rename_i S x
   have hl:=hS.lt (t:=t1) (by decide)
   have hx':x∈rsE:=hx
   unfold rsE at hx'
   simp only [List.mem_cons,List.not_mem_nil,or_false] at hx'
   have hb:=ZT (r:=x) (by rcases hx' with rfl|rfl|rfl<;>decide) hl 2
   rw [ih] at hb
   rcases hx' with rfl|rfl|rfl
   · rw [if_neg (by decide)] at hb; exact hb.symm
   · exfalso
     unfold t1 at hs
     rw [stepE hS (Z4t Zc4 hx hS)] at hs
     rw [Bool.and_eq_true,Bool.and_eq_true,Bool.not_eq_true',Z3N] at hs
     have h1:hoC (2,0) S=true:=hs.2.2
     have h2:S.testBit 1=true:=((Z12 _ _).1 h1).1 1 (by decide)
     have h3:hoC (6,0) (nextR ⟨false,(2,0),2,0⟩ S)=true:=(Z12 _ _).2 ⟨fun i hi=>by
      rw [ZT (by decide) hl]
      have:i=1 ∨ i=2:=by
       have hi2:i<3:=Nat.lt_of_not_le fun h=>by
        rw [Nat.testBit_lt_two_pow (Nat.lt_of_lt_of_le (show (6:Nat)<2 ^ 3 by decide) (Nat.pow_le_pow_right (by decide) h))] at hi
        cases hi
       have:i≠0:=fun e=>by subst e; revert hi; decide
       omega
      rcases this with rfl|rfl
      · rw [if_neg (by decide)]; exact h2
      · rfl,fun i hi=>by simp at hi⟩
     rw [h3] at hs
     exact absurd hs.2.1 (by decide)
   · rw [if_neg (by decide)] at hb; exact hb.symm
theorem ZdN (r:Nat):sen [] r=2 ^ r:=Nat.eq_of_testBit_eq fun a=>by
 rw [Bool.eq_iff_iff,Z3O Z4v,Nat.testBit_two_pow,decide_eq_true_eq]
 exact⟨fun h=>h.elim (fun h=>(ZfB h).elim) Eq.symm,fun h=>.inr h.symm⟩
theorem Z67 (c:Cu) (hc:Ok64 c) (he:emC c=false) {S:Nat} (hS:hoC c S=true):simL [c] = [c]:=by
 have h64:∀ x∈[c],Ok64 x:=fun x hx=>by rw [List.mem_singleton] at hx; subst hx; exact hc
 have hm:∀ x∈simL [c],x=c:=fun x hx=>List.mem_singleton.1 (Z1H hx).1
 have hn:=Z3t h64
 have hso:=Z5U h64 S
 rw [Z3N,hS] at hso
 generalize simL [c]=l at hm hn hso
 match l,hm,hn,hso with
 | [],_,_,hso=>cases hso
 | [x],hm,_,_=>rw [hm x (List.mem_cons_self ..)]
 | x :: y :: r, hm, hn, _ =>
   have h1:=hm x (by simp)
   have h2:=hm y (by simp)
   rw [List.nodup_cons] at hn
   exact absurd (by rw [h1,h2]; simp) hn.1
theorem Zfe:simL [] = []:=by
 cases h:simL [] with
 | nil=>rfl
 | cons c l=>exact absurd (Z1H (show c∈simL [] by rw [h]; simp)).1 (by simp)
theorem tgt0:tgtL t0 = [(4,2)]:=by
 have h1:badL t0 = []:=Zfe
 have h2:exL [] 3 (4,2) = [(4,2)]:=by
  have e1:mem 2 = [1]:=by decide +kernel
  have e2:mem 4 = [2]:=by decide +kernel
  have e3:exN [] 3 (mem 2)=2:=by rw [e1]; unfold exN; simp only [List.foldl]; rw [ZdN]; decide
  unfold exL
  show exF [] 3 (mem 4) [(0,exN [] 3 (mem 2))]=_
  rw [e3,e2]
  unfold exF
  simp only [List.foldl]
  have e4:exX [] 3 2 [(0,2)] = [(4,2)]:=by
   unfold exX
   rw [ZdN]
   have:mem (2 ^ 2 &&& mkN 3) = [2]:=by decide +kernel
   simp only [this,List.flatMap_cons,List.flatMap_nil,List.map]
   decide
  rw [e4]
  exact Z67 (4,2) ⟨by decide,by decide⟩ (by decide) (S:=4) (by decide)
 have h3:expAll t0 t0.gl = [(4,2)]:=by
  unfold expAll
  show ([(4,2)]:List Cu).flatMap (exL [] 3)=_
  rw [List.flatMap_cons,List.flatMap_nil,h2]; rfl
 unfold tgtL
 rw [h1,h3]
 have h4:splAll [] [(4,2)] = [(4,2)]:=by decide
 rw [h4]
 exact Z67 (4,2) ⟨by decide,by decide⟩ (by decide) (S:=4) (by decide)
theorem text0:textS (4,2)=⟨#[33,49,32,50]⟩:=by
 have e1:mem ((4:Nat) ||| 2) = [1,2]:=by decide +kernel
 have n1:numS 1=⟨#[49]⟩:=by unfold numS; rw [Go.Lib.decDigits_one (by decide)]; rfl
 have n2:numS 2=⟨#[50]⟩:=by unfold numS; rw [Go.Lib.decDigits_one (by decide)]; rfl
 have h:litsS (4,2) [1,2] = [⟨#[33,49]⟩,⟨#[50]⟩]:=by
  unfold litsS litS
  simp only [List.flatMap_cons,List.flatMap_nil]
  rw [n1,n2]
  rfl
 unfold textS
 show (if litsS (4,2) (mem (4 ||| 2)) = [] then _ else joinS (litsS (4,2) (mem (4 ||| 2))) ⟨#[32]⟩)=_
 rw [e1,h,if_neg (by simp)]
 rfl
theorem bf0:bfV t0 (4,2) 2=.tup [.vec ((bfL t0 ⟨true,(0,0),1,0⟩ (4,2)).map cuC) false,.val (.int .i64 0)]:=by
 unfold bfV
 rw [dif_pos (show 0≤(2:Int)∧(2:Int).toNat<t0.rs.length by decide),if_pos (by decide)]
 rfl
theorem ZgM:RuOk 3 ⟨true,(0,0),1,0⟩:=by
 have:=inC3 (c:=(0,0)) (by decide) (by decide) (by decide)
 exact⟨this.1,this.2,by decide,fun _=>rfl⟩
theorem c42:InM 62 ((4,2):Cu):=⟨by decide,by decide⟩
theorem ZfC {S:Nat} (hS:S ||| 14=14) (hn:nextR ⟨true,(0,0),1,0⟩ S ||| 14=14):soC (bfL t0 ⟨true,(0,0),1,0⟩ (4,2)) S=(decide (nextR ⟨true,(0,0),1,0⟩ S≠S)&&hoC (4,2) (nextR ⟨true,(0,0),1,0⟩ S)):=by
 rw [ZgH Z7P ZgM c42 hS]
 unfold t0
 rw [goodE hS,stepE hS hn]
 simp [soC]
theorem pb0 (S:List Nat):PV.agg (pbP t0 S)=.agg [.val (.int .i64 3),hierP [] S,.vec [] false,.vec [[.val (.bool false),.vec [] false,.vec [] false,.val (.int .i64 1),.val (.int .i64 0)],[.val (.bool false),.vec (words (digs 2)) false,.vec [] false,.val (.int .i64 2),.val (.int .i64 0)],[.val (.bool true),.vec [] false,.vec [] false,.val (.int .i64 1),.val (.int .i64 0)]] false,.vec [] false,.vec [[.vec (words (digs 4)) false,.vec (words (digs 2)) false]] false]:=by
 have h:ruP ⟨false,(2,0),2,0⟩ = [.val (.bool false),.vec (words (digs 2)) false,.vec (words (digs 0)) false,.val (.int .i64 2),.val (.int .i64 0)]:=rfl
 have h0:words (digs 0) = []:=by rw [Zy]; rfl
 unfold t0 tE pbP rsE
 simp only [List.map,ruP,cuC,h0]
 rfl
set_option maxRecDepth 100000 in
set_option maxHeartbeats 16000000 in
theorem Z8D:Spec Tryz.prog 13 [] (· = .val (.bool true)):=by
 have h0:words (digs 0) = []:=by rw [Zy]; rfl
 refine Z2 ok13 (Nat.le_of_ble_eq_true rfl) fun C hC=>?_
 refine gd 15 ⟨?_⟩
 refine ZR rfl rfl Z4R trivial rfl ?_
 rintro r ⟨S,rfl⟩
 have hpp0:=Z1n t0 S
 have hpp1:=Z1n t1 S
 refine gd 18 ⟨?_⟩
 refine Z3 (Z1Z [1] 2 (by decide +kernel) true) rfl rfl rfl ⟨Zp _,trivial⟩ rfl ?_
 refine gd 24 ⟨?_⟩
 refine Z3 (Z1Z [2] 4 (by decide +kernel) true) rfl rfl rfl ⟨Zp _,trivial⟩ rfl ?_
 refine gd 26 ⟨?_⟩
 refine Z3 (Z1Z [1] 2 (by decide +kernel) true) rfl rfl rfl ⟨Zp _,trivial⟩ rfl ?_
 refine gd 1 ⟨?_⟩
 refine Zb (Z3A (k:=29) (q:=.agg (pbP t0 S)) rfl (by
  rw [pb0]
  refine RenLs.agg ⟨.pure _ trivial,.pure _ (Zs _ _),.low (.vec [] true) trivial,?_,.low (.vec [] true) trivial,?_,trivial⟩
  · have := RenP.low (ρ := fun i => i) (D := fun _ => False) (.vec [[.val (.bool false), .vec [] true, .vec [] true, .val (.int .i64 1), .val (.int .i64 0)], [.val (.bool false), .vec (words (digs 2)) false, .vec [] true, .val (.int .i64 2), .val (.int .i64 0)], [.val (.bool true), .vec [] true, .vec [] true, .val (.int .i64 1), .val (.int .i64 0)]] true) (by
     show pureLL [_,[_,.vec (lowLL (words (digs 2))) false,_,_,_],_]
     rw [ZV]
     exact⟨⟨trivial,trivial,trivial,trivial,trivial,trivial⟩,⟨trivial,Z7 _,trivial,trivial,trivial,trivial⟩,⟨trivial,trivial,trivial,trivial,trivial,trivial⟩,trivial⟩)
    have e:(PV.vec [[.val (.bool false),.vec [] true,.vec [] true,.val (.int .i64 1),.val (.int .i64 0)],[.val (.bool false),.vec (words (digs 2)) false,.vec [] true,.val (.int .i64 2),.val (.int .i64 0)],[.val (.bool true),.vec [] true,.vec [] true,.val (.int .i64 1),.val (.int .i64 0)]] true).low=.vec [[.val (.bool false),.vec [] false,.vec [] false,.val (.int .i64 1),.val (.int .i64 0)],[.val (.bool false),.vec (lowLL (words (digs 2))) false,.vec [] false,.val (.int .i64 2),.val (.int .i64 0)],[.val (.bool true),.vec [] false,.vec [] false,.val (.int .i64 1),.val (.int .i64 0)]] false:=rfl
    rw [e,ZV] at this
    exact this
  · have := RenP.low (ρ := fun i => i) (D := fun _ => False) (.vec [[.vec (words (digs 4)) false, .vec (words (digs 2)) false]] true) (by
     show pureLL [[.vec (lowLL (words (digs 4))) false,.vec (lowLL (words (digs 2))) false]]
     rw [ZV,ZV]
     exact⟨⟨Z7 _,Z7 _,trivial⟩,trivial⟩)
    have e:(PV.vec [[.vec (words (digs 4)) false,.vec (words (digs 2)) false]] true).low=.vec [[.vec (lowLL (words (digs 4))) false,.vec (lowLL (words (digs 2))) false]] false:=rfl
    rw [e,ZV,ZV] at this
    exact this)) ?_
 refine gd 32 ⟨?_⟩
 refine ZR rfl rfl (Z62 Z7P (by decide) S 8 (by decide)) ⟨hpp0,trivial,trivial⟩ rfl ?_
 intro v hv
 cases hv with
 | no ks hk=>exact absurd able0 (hk.not_able Z7P)
 | lim hl=>exact absurd hl (by decide)
 | yes p hp hpl =>
   obtain⟨E,hrun,hre⟩:=hp
   have hE:InS t0 E:=(ZdF p .base hrun).inS Z7P
   have hlen:=Z9V p
   refine gd 39 ⟨?_⟩
   refine Z3 (Z3c Z7P S) rfl rfl rfl ⟨hpp0,trivial⟩ rfl ?_
   rw [tgt0]
   refine gd 45 ⟨?_⟩
   refine Zz (Z1Z [2] 4 (by decide +kernel) true) rfl rfl rfl ⟨Zp _,trivial⟩ ?_
   refine gd 47 ⟨?_⟩
   refine Zz (Z1Z [1] 2 (by decide +kernel) true) rfl rfl rfl ⟨Zp _,trivial⟩ ?_
   refine gd 49 ⟨?_⟩
   refine Zz (Z4Y Z7P S (4,2) ⟨by decide,by decide⟩ (by decide) (fun _=>c42) 2) rfl rfl rfl ⟨hpp0,Zm _,trivial,trivial⟩ ?_
   rw [bf0]
   have hb6:=ZfC (S:=6) (by decide) (by decide)
   have hb4:=ZfC (S:=4) (by decide) (by decide)
   have hb64:=Z2R fun c hc=>((ZgI Z7P ZgM c42).1 c hc).1
   generalize bfL t0 ⟨true,(0,0),1,0⟩ (4,2)=L at hb6 hb4 hb64 ⊢
   refine gd 55 ⟨?_⟩
   refine Z3 (ZdM Z7P S p false (by omega) hrun) rfl rfl rfl ⟨hpp0,Z3z _,trivial⟩ rfl ?_
   refine gd 81 ⟨?_⟩
   refine Zn rfl ?_
   refine Z5 (Za (v:=false) rfl (by rw [hlen]; simp)) rfl rfl ?_
   refine gd 86 ⟨?_⟩
   refine Zn rfl ?_
   refine Z3 (Z9D Z7P S E (hE.lt (by decide))) rfl rfl rfl ⟨hpp0,Z1 _,trivial⟩ rfl ?_
   rw [hre]
   refine gd 98 ⟨?_⟩
   refine Zn rfl ?_
   refine Z3 (Zc2 (4,2) ⟨by decide,by decide⟩) rfl rfl rfl ⟨Zm _,trivial⟩ rfl ?_
   rw [text0]
   refine gd 99 ⟨?_⟩
   refine Zn rfl ?_
   refine Z5 (Za (v:=false) rfl (by simp)) rfl rfl ?_
   refine gd 104 ⟨?_⟩
   refine Zn rfl ?_
   refine Z3 (Z1Z [1,2] 6 (by decide +kernel) true) rfl rfl rfl ⟨Zp _,trivial⟩ rfl ?_
   refine Zn rfl ?_
   refine Z3 (Z1y L false 6 hb64 (by decide)) rfl rfl rfl ⟨Z0 _,Z1 _,trivial⟩ rfl ?_
   rw [hb6]
   refine gd 111 ⟨?_⟩
   refine Zn rfl ?_
   refine Z3 (Z1Z [2] 4 (by decide +kernel) true) rfl rfl rfl ⟨Zp _,trivial⟩ rfl ?_
   refine Zn rfl ?_
   refine Z3 (Z1y L false 4 hb64 (by decide)) rfl rfl rfl ⟨Z0 _,Z1 _,trivial⟩ rfl ?_
   rw [hb4]
   refine gd 115 ⟨?_⟩
   refine Z3 (Z1Z [1,2] 6 (by decide +kernel) true) rfl rfl rfl ⟨Zp _,trivial⟩ rfl ?_
   refine gd 118 ⟨?_⟩
   refine Zb (Z3A (k:=117) (q:=.vec ([((6,0):Cu)].map cuC) false) rfl (by
    have e:PV.vec ([((6,0):Cu)].map cuC) false=(PV.vec [[.vec (words (digs 6)) false,.vec [] true]] true).low:=by
     show PV.vec [[.vec (words (digs 6)) false,.vec (words (digs 0)) false]] false=PV.vec [[.vec (lowLL (words (digs 6))) false,.vec [] false]] false
     rw [ZV,h0]
    rw [e]
    refine .low _ ?_
    show (PV.vec [[.vec (words (digs 6)) false,.vec [] true]] true).low.pure
    rw [← e]
    exact Z0 _)) ?_
   refine gd 121 ⟨?_⟩
   refine ZR rfl rfl (Z62 Zc4 (by decide) S 8 (by decide)) ⟨hpp1,trivial,trivial⟩ rfl ?_
   intro v hv
   cases hv with
   | lim hl=>exact absurd hl (by decide)
   | yes p hp hpl=>exact absurd (Z66 (hp.able Zc4)) (by decide)
   | no ks hk =>
     have s4:soC (kcs ks) 4=true:=(hk.able_iff Zc4 (by show _ ||| 14=14; decide)).2 (.base (by show _ ||| 14=14; decide) (by unfold t1; rw [goodE (by decide)]; decide) (by unfold t1; rw [reachE (by decide)]; decide))
     have s2:soC (kcs ks) 2=false:=Bool.eq_false_iff.2 fun h=>absurd (Z66 ((hk.able_iff Zc4 (by show _ ||| 14=14; decide)).1 h)) (by decide)
     have s0:soC (kcs ks) 0=false:=Bool.eq_false_iff.2 fun h=>absurd (Z66 ((hk.able_iff Zc4 (by show _ ||| 14=14; decide)).1 h)) (by decide)
     have hk64:=hk.inv.c64
     refine gd 135 ⟨?_⟩
     refine Zn rfl ?_
     refine Z3 (Z1Z [2] 4 (by decide +kernel) true) rfl rfl rfl ⟨Zp _,trivial⟩ rfl ?_
     refine Zn rfl ?_
     refine Z3 (Z1y (kcs ks) false 4 hk64 (by decide)) rfl rfl rfl ⟨Z0 _,Z1 _,trivial⟩ rfl ?_
     rw [s4]
     refine gd 141 ⟨?_⟩
     refine Zn rfl ?_
     refine Z3 (Z1Z [1] 2 (by decide +kernel) true) rfl rfl rfl ⟨Zp _,trivial⟩ rfl ?_
     refine Zn rfl ?_
     refine Z3 (Z1y (kcs ks) false 2 hk64 (by decide)) rfl rfl rfl ⟨Z0 _,Z1 _,trivial⟩ rfl ?_
     rw [s2]
     refine gd 148 ⟨?_⟩
     refine Zn rfl ?_
     refine Zbn (Z1y (kcs ks) false 0 hk64 (by decide)) rfl rfl (by
      show [PV.vec (lowLL ((kcs ks).map cuC)) false,.agg [.vec [] false]] = [_,setN 0]
      rw [Z2P,ZfA]) ⟨Z0 _,Z1 _,trivial⟩ rfl ?_
     rw [s0]
     refine go ?_
     exact Z6 rfl trivial rfl
set_option maxRecDepth 100000 in
theorem Zc5 {t:PB} (h:PbOk t) (S:List Nat) (L:Int) (hL:L<1):Spec Tryz.prog 31 [.agg (pbP t S),.val (.int .i64 L)] (· = .tup [.vec [] true,.vec [] true,.val (.bool false),.val (.int .i64 1)]):=by
 have hpp:=Z1n t S
 refine Z2 ok31 (Nat.le_of_ble_eq_true rfl) fun C hC=>?_
 refine Zj ?_
 refine Z8 ?_
 refine Z4 rfl rfl rfl ?_
 refine gd 18 ⟨?_⟩
 refine Z3 (Z4r h S) rfl rfl rfl ⟨hpp,trivial⟩ rfl ?_
 refine gd 23 ⟨?_⟩
 refine Z5 (Za (v:=true) rfl (decide_eq_true hL)) rfl rfl ?_
 refine go ?_
 exact Z6 rfl ⟨trivial,trivial,trivial,trivial,trivial⟩ rfl
end Go.Proofs.YthgklpbcmbmmcaaGreatDoor
namespace Go.Proofs.YthgklpbcmbmmcaaGreatDoor
open Go.RowKit
def N3Spec (P:Program) (f:FuncId) (args:List PV) {X:Type} (Q:X→Prop) (mk:X→Nat→Nat→Nat→PV) (b1 b2 b3:X→Bx):Prop :=
 ISpec P f 0 args (fun _=>none) fun n' r h'=>∃ x i j k,Q x∧i≠j∧i≠k∧j≠k∧r=mk x i j k∧h' i=some (b1 x)∧h' j=some (b2 x)∧h' k=some (b3 x)
def Mk3 (mk:Nat→Nat→Nat→PV):Prop:=∀ (F:Froz) (φ φ':Locs) (v:Value) (i j k a b c:Nat),φ i=φ' a→φ j=φ' b→φ k=φ' c→Rep F φ v (mk i j k)→Rep F φ' v (mk a b c)
section
variable {P:Program} {C:Ctx} {e:Env} {h:Heap} {n:Nat} {F:Froz} {φ:Locs} {a:Act} {w:World}
theorem N3Spec.ispec {f:FuncId} {args:List PV} {X:Type} {Q:X→Prop} {mk:X→Nat→Nat→Nat→PV} {b1 b2 b3:X→Bx} (hs:N3Spec P f args Q mk b1 b2 b3) (hmk:∀ x,Mk3 (mk x)) (hp1:∀ x,Q x→pureLL (b1 x).elems) (hp2:∀ x,Q x→pureLL (b2 x).elems) (hp3:∀ x,Q x→pureLL (b3 x).elems) (hpr:pureL args) :
 ISpec P f n args h fun n' r h'=>∃ x,Q x∧n'=n+3∧r=mk x n (n+1) (n+2)∧h'=((h.upd n (b1 x)).upd (n+1) (b2 x)).upd (n+2) (b3 x):=by
 refine⟨hs.1,fun C e F φ a w vs s hv=>?_⟩
 let C1:Ctx:=⟨w,fun _=>False,F,C.nt,noLoc⟩
 have hφn:∀ i,n≤i→φ i=none:=s.free
 have hlow:∀ {i:Nat} {bi:Bx},h i=some bi→i<n:=by
  intro i bi hi
  obtain⟨loc,h1,_⟩:=s.live i bi hi
  exact Nat.lt_of_not_le fun hn=>by rw [hφn i hn] at h1; cases h1
 have s1:St' C1 (fun i=>0≤i) (fun _=>none) (fun _=>none) F noLoc { a with defers := [] } w :=
  { nt:=s.nt,glob:=s.glob,marks:=Marks.nil rfl,loc0:=fun i x hx=>hx,free:=fun i hi=>rfl,env:=fun k p hp=>(by cases hp),froz:=s.froz,ext:=fun _ _ h=>h,old:=fun _ _ _=>rfl,os:=rfl,tape:=rfl,output:=rfl,size:=Nat.le_refl _,kept:=fun _ _ _=>rfl,live:=fun i b0 hi=>(by cases hi),sep:=fun i j bi bj li lj k hi hj _ _ _ _=>(by cases hi) }
 have hv1:RepL F noLoc vs args:=⟨hv.1,fun i hi=>(hv.2 i hi).pure (ZC hpr i)⟩
 refine (hs.2 C1 _ F noLoc { a with defers := [] } w vs s1 hv1).mono ?_
 rintro en w' ⟨v,r,n',h',F',φ',rfl,⟨x,i1,i2,i3,hQ,h12,h13,h23,rfl,hb1,hb2,hb3⟩,hvr,s'⟩
 obtain⟨l1,m11,m12,m13⟩:=s'.live i1 _ hb1
 obtain⟨l2,m21,m22,m23⟩:=s'.live i2 _ hb2
 obtain⟨l3,m31,m32,m33⟩:=s'.live i3 _ hb3
 have nw:∀ {g:Nat},(w.heap.size≤g ∨ C1.G g)→w.heap.size≤g:=fun hg=>hg.elim (fun h=>h) (fun h=>h.elim)
 let φ2:Locs:=fun i=>if i=n then some l1 else if i=n+1 then some l2 else if i=n+2 then some l3 else φ i
 have e1:φ2 n=some l1:=by show (if n=n then some l1 else _)=_; rw [if_pos rfl]
 have e2:φ2 (n+1)=some l2:=by show (if n+1=n then some l1 else if n+1=n+1 then some l2 else _)=_; rw [if_neg (by omega),if_pos rfl]
 have e3:φ2 (n+2)=some l3:=by show (if n+2=n then some l1 else if n+2=n+1 then some l2 else if n+2=n+2 then some l3 else _)=_; rw [if_neg (by omega),if_neg (by omega),if_pos rfl]
 have e4:∀ {i:Nat},i≠n→i≠n+1→i≠n+2→φ2 i=φ i:=fun {i} ha hb hc=>by
  show (if i=n then some l1 else if i=n+1 then some l2 else if i=n+2 then some l3 else φ i)=_
  rw [if_neg ha,if_neg hb,if_neg hc]
 have e5:∀ {i:Nat},i<n→φ2 i=φ i:=fun {i} hi=>e4 (by omega) (by omega) (by omega)
 have e6:∀ i y,φ i=some y→φ2 i=some y:=fun i y hy=>by
  rw [e5 (Nat.lt_of_not_le fun hn=>by rw [hφn i hn] at hy; cases hy)]; exact hy
 have hkeep:∀ k,k<w.heap.size→w'.heap[k]?=w.heap[k]?:=fun k hk=>s'.kept k hk fun hg=>hg
 have src:∀ {i:Nat} {bi:Bx},(((h.upd n (b1 x)).upd (n+1) (b2 x)).upd (n+2) (b3 x)) i=some bi→(i=n+2∧bi=b3 x) ∨ (i=n+1∧bi=b2 x) ∨ (i=n∧bi=b1 x) ∨ h i=some bi:=by
  intro i bi hi
  by_cases q1:i=n+2
  · subst q1; rw [Heap.upd_same] at hi; exact .inl ⟨rfl,(Option.some.inj hi).symm⟩
  rw [Heap.upd_ne _ _ q1] at hi
  by_cases q2:i=n+1
  · subst q2; rw [Heap.upd_same] at hi; exact .inr (.inl ⟨rfl,(Option.some.inj hi).symm⟩)
  rw [Heap.upd_ne _ _ q2] at hi
  by_cases q3:i=n
  · subst q3; rw [Heap.upd_same] at hi; exact .inr (.inr (.inl ⟨rfl,(Option.some.inj hi).symm⟩))
  rw [Heap.upd_ne _ _ q3] at hi
  exact .inr (.inr (.inr hi))
 refine⟨v,mk x n (n+1) (n+2),n+3,_,F',φ2,rfl,⟨x,hQ,rfl,rfl,rfl⟩,hmk x F' φ' φ2 v i1 i2 i3 n (n+1) (n+2) (by rw [m11,e1]) (by rw [m21,e2]) (by rw [m31,e3]) hvr,?_⟩
 refine { nt := s.nt, glob := s'.glob, marks := s.marks.mono (fun k hk => by rw [hkeep k (Array.getElem?_eq_some_iff.1 hk).1]; exact hk), loc0 := fun i y hy => e6 i y (s.loc0 i y hy), free := fun i hi => by rw [e4 (by omega) (by omega) (by omega)]; exact s.free i (by omega), env := fun k p hp => ⟨(s.env k p hp).1, (s.env k p hp).2.mono s'.ext e6⟩, froz := s'.froz, ext := fun y v hy => s'.ext _ _ (s.ext y v hy),
          old:=fun y hy hg=>?_,os:=s'.os.trans s.os,tape:=s'.tape.trans s.tape,output:=s'.output.trans s.output,size:=Nat.le_trans s.size s'.size,kept:=fun k hk hg=>?_,live:=fun i bi hi=>?_,sep:=fun i j bi bj li lj k hi hj hli hlj hki hkj=>?_ }
 · rw [s'.old y (Nat.lt_of_lt_of_le hy s.size) fun hg => hg]
   exact s.old y hy hg
 · rw [hkeep k (Nat.lt_of_lt_of_le hk s.size)]
   exact s.kept k hk hg
 · rcases src hi with ⟨rfl, rfl⟩ | ⟨rfl, rfl⟩ | ⟨rfl, rfl⟩ | hi
   · exact⟨l3,e3,m32.names (hp3 x hQ),fun k hk=>⟨.inl (Nat.le_trans s.size (nw (m33 k hk).1)),(m33 k hk).2⟩⟩
   · exact⟨l2,e2,m22.names (hp2 x hQ),fun k hk=>⟨.inl (Nat.le_trans s.size (nw (m23 k hk).1)),(m23 k hk).2⟩⟩
   · exact⟨l1,e1,m12.names (hp1 x hQ),fun k hk=>⟨.inl (Nat.le_trans s.size (nw (m13 k hk).1)),(m13 k hk).2⟩⟩
   · obtain ⟨li, g1, g2, g3⟩ := s.live i bi hi
     have hblk:∀ k,li.has k→w'.heap[k]?=w.heap[k]?:=fun k hk=>hkeep k (s.has_lt hi g1 hk)
     refine⟨li,by rw [e5 (hlow hi)]; exact g1,g2.mono s'.ext e6 hblk,fun k hk=>⟨(g3 k hk).1,fun y hy=>?_⟩⟩
     rw [s'.old y (by rw [hy]; exact s.has_lt hi g1 hk) fun hg=>hg]
     exact (g3 k hk).2 y hy
 · have cls : ∀ {i : Nat} {bi : Bx} {li : Loc} {k : Nat}, (((h.upd n (b1 x)).upd (n + 1) (b2 x)).upd (n + 2) (b3 x)) i = some bi → φ2 i = some li → li.has k →
    (h i=some bi∧φ i=some li∧k<w.heap.size) ∨ (w.heap.size≤k∧∃ y c,h' y=some c∧φ' y=some li∧((i=n+2∧y=i3) ∨ (i=n+1∧y=i2) ∨ (i=n∧y=i1))):=by
    intro i bi li k hi hli hk
    rcases src hi with⟨rfl,rfl⟩|⟨rfl,rfl⟩|⟨rfl,rfl⟩|hi
    · rw [e3] at hli; cases hli; exact .inr ⟨nw (m33 k hk).1,i3,_,hb3,m31,.inl ⟨rfl,rfl⟩⟩
    · rw [e2] at hli; cases hli; exact .inr ⟨nw (m23 k hk).1,i2,_,hb2,m21,.inr (.inl ⟨rfl,rfl⟩)⟩
    · rw [e1] at hli; cases hli; exact .inr ⟨nw (m13 k hk).1,i1,_,hb1,m11,.inr (.inr ⟨rfl,rfl⟩)⟩
    · rw [e5 (hlow hi)] at hli
      exact .inl ⟨hi,hli,s.has_lt hi hli hk⟩
   rcases cls hi hli hki with⟨p1,p2,p3⟩|⟨p1,y1,c1,p2,p3,p4⟩<;>rcases cls hj hlj hkj with⟨q1,q2,q3⟩|⟨q1,y2,c2,q2,q3,q4⟩
   · exact s.sep i j bi bj li lj k p1 q1 p2 q2 hki hkj
   · omega
   · omega
   · have := s'.sep y1 y2 c1 c2 li lj k p2 q2 p3 q3 hki hkj
     subst this
     rcases p4 with⟨rfl,rfl⟩|⟨rfl,rfl⟩|⟨rfl,rfl⟩<;>rcases q4 with⟨rfl,e⟩|⟨rfl,e⟩|⟨rfl,e⟩<;>first|rfl|exact absurd e.symm h12|exact absurd e h12|exact absurd e.symm h13|exact absurd e h13|exact absurd e.symm h23|exact absurd e h23
theorem ZdO {f:Operand} {args:List Operand} {g:FuncId} {caps as0:List PV} {X:Type} {Q:X→Prop} {mk:X→Nat→Nat→Nat→PV} {b1 b2 b3:X→Bx} {d:Option Nat} {os:List AOper} {K:Nat→Env→Heap→Prop} (hs:N3Spec P g (as0++caps) Q mk b1 b2 b3) (hmk:∀ x,Mk3 (mk x)) (hp1:∀ x,Q x→pureLL (b1 x).elems) (hp2:∀ x,Q x→pureLL (b2 x).elems) (hp3:∀ x,Q x→pureLL (b3 x).elems) (hf:ev e f=some (.fn g caps)) (ha:evs e args=some as0) (hp:pureL (as0++caps))
 (hk:∀ x,Q x→opsK P os (n+3) (updO e d (mk x n (n+1) (n+2))) (((h.upd n (b1 x)).upd (n+1) (b2 x)).upd (n+2) (b3 x)) K):opsK P (⟨d,.call f args,none⟩ :: os) n e h K :=
 Z1U hf ha (hs.ispec hmk hp1 hp2 hp3 hp) fun n' r h' hh=>by obtain⟨x,hQ,rfl,rfl,rfl⟩:=hh; exact hk x hQ
theorem Zb2 {f nt:Nat} {ac:ACode} {rs:List ARes} (hf:FnOk P f nt ac rs) {args:List PV} {X:Type} {Q:X→Prop} {mk:X→Nat→Nat→Nat→PV} {b1 b2 b3:X→Bx} (hn:args.length≤nt)
 (hk:∀ C:Ctx,C.dom 0→aw P C ac (retI rs fun n' r h'=>∃ x i j k,Q x∧i≠j∧i≠k∧j≠k∧r=mk x i j k∧h' i=some (b1 x)∧h' j=some (b2 x)∧h' k=some (b3 x)) 0 (argEnv args) (fun _=>none)):N3Spec P f args Q mk b1 b2 b3:=Z29 hf hn hk
theorem Zgg {F:Froz} {φ φ':Locs} {l m:List PV} (hl:l.length=m.length) (h:∀ i v,i<m.length→Rep F φ v (l.getD i pvu)→Rep F φ' v (m.getD i pvu)) {v:Value} (hr:Rep F φ v (.agg l)):Rep F φ' v (.agg m):=by
 obtain⟨vs,rfl,h1,h2,h3⟩:=hr.agg_inv
 exact .agg vs m (by rw [h1,hl]) (fun i hi=>h2 i (by rw [hl]; exact hi)) fun i hi=>h i _ hi (h3 i (by rw [hl]; exact hi))
theorem Zgh {F:Froz} {φ φ':Locs} {l m:List PV} (hl:l.length=m.length) (h:∀ i v,i<m.length→Rep F φ v (l.getD i pvu)→Rep F φ' v (m.getD i pvu)) {v:Value} (hr:Rep F φ v (.tup l)):Rep F φ' v (.tup m):=by
 obtain⟨vs,rfl,h1,h2⟩:=hr.tup_inv
 exact .tup vs m (by rw [h1,hl]) fun i hi=>h i _ hi (h2 i (by rw [hl]; exact hi))
end
end Go.Proofs.YthgklpbcmbmmcaaGreatDoor
namespace Go.Proofs.YthgklpbcmbmmcaaGreatDoor
open Go.RowKit
attribute [local irreducible] aw opsK dK
set_option maxHeartbeats 1000000 in
theorem Z68 (l:List Cu) (fl:Bool) (hl:∀ c∈l,Ok64 c) (hlen:l.length≤1000000):NSpec Tryz.prog 99 [.vec (l.map raC) fl] .own ⟨2,l.map cuC⟩:=by
 have hnl:(l.map raC).length=l.length:=by simp
 have hrp:∀ m,innLL m (l.map raC):=fun m=>Zg (fun _ h=>h.elim) _ (Zi Z4k l)
 refine Z2N ok99 (Nat.le_of_ble_eq_true rfl) fun C hC=>?_
 repeat' (first|refine Zb (ZE (k:=3) rfl 2 (by decide)) ?_|(first|refine st ?_|(apply B<;>intro hb<;>try cases hb)))
 refine ZM hC (fun (i:Nat)=>i≤l.length) (fun i=>l.length-i) 1 (fun i => [(3,.own 0),(6,.vec (l.map raC) fl),(7,.val (.int .i64 (l.length:Int))),(8,.val (.int .i64 (i:Int)))])
  (fun i => [(0,⟨2,(l.take i).map cuC⟩)]) (Nat.zero_le _) 0 (Nat.zero_le _) (fun i=>i) (fun _ _=>rfl) Zv
  ⟨⟨_,rfl,.own 0 (by decide)⟩,⟨_,rfl,.pure _ (hrp _)⟩,⟨_,by rw [← hnl]; rfl,.pure _ trivial⟩,⟨_,rfl,.pure _ trivial⟩,trivial⟩ ⟨⟨by decide,_,rfl,.same _ trivial⟩,trivial⟩ ?_
 intro i hi
 have hinc:IntKind.i64.wrap ((i:Int)+1)=((i+1:Nat):Int):=IntWalk.i64_in _ ⟨by omega,by omega⟩
 iterate 2 (first|refine st ?_|(apply B<;>intro hb<;>try cases hb))
 refine Zl rfl rfl rfl (fun hb=>?_) (fun hb=>?_)
 · have hil : i < l.length := by have := of_decide_eq_true hb; omega
   have htake:l.take (i+1)=l.take i ++ [l[i]]:=by rw [List.take_add_one,List.getElem?_eq_getElem hil]; rfl
   clear hb
   refine go ?_
   refine Z5 (Zo (xs:=l) rfl rfl i rfl hil rfl) rfl rfl ?_
   refine go ?_
   refine Z3 (Z5R l[i] (hl _ (List.getElem_mem hil))) rfl rfl rfl ⟨Z4k _,trivial⟩ rfl ?_
   refine go ?_
   refine ZA (Zq (k:=0) (m := [cuC l[i]]) (fl:=true) rfl rfl rfl (fun c hc=>by rw [List.mem_singleton] at hc; subst hc; rfl) rfl (by
    show (((l.take i).map cuC).length+1)*48≤_
    rw [List.length_map,List.length_take]
    omega)) rfl rfl ?_
   refine go ?_
   refine⟨i+1,mv 0 2,by omega,by omega,fun i hi=>absurd hi (Nat.not_lt_zero i),ZB rfl,
    ⟨⟨_,rfl,.own 0 (by decide)⟩,⟨_,rfl,.pure _ (hrp _)⟩,⟨_,rfl,.pure _ trivial⟩,⟨_,by show some _=some _; rw [hinc],.pure _ trivial⟩,trivial⟩,
    ⟨⟨by decide,_,rfl,?_⟩,trivial⟩⟩
   show RenB _ _ ⟨2,(l.take i).map cuC ++ [cuC l[i]]⟩ ⟨2,(l.take (i+1)).map cuC⟩
   rw [htake,List.map_append]
   exact .same _ (by rw [← List.map_singleton,← List.map_append]; exact Z0 _)
 · have hil : i = l.length := by have := of_decide_eq_false hb; omega
   subst hil
   clear hb
   rw [List.take_length]
   refine go ?_
   exact⟨_,_,rfl,.inl rfl,0,rfl,rfl⟩
noncomputable def pbO (t:PB) (S:List Nat) (i j k:Nat):List PV := [.val (.int .i64 (t.n:Int)),hierP t.l S,.vec (words (digs t.st)) false,.own i,.own j,.own k]
theorem ZdP (t:PB) (S:List Nat) {q:List PV} (hq:pureL q):Mk3 fun i j k=>.tup (.agg (pbO t S i j k) :: q):=by
 intro F φ φ' v i j k a b c hi hj hk hv
 show Rep F φ' v (.tup (.agg (pbO t S a b c) :: q))
 refine Zgh (l:=.agg (pbO t S i j k) :: q) (m:=.agg (pbO t S a b c) :: q) rfl (fun m v hm hv=>?_) hv
 match m,hm with
 | 0, _ =>
   refine Zgg (l:=pbO t S i j k) (m:=pbO t S a b c) rfl (fun m v hm hv=>?_) hv
   match m,hm with
   | 0,_=>exact hv.pure trivial
   | 1,_=>exact hv.pure (Zs _ _)
   | 2,_=>exact hv.pure (Z7 _)
   | 3,_=>exact Z2W F φ φ' v i a hi hv
   | 4,_=>exact Z2W F φ φ' v j b hj hv
   | 5,_=>exact Z2W F φ φ' v k c hk hv
   | m+6,h=>exact absurd h (by show ¬ m+6<6;omega)
 | m+1,hm=>exact hv.pure (ZC hq m)
set_option maxHeartbeats 4000000 in
set_option maxRecDepth 100000 in
set_option maxHeartbeats 16000000 in
theorem Za1 {t:PB} (h:PbOk t):N3Spec Tryz.prog 47 [.agg (pbR t)] (fun _:List Nat=>True) (fun S i j k=>.tup [.agg (pbO t S i j k),.val (.bool true)]) (fun _=>⟨5,t.rs.map ruP⟩) (fun _=>⟨2,t.nv.map cuC⟩) (fun _=>⟨2,t.gl.map cuC⟩):=by
 have hpr:=Z4l t
 have hgl:=h.good
 have hll:=Z7F hgl
 have hnl:=Z1Y t.l
 have hst:t.st<18446744073709551616:=by
  have h1:t.st≤mkN t.n:=by rw [← h.st]; exact Nat.left_le_or
  have:=Z39 h.n.2
  omega
 have hpl:∀ D,innLL D (t.l.map prC):=fun D=>Zg (fun _ h=>h.elim) _ (Ze t.l)
 have hpc:∀ D,innL D (pbR t):=fun D=>Z1f (fun _ h=>h.elim) _ hpr
 have hhp:∀ D l S,(hierP l S).inn D:=fun D l S=>PV.inn_mono (fun _ h=>h.elim) _ (Zs l S)
 have hcu:∀ (l:List Cu) D,innLL D (l.map cuC):=fun l D=>Zg (fun _ h=>h.elim) _ (Z1r l)
 refine Zb2 ok47 (Nat.le_of_ble_eq_true rfl) fun C hC=>?_
 refine Zj ?_
 refine Z8 ?_
 refine Z4 rfl rfl rfl ?_
 refine gd 13 ⟨?_⟩
 refine Z76 rfl rfl (.inl rfl) Z4R trivial ?_
 rintro r ⟨S0,rfl⟩
 refine gd 16 ⟨?_⟩
 refine Zz (Z4H t.st hst) rfl rfl rfl ⟨trivial,trivial⟩ ?_
 refine gd 19 ⟨?_⟩
 refine Z77 (Z68 t.nv false h.nv64 (by have:=h.nl;omega)) Z2W (Z0 _) rfl rfl rfl ⟨Z1i _,trivial⟩ ?_
 refine gd 22 ⟨?_⟩
 refine Z77 (Z68 t.gl false h.gl64 (by have:=h.gk;omega)) Z2W (Z0 _) rfl rfl rfl ⟨Z1i _,trivial⟩ ?_
 refine go ?_
 refine ZG hC (fun (z:Nat×List Nat)=>z.1≤t.l.length) (fun z=>t.l.length-z.1) 16 (fun z => [(1,.cp (pbR t)),(2,.ptr 0 0 0),(4,.ptr 14 0 0),(25,.vec (t.l.map prC) false),(26,.val (.int .i64 t.l.length)),(27,.val (.int .i64 (z.1:Int)))])
  (fun z => [(0,⟨6,[zpv [.int .i64 0,.pointer none,.slice none 0 0,.slice none 0 0,.slice none 0 0,.slice none 0 0]]⟩),(14,⟨6,[[.val (.int .i64 (t.n:Int)),hierP (t.l.take z.1) z.2,.vec (words (digs t.st)) false,.vec [] true,.own 9,.own 12]]⟩),(9,⟨2,t.nv.map cuC⟩),(12,⟨2,t.gl.map cuC⟩)]) (Nat.zero_le _) (0,S0) (Nat.zero_le _)
  ⟨⟨rfl,hpc _⟩,⟨rfl,show (0:Nat)<16 by decide⟩,⟨rfl,show (14:Nat)<16 by decide⟩,⟨rfl,hpl _⟩,⟨by rw [← hnl]; rfl,trivial⟩,⟨rfl,trivial⟩,trivial⟩
  ⟨⟨by decide,rfl,⟨⟨trivial,trivial,trivial,trivial,trivial,trivial,trivial⟩,trivial⟩⟩,⟨by decide,rfl,⟨⟨trivial,hhp _ _ _,Zd _ _,trivial,show (9:Nat)<16 by decide,show (12:Nat)<16 by decide,trivial⟩,trivial⟩⟩,⟨by decide,rfl,Zg (fun _ h=>h.elim) _ (Z0 _)⟩,⟨by decide,rfl,Zg (fun _ h=>h.elim) _ (Z0 _)⟩,trivial⟩ ?_
 rintro⟨i,S⟩ hi
 dsimp only at hi
 have hinc:IntKind.i64.wrap ((i:Int)+1)=((i+1:Nat):Int):=IntWalk.i64_in _ ⟨by omega,by omega⟩
 refine gd 28 ⟨?_⟩
 refine Zl rfl rfl rfl (fun hb=>?_) (fun hb=>?_)
 · have hil : i < t.l.length := by have := of_decide_eq_true hb; omega
   have htk:=Z1b hil
   have hro:=hgl.role _ (List.getElem_mem hil)
   have hsub:∀ p∈t.l.take i ++ [t.l[i]],p∈t.l:=fun p hp=>by rw [← htk] at hp; exact List.mem_of_mem_take hp
   have hno:t.l[i] ∉ t.l.take i:=fun h=>by
    have hnd:=SortedP.nd (SortedP.tk hgl.asc (i+1))
    rw [htk,List.nodup_append] at hnd
    exact hnd.2.2 _ h _ (List.mem_singleton.2 rfl) rfl
   clear hb
   refine go ?_
   refine Z5 (Zo (xs:=t.l) (g:=prC) rfl rfl i rfl hil rfl) rfl rfl ?_
   generalize t.l[i]=p at htk hro hsub hno ⊢
   have hls:=Zdo (t.l.take i) S p.1 p.2 (by omega) (by omega) hro.2.2.2.2 (fun q hq=>hgl.small q (List.mem_of_mem_take hq)) (SortedP.nd (SortedP.tk hgl.asc i)) hno (hgl.acy.sub hsub) (by rw [List.length_take];omega)
   refine gd 38 ⟨?_⟩
   refine ZR rfl rfl hls ⟨Zs _ _,trivial,trivial,trivial⟩ rfl ?_
   rintro r ⟨l',S',hpm,hst,rfl⟩
   have hle:l'=t.l.take (i+1):=by
    have hx1:l'.Perm (t.l.take (i+1)):=by rw [htk]; exact hpm
    exact Z4T hst (SortedP.tk hgl.asc (i+1)) hx1
   subst hle
   refine go ?_
   exact⟨(i+1,S'),hil,by show t.l.length-(i+1)<t.l.length-i; omega,⟨⟨rfl,hpc _⟩,⟨rfl,show (0:Nat)<16 by decide⟩,⟨rfl,show (14:Nat)<16 by decide⟩,⟨rfl,hpl _⟩,⟨rfl,trivial⟩,⟨by show some _=some _; rw [hinc],trivial⟩,trivial⟩,
    ⟨⟨by decide,rfl,⟨⟨trivial,trivial,trivial,trivial,trivial,trivial,trivial⟩,trivial⟩⟩,⟨by decide,rfl,⟨⟨trivial,hhp _ _ _,Zd _ _,trivial,show (9:Nat)<16 by decide,show (12:Nat)<16 by decide,trivial⟩,trivial⟩⟩,⟨by decide,rfl,Zg (fun _ h=>h.elim) _ (Z0 _)⟩,⟨by decide,rfl,Zg (fun _ h=>h.elim) _ (Z0 _)⟩,trivial⟩⟩
 · have hil : i = t.l.length := by have := of_decide_eq_false hb; omega
   subst hil
   clear hb hinc hi
   rw [List.take_length]
   refine gd 50 ⟨?_⟩
   refine Zb (ZJ (id:=14) (i0:=0) (j0:=3) rfl (Nat.le_of_ble_eq_true rfl) (Nat.le_of_ble_eq_true rfl) rfl 5 (by decide) (by decide)) ?_
   refine go ?_
   have hnr:=Zf2 t.rs
   have hrl:=h.rl
   refine ZM hC (fun (i:Nat)=>i≤t.rs.length) (fun i=>t.rs.length-i) 17 (fun i => [(2,.ptr 0 0 0),(4,.ptr 14 0 0),(48,.vec (t.rs.map ruR) false),(49,.val (.int .i64 (t.rs.length:Int))),(50,.val (.int .i64 (i:Int)))])
    (fun i => [(0,⟨6,[zpv [.int .i64 0,.pointer none,.slice none 0 0,.slice none 0 0,.slice none 0 0,.slice none 0 0]]⟩),(14,⟨6,[[.val (.int .i64 (t.n:Int)),hierP t.l S,.vec (words (digs t.st)) false,.own 16,.own 9,.own 12]]⟩),(9,⟨2,t.nv.map cuC⟩),(12,⟨2,t.gl.map cuC⟩),(16,⟨5,(t.rs.take i).map ruP⟩)]) (Nat.zero_le _) 0 (Nat.zero_le _) (fun i=>i) (fun _ _=>rfl) Zv
    ⟨⟨_,rfl,.ptr (ρ:=fun i=>i) 0 0 0 (by decide)⟩,⟨_,rfl,.ptr (ρ:=fun i=>i) 14 0 0 (by decide)⟩,⟨_,rfl,.pure _ (Z1h _)⟩,⟨_,by rw [← hnr]; rfl,.pure _ trivial⟩,⟨_,rfl,.pure _ trivial⟩,trivial⟩
    ⟨⟨by decide,_,rfl,.same _ ⟨⟨trivial,trivial,trivial,trivial,trivial,trivial,trivial⟩,trivial⟩⟩,⟨by decide,_,rfl,RenB.single ⟨.pure _ trivial,.pure _ (Zs _ _),.pure _ (Z7 _),.own (ρ:=fun i=>i) 16 (by decide),.own (ρ:=fun i=>i) 9 (by decide),.own (ρ:=fun i=>i) 12 (by decide),trivial⟩ rfl⟩,⟨by decide,_,rfl,.same _ (Z0 _)⟩,⟨by decide,_,rfl,.same _ (Z0 _)⟩,⟨by decide,_,rfl,.same _ trivial⟩,trivial⟩ ?_
   intro i hi
   have hinc:IntKind.i64.wrap ((i:Int)+1)=((i+1:Nat):Int):=IntWalk.i64_in _ ⟨by omega,by omega⟩
   refine gd 51 ⟨?_⟩
   by_cases hil:i<t.rs.length
   · have htk := Z1b hil
     have hcu64:=(h.rs _ (List.getElem_mem hil)).cu.lt h.n.2
     refine Z5 (Za (v:=true) rfl (decide_eq_true (Int.ofNat_lt.2 hil))) rfl rfl ?_
     refine go ?_
     refine Z5 (Zo (xs:=t.rs) (g:=ruR) rfl rfl i rfl hil rfl) rfl rfl ?_
     generalize t.rs[i]=x at htk hcu64 ⊢
     refine gd 57 ⟨?_⟩
     refine Zt rfl rfl rfl ?_
     refine gd 60 ⟨?_⟩
     refine Zz (Z5R x.cu hcu64) rfl rfl rfl ⟨Z4k _,trivial⟩ ?_
     refine gd 67 ⟨?_⟩
     refine Zt (Zq (k:=16) (m := [ruP x]) (fl:=true) rfl rfl rfl (fun q hq=>by rw [List.mem_singleton] at hq; subst hq; rfl) rfl (by
      show (((t.rs.take i).map ruP).length+1)*72≤_
      rw [List.length_map,List.length_take];omega)) rfl rfl ?_
     refine go ?_
     refine⟨i+1,mv 16 31,hil,by show t.rs.length-(i+1)<t.rs.length-i; omega,fun i hi=>absurd hi (Nat.not_lt_zero i),ZB rfl,
      ⟨⟨_,rfl,.ptr (ρ:=mv 16 31) 0 0 0 (by decide)⟩,⟨_,rfl,.ptr (ρ:=mv 16 31) 14 0 0 (by decide)⟩,⟨_,rfl,.pure _ (Z1h _)⟩,⟨_,rfl,.pure _ trivial⟩,⟨_,by show some _=some _; rw [hinc],.pure _ trivial⟩,trivial⟩,
      ⟨⟨by decide,_,rfl,.same _ ⟨⟨trivial,trivial,trivial,trivial,trivial,trivial,trivial⟩,trivial⟩⟩,⟨by decide,_,rfl,RenB.single ⟨.pure _ trivial,.pure _ (Zs _ _),.pure _ (Z7 _),.own (ρ:=mv 16 31) 16 (by decide),.own (ρ:=mv 16 31) 9 (by decide),.own (ρ:=mv 16 31) 12 (by decide),trivial⟩ rfl⟩,⟨by decide,_,rfl,.same _ (Z0 _)⟩,⟨by decide,_,rfl,.same _ (Z0 _)⟩,⟨by decide,_,rfl,?_⟩,trivial⟩⟩
     show RenB _ _ ⟨5,(t.rs.take i).map ruP ++ [ruP x]⟩ ⟨5,(t.rs.take (i+1)).map ruP⟩
     rw [htk,List.map_append]
     exact .same _ (by rw [← List.map_singleton,← List.map_append]; exact ZD _)
   · have hil : i = t.rs.length := by omega
     subst hil
     rw [List.take_length]
     refine Z5 (Za (v:=false) rfl (decide_eq_false (Int.lt_irrefl _))) rfl rfl ?_
     repeat' (first|refine Z2E [] [(0,16)] [63,63,63,63,47,63] (by kernel_rfl) ?_|(first|refine st ?_|(apply B<;>intro hb<;>try cases hb)))
     exact⟨_,_,rfl,.inl rfl,S,16,9,12,trivial,by decide,by decide,by decide,rfl,rfl,rfl,rfl⟩
set_option maxHeartbeats 4000000 in
theorem ZdQ (p:List Nat) (fl:Bool) (hp:Bytes p):N3Spec Tryz.prog 14 [.vec (bys p) fl] (fun x:PB×List Nat=>MkOk x.1) (fun x i j k=>.tup [.agg (pbO x.1 x.2 i j k),.agg (pbR x.1),.val (.bool true)]) (fun x=>⟨5,x.1.rs.map ruP⟩) (fun x=>⟨2,x.1.nv.map cuC⟩) (fun x=>⟨2,x.1.gl.map cuC⟩):=by
 refine Zb2 ok14 (Nat.le_of_ble_eq_true rfl) fun C hC=>?_
 refine gd 9 ⟨?_⟩
 refine ZR rfl rfl (Z9I p fl hp) ⟨Z7y p,trivial⟩ rfl ?_
 rintro r ⟨t,ht,rfl⟩
 have hpr:=Z4l t
 refine gd 12 ⟨?_⟩
 refine ZdO (Za1 ht.ok) (fun S=>ZdP t S (q := [.val (.bool true)]) ⟨trivial,trivial⟩) (fun _ _=>ZD _) (fun _ _=>Z0 _) (fun _ _=>Z0 _) rfl rfl ⟨hpr,trivial⟩ ?_
 rintro S -
 repeat' (first|refine Z2E [] [(0,8)] [63,63,63,55,63,63] (by kernel_rfl) ?_|(first|refine st ?_|(apply B<;>intro hb<;>try cases hb)))
 exact⟨_,_,rfl,.inl rfl,(t,S),_,_,_,ht,by decide,by decide,by decide,rfl,rfl,rfl,rfl⟩
section
variable {v0 v1 v2 v3 v4 v5:PV} {e:Int}
theorem ZdR (hq:pureL [v0,v1,v2,v3,v4,v5]) (he:e≠0) (hc:Spec Tryz.prog 39 [.agg [v0,v1,v2,v3,v4,v5]] (· = .val (.int .i64 e))):Spec Tryz.prog 15 [.agg [v0,v1,v2,v3,v4,v5]] (· = .tup [.vec [] true,.val (.int .i64 e)]):=by
 refine Z2 ok15 (Nat.le_of_ble_eq_true rfl) fun C hC=>?_
 refine Zj ?_
 refine Z8 ?_
 refine Z4 rfl rfl rfl ?_
 refine gd 8 ⟨?_⟩
 refine Z3 hc rfl rfl rfl ⟨hq,trivial⟩ rfl ?_
 refine gd 10 ⟨?_⟩
 refine Z5 (Za (v:=true) rfl (by simpa using he)) rfl rfl ?_
 refine go ?_
 exact Z6 rfl ⟨trivial,trivial,trivial⟩ rfl
theorem Za2 (hq:pureL [v0,v1,v2,v3,v4,v5]) (he:e≠0) (hc:Spec Tryz.prog 39 [.agg [v0,v1,v2,v3,v4,v5]] (· = .val (.int .i64 e))):Spec Tryz.prog 20 [.agg [v0,v1,v2,v3,v4,v5]] (· = .tup [.vec [] true,.val (.int .i64 e)]):=by
 refine Z2 ok20 (Nat.le_of_ble_eq_true rfl) fun C hC=>?_
 refine Zj ?_
 refine Z8 ?_
 refine Z4 rfl rfl rfl ?_
 refine gd 9 ⟨?_⟩
 refine Z3 (ZdR hq he hc) rfl rfl rfl ⟨hq,trivial⟩ rfl ?_
 refine gd 13 ⟨?_⟩
 refine Z5 (Za (v:=true) rfl (by simpa using he)) rfl rfl ?_
 refine go ?_
 exact Z6 rfl ⟨trivial,trivial,trivial⟩ rfl
theorem Zc6 (hq:pureL [v0,v1,v2,v3,v4,v5]) (he:e≠0) (hc:Spec Tryz.prog 39 [.agg [v0,v1,v2,v3,v4,v5]] (· = .val (.int .i64 e))) (c:Cu) (k:Int):Spec Tryz.prog 26 [.agg [v0,v1,v2,v3,v4,v5],cuP c,.val (.int .i64 k)] (· = .tup [.vec [] true,.val (.int .i64 e)]):=by
 refine Z2 ok26 (Nat.le_of_ble_eq_true rfl) fun C hC=>?_
 refine Zj ?_
 refine Z8 ?_
 refine Z4 rfl rfl rfl ?_
 refine Z4 rfl rfl rfl ?_
 refine gd 13 ⟨?_⟩
 refine Z3 hc rfl rfl rfl ⟨hq,trivial⟩ rfl ?_
 refine gd 15 ⟨?_⟩
 refine Z5 (Za (v:=true) rfl (by simpa using he)) rfl rfl ?_
 refine go ?_
 exact Z6 rfl ⟨trivial,trivial,trivial⟩ rfl
theorem Zc7 (hq:pureL [v0,v1,v2,v3,v4,v5]) (he:e≠0) (hc:Spec Tryz.prog 39 [.agg [v0,v1,v2,v3,v4,v5]] (· = .val (.int .i64 e))) (k:Int):Spec Tryz.prog 31 [.agg [v0,v1,v2,v3,v4,v5],.val (.int .i64 k)] (· = .tup [.vec [] true,.vec [] true,.val (.bool false),.val (.int .i64 e)]):=by
 refine Z2 ok31 (Nat.le_of_ble_eq_true rfl) fun C hC=>?_
 refine Zj ?_
 refine Z8 ?_
 refine Z4 rfl rfl rfl ?_
 refine gd 18 ⟨?_⟩
 refine Z3 hc rfl rfl rfl ⟨hq,trivial⟩ rfl ?_
 refine gd 20 ⟨?_⟩
 refine Z5 (Za (v:=true) rfl (by simpa using he)) rfl rfl ?_
 refine go ?_
 exact Z6 rfl ⟨trivial,trivial,trivial,trivial,trivial⟩ rfl
theorem ZdS (hq:pureL [v0,.val (.pointer none),v2,v3,v4,v5]):Spec Tryz.prog 39 [.agg [v0,.val (.pointer none),v2,v3,v4,v5]] (· = .val (.int .i64 1)):=by
 refine Z2 ok39 (Nat.le_of_ble_eq_true rfl) fun C hC=>?_
 refine Zj ?_
 refine Z8 ?_
 refine Z4 rfl rfl rfl ?_
 refine go ?_
 exact Z6 rfl trivial rfl
end
set_option maxHeartbeats 1000000 in
theorem Zc8 (a b M:Nat) (ha:a<18446744073709551616) (hb0:b<18446744073709551616) (h0:b≠0) (hM:M<18446744073709551616) (hM0:M≠0):Spec Tryz.prog 65 [.agg [.vec (words [a,b]) false],setN M] (· = .val (.bool false)):=by
 have hz:=Z1t b 0 hb0 (by decide)
 have hz0:¬ ((minusN b 0:Nat):Int)=0:=fun h=>by
  have h1:minusN b 0=0:=by omega
  have h2:=(Z5w hb0 (by decide)).1 h1
  exact h0 (by simpa using h2)
 rcases ZZ hM with⟨h,_⟩|⟨h2,e2⟩
 · exact absurd h hM0
 rw [e2]
 clear e2
 refine Z2 ok65 (Nat.le_of_ble_eq_true rfl) fun C hC=>?_
 refine Zj ?_
 refine Z8 ?_
 refine Z4 rfl rfl rfl ?_
 refine Z4 rfl rfl rfl ?_
 refine go ?_
 refine Z1p 2 ?_
 refine go ?_
 refine Z3 (ZY [M] 0) rfl rfl rfl ⟨⟨⟨⟨trivial,trivial⟩,trivial⟩,trivial⟩,trivial,trivial⟩ rfl ?_
 (refine go ?_;repeat' (apply B<;>intro hb<;>try cases hb))
 · exact Z6 rfl trivial rfl
 · refine Z3 (ZY [M] 1) rfl rfl rfl ⟨⟨⟨⟨trivial, trivial⟩, trivial⟩, trivial⟩, trivial, trivial⟩ rfl ?_
   (refine go ?_;repeat' (apply B<;>intro hb<;>try cases hb))
   · exact Z6 rfl trivial rfl
   · rw [show ((([M] : List Nat).getD 1 0 : Nat) : Int) = ((0 : Nat) : Int) from rfl, hz] at hb
     exact absurd (by simpa using hb) hz0
noncomputable def prbW (n:Int) (l:List Pr) (S:List Nat) (a b:Nat) (rs:List RI) (nv gl:List Cu):List PV := [.val (.int .i64 n),hierP l S,.vec (words [a,b]) false,.vec (rs.map ruI) false,.vec (nv.map cuC) false,.vec (gl.map cuC) false]
theorem Z69 (n:Int) (l:List Pr) (S:List Nat) (a b:Nat) (rs:List RI) (nv gl:List Cu):pureL (prbW n l S a b rs nv gl):=⟨trivial,Zs _ _,Z7 _,Z2f _,Z1r _,Z1r _,trivial⟩
set_option maxHeartbeats 2000000 in
theorem ZdT (n:Nat) (h1:1≤n) (h2:n≤63) (l:List Pr) (S:List Nat) (a b:Nat) (ha:a<18446744073709551616) (hb:b<18446744073709551616) (h0:b≠0) (rs:List RI) (nv gl:List Cu):Spec Tryz.prog 80 [.agg (prbW (n:Int) l S a b rs nv gl)] (· = .val (.bool false)):=by
 have hp1:2 ^ (n+1)≤2 ^ 64:=Nat.pow_le_pow_right (by decide) (by omega)
 have hp0:=Nat.two_pow_pos (n+1)
 have hp2:2 ^ 1≤2 ^ n:=Nat.pow_le_pow_right (by decide) h1
 have hmk:=Z39 h2
 have hmk0:mkN n≠0:=by unfold mkN; omega
 have hinc0:IntKind.i64.wrap ((n:Int)+1)=((n+1:Nat):Int):=IntWalk.i64_in _ ⟨by omega,by omega⟩
 have hbw:=Z1l (2 ^ (n+1)-1) (by omega) 0
 rw [Z2Q n h2] at hbw
 have hw:=Zc8 a b (mkN n) ha hb h0 hmk hmk0
 have hc1:pureL [PV.vec (words (digs (mkN n))) false]:=⟨Z7 _,trivial⟩
 have hpp:=Z69 (n:Int) l S a b rs nv gl
 refine Z2 ok80 (Nat.le_of_ble_eq_true rfl) fun C hC=>?_
 refine Zj ?_
 refine Z8 ?_
 refine Z4 rfl rfl rfl ?_
 refine gd 6 ⟨?_⟩
 refine Zu rfl rfl rfl hinc0 ?_
 refine Z3 (Z3u (n+1) (by omega) (by omega)) rfl rfl rfl ⟨trivial,trivial⟩ rfl ?_
 refine Z3 hbw rfl rfl rfl ⟨Z1 _,trivial,trivial⟩ rfl ?_
 refine gd 9 ⟨?_⟩
 refine Zb (Z19 (k:=3) rfl rfl hc1) ?_
 refine gd 12 ⟨?_⟩
 refine Z3 hw rfl rfl rfl ⟨⟨Z7 _,trivial⟩,Z1 _,trivial⟩ rfl ?_
 refine go ?_
 exact Z6 rfl trivial rfl
set_option maxHeartbeats 2000000 in
theorem ZdU (k:Nat) (h1:1≤k) (h2:k≤63) (l:List Pr) (S:List Nat) (a b:Nat) (ha:a<18446744073709551616) (hb:b<18446744073709551616) (h0:b≠0) (rs:List RI) (nv gl:List Cu) (hrs:rs.length≤64) (hnv:nv.length≤2000) (hgl:gl.length≤2000):Spec Tryz.prog 39 [.agg (prbW (k:Int) l S a b rs nv gl)] (· = .val (.int .i64 4)):=by
 have hpp:=Z69 (k:Int) l S a b rs nv gl
 have hr1:(rs.map ruI).length=rs.length:=by simp
 have hr2:(nv.map cuC).length=nv.length:=by simp
 have hr3:(gl.map cuC).length=gl.length:=by simp
 refine Z2 ok39 (Nat.le_of_ble_eq_true rfl) fun C hC=>?_
 refine Zj ?_
 refine Z8 ?_
 refine Z4 rfl rfl rfl ?_
 refine gd 11 ⟨?_⟩
 refine Zn rfl ?_
 refine Z5 (Za (v:=false) rfl (decide_eq_false (by omega))) rfl rfl ?_
 refine gd 16 ⟨?_⟩
 refine Zn rfl ?_
 refine Z5 (Za (v:=false) rfl (decide_eq_false (by omega))) rfl rfl ?_
 refine gd 22 ⟨?_⟩
 refine Z5 (Za (v:=false) rfl (decide_eq_false (by rw [hr1];omega))) rfl rfl ?_
 refine gd 27 ⟨?_⟩
 refine Zn rfl ?_
 refine Z5 (Za (v:=false) rfl (decide_eq_false (by rw [hr2];omega))) rfl rfl ?_
 refine gd 33 ⟨?_⟩
 refine Zn rfl ?_
 refine Z5 (Za (v:=false) rfl (decide_eq_false (by rw [hr3];omega))) rfl rfl ?_
 refine gd 37 ⟨?_⟩
 refine Z3 (ZdT k h1 h2 l S a b ha hb h0 rs nv gl) rfl rfl rfl ⟨hpp,trivial⟩ rfl ?_
 refine go ?_
 exact Z6 rfl trivial rfl
theorem Zff {a k:Nat} (ha:a<18446744073709551616) (hk:64≤k) (hk2:k≤127):digs (a ||| 2 ^ k) = [a,2 ^ (k-64)]∧2 ^ (k-64)<18446744073709551616∧2 ^ (k-64)≠0:=by
 have hp:2 ^ k=18446744073709551616*2 ^ (k-64):=by
  rw [show (18446744073709551616:Nat)=2 ^ 64 from rfl,← Nat.pow_add]; congr 1; omega
 have hb:2 ^ (k-64)<2 ^ 64:=Nat.pow_lt_pow_right (by decide) (by omega)
 have h0:=Nat.two_pow_pos (k-64)
 have hor:a ||| 2 ^ k=2 ^ k+a:=by
  rw [Nat.or_comm,hp,show (18446744073709551616:Nat)=2 ^ 64 from rfl]
  exact (Nat.two_pow_add_eq_or_of_lt (i:=64) ha _).symm
 have hm:(2 ^ k+a) % 18446744073709551616=a:=by rw [hp]; omega
 have hd:(2 ^ k+a) / 18446744073709551616=2 ^ (k-64):=by rw [hp]; omega
 refine⟨?_,hb,by omega⟩
 rw [hor,Z2H (by omega),hm,hd,Z47 hb (by omega)]
theorem Za3 {n:Int} {l:List Pr} {s0:Nat} {rs:List RI} {nv gl:List Cu} (hc:chkI n l s0 rs nv gl=0):(1≤n∧n≤63)∧rs.length≤64∧knB (mkN n.toNat) l s0 rs (cubI rs nv gl)=true∧(cubI rs nv gl).any emC=false∧rs.all revB=true∧soC nv (clo l s0)=false:=by
 unfold chkI at hc
 by_cases h1:n<1 ∨ 63<n
 · rw [if_pos h1] at hc; exact absurd hc (by decide)
 rw [if_neg h1] at hc
 by_cases h2:64<rs.length ∨ 2000<nv.length ∨ 2000<gl.length
 · rw [if_pos h2] at hc; exact absurd hc (by decide)
 rw [if_neg h2] at hc
 cases h3:knB (mkN n.toNat) l s0 rs (cubI rs nv gl) with
 | false=>rw [h3,if_pos rfl] at hc; exact absurd hc (by decide)
 | true =>
   rw [h3,if_neg (by decide)] at hc
   cases h4:(cubI rs nv gl).any emC with
   | true=>rw [h4,if_pos (.inl rfl)] at hc; exact absurd hc (by decide)
   | false =>
     cases h5:rs.all revB with
     | false=>rw [h5,if_pos (.inr rfl)] at hc; exact absurd hc (by decide)
     | true =>
       rw [h4,h5,if_neg (by simp)] at hc
       cases h6:soC nv (clo l s0) with
       | true=>rw [h6,if_pos rfl] at hc; exact absurd hc (by decide)
       | false=>exact⟨by omega,by omega,rfl,rfl,rfl,rfl⟩
structure PbBase (t:PB):Prop where
 good:GoodL t.l
 l5:∀ p∈t.l,p.1≤5∧p.2≤5
 st:t.st<18446744073709551616
 rl:t.rs.length≤10000
 rm:∀ r∈t.rs,InM 62 r.cu
 rt:∀ r∈t.rs,r.tg≤t.n→r.tg≤5
 nl:t.nv.length≤64
 nv:∀ c∈t.nv,InM 62 c
 gk:t.gl.length≤64
 gl:∀ c∈t.gl,InM 62 c
theorem Zfg {c:Cu} (h:InM 62 c):Ok64 c:=by
 have h1:c.1≤62:=by rw [← h.1]; exact Nat.left_le_or
 have h2:c.2≤62:=by rw [← h.2]; exact Nat.left_le_or
 exact⟨by omega,by omega⟩
theorem PbBase.fine {t:PB} (h:PbBase t):Fine t.l t.st (t.rs.map toI) t.nv t.gl:=by
 have h2:=h.nl
 have h3:=h.gk
 refine⟨Nat.le_trans (Z7F h.good) (by decide),h.st,by rw [List.length_map]; exact h.rl,by omega,by omega,fun c hc=>Zfg ?_⟩
 unfold cubI at hc
 rw [List.mem_append,List.mem_append,List.map_map,List.mem_map] at hc
 rcases hc with (⟨x,hx,rfl⟩|hc)|hc
 · exact h.rm x hx
 · exact h.nv c hc
 · exact h.gl c hc
theorem ZdV {t:PB} (h:PbBase t) (hc:chkI t.n t.l t.st (t.rs.map toI) t.nv t.gl=0):PbOk t:=by
 obtain⟨hn,hrl,hk,he,hr,hs⟩:=Za3 hc
 have hn':1≤t.n∧t.n≤63:=by omega
 rw [List.length_map] at hrl
 rw [Int.toNat_natCast] at hk
 unfold knB at hk
 rw [Bool.and_eq_true,Bool.and_eq_true,Bool.and_eq_true,List.all_eq_true,List.all_eq_true,List.all_eq_true] at hk
 obtain⟨k1,k2,k3,k4⟩:=hk
 have hcu:∀ c∈cubI (t.rs.map toI) t.nv t.gl,InC t.n c:=fun c hc=>by
  have h1:=of_decide_eq_true (k4 c hc)
  have h2:emC c=false:=Bool.eq_false_iff.2 fun h0=>by
   rw [List.any_eq_false] at he
   exact he c hc h0
  refine⟨orSub.2 fun i hi=>orSub.1 h1 i ?_,orSub.2 fun i hi=>orSub.1 h1 i ?_,h2⟩
  · rw [Nat.testBit_or,hi]; rfl
  · rw [Nat.testBit_or,hi,Bool.or_true]
 refine⟨hn',h.good,fun p hp=>?_,of_decide_eq_true k1,hrl,fun r hr'=>?_,h.nl,fun c hc=>⟨hcu c (by unfold cubI; simp [hc]),h.nv c hc⟩,h.gk,fun c hc=>⟨hcu c (by unfold cubI; simp [hc]),h.gl c hc⟩,hs⟩
 · have h1 := k2 p hp
   rw [Bool.and_eq_true,Z1I,Z1I,Bool.and_eq_true,Bool.and_eq_true] at h1
   exact⟨of_decide_eq_true h1.1.2,of_decide_eq_true h1.2.2,h.l5 p hp⟩
 · have hm : toI r ∈ t.rs.map toI := List.mem_map.2 ⟨r, hr', rfl⟩
   have h1:=k3 _ hm
   have h1:(decide (0≤(r.tg:Int))&&(mkN t.n).testBit (r.tg:Int).toNat)=true:=h1
   rw [Bool.and_eq_true,Int.toNat_natCast,Z1I,Bool.and_eq_true] at h1
   have h2:=of_decide_eq_true h1.2.2
   refine⟨hcu r.cu (by unfold cubI; rw [List.map_map]; exact List.mem_append.2 (.inl (List.mem_append.2 (.inl (List.mem_map.2 ⟨r,hr',rfl⟩))))),h.rm r hr',⟨of_decide_eq_true h1.2.1,h2,h.rt r hr' h2⟩,fun hv=>?_⟩
   have h3:=(List.all_eq_true.1 hr) _ hm
   have h3:(!r.rev||(decide (r.cu.1=0)&&decide (r.cu.2=0)))=true:=h3
   rw [hv,Bool.not_true,Bool.false_or,Bool.and_eq_true] at h3
   exact Prod.ext (of_decide_eq_true h3.1) (of_decide_eq_true h3.2)
structure TailQ (q:List PV):Prop where
 pure:pureL q
 ok:(∃ v0 v1 v2 v3 v4 v5,q = [v0,v1,v2,v3,v4,v5]∧∃ e:Int,e≠0∧Spec Tryz.prog 39 [.agg q] (· = .val (.int .i64 e))) ∨ ∃ t S,PbOk t∧q=pbP t S
theorem Z2B {t:PB} (h:PbBase t) (S:List Nat):TailQ (pbP t S):=by
 refine⟨Z1n t S,?_⟩
 by_cases hc:chkI t.n t.l t.st (t.rs.map toI) t.nv t.gl=0
 · exact .inr ⟨t,S,ZdV h hc,rfl⟩
 · refine .inl ⟨_, _, _, _, _, _, rfl, _, hc, ?_⟩
   have:=Z3P t.n t.l S t.st (t.rs.map toI) t.nv t.gl h.fine
   rwa [← ZgB] at this
theorem Zb3 (n:Int) (l:List Pr) (S:List Nat) (s0:Nat) (rs:List RI) (nv gl:List Cu) (hf:Fine l s0 rs nv gl) (hc:chkI n l s0 rs nv gl≠0):TailQ (prbI n l S s0 rs nv gl) :=
 ⟨Z4q n l S s0 rs nv gl,.inl ⟨_,_,_,_,_,_,rfl,_,hc,Z3P n l S s0 rs nv gl hf⟩⟩
theorem PbOk.base {t:PB} (h:PbOk t):PbBase t:=by
 have hs:t.st<18446744073709551616:=(Zdx h).fs
 exact⟨h.good,fun p hp=>(h.lk p hp).2.2,hs,by have:=h.rl; omega,fun r hr=>(h.rs r hr).m,fun r hr _=>(h.rs r hr).tg.2.2,h.nl,fun c hc=>(h.nv c hc).2,h.gk,fun c hc=>(h.gl c hc).2⟩
theorem ZgW (t:PB):∃ x ec,pureLL x∧bfV t (0,0) 0=.tup [.vec x false,.val (.int .i64 ec)]:=by
 unfold bfV
 split
 · split
   · exact⟨_,_,Z0 _,rfl⟩
   · exact⟨[],_,trivial,rfl⟩
 · exact⟨[],_,trivial,rfl⟩
theorem c00:RenP (fun i=>i) (fun _=>False) (.agg [.vec [] true,.vec [] true]) (cuP (0,0)):=by
 have e:cuP (0,0)=(PV.agg [.vec [] true,.vec [] true]).low:=by
  show PV.agg [.vec (words (digs 0)) false,.vec (words (digs 0)) false]=PV.agg [.vec [] false,.vec [] false]
  rw [Zy]; rfl
 rw [e]
 exact .low _ ⟨trivial,trivial,trivial⟩
structure ErSt (z:List PV×Nat×Bx×Nat):Prop where
 id:z.2.1<30∧z.2.1≠3
 pure:pureLL z.2.2.1.elems
 p:z.2.2.2<6
 len:z.1.length=6
 own:z.1.getD z.2.2.2 pvu=.own z.2.1
 tail:TailQ (z.1.set z.2.2.2 (.vec z.2.2.1.elems false))
set_option maxRecDepth 100000 in
set_option maxHeartbeats 8000000 in
theorem Z4w (p:List Nat) (kd k:Int) (fl:Bool) (hp:Bytes p) (hkd:0≤kd∧kd≤255) (hk : -128≤k∧k≤127):Spec Tryz.prog 10 [.vec (bys p) fl,.val (.int .u8 kd),.val (.int .i8 k)] (· = .val (.bool true)):=by
 have hcv:IntKind.i64.wrap k=k:=IntWalk.i64_in _ ⟨by omega,by omega⟩
 refine Z2 ok10 (Nat.le_of_ble_eq_true rfl) fun C hC=>?_
 refine gd 21 ⟨?_⟩
 refine Z3 Z8D rfl rfl rfl trivial rfl ?_
 refine gd 25 ⟨?_⟩
 refine ZdO (X:=PB×List Nat) (ZdQ p fl hp) (fun x=>ZdP x.1 x.2 (q := [.agg (pbR x.1),.val (.bool true)]) ⟨Z4l _,trivial,trivial⟩) (fun x _=>ZD x.1.rs) (fun x _=>Z0 x.1.nv) (fun x _=>Z0 x.1.gl) rfl rfl ⟨Z7y p,trivial⟩ ?_
 rintro⟨t,S⟩ hmk
 dsimp only at hmk ⊢
 have h:=hmk.ok
 have hn:=hmk.n
 have hpr:=Z4l t
 refine gd 30 ⟨?_⟩
 iterate 4 (first|refine st ?_|(apply B<;>intro hb<;>try cases hb))
 show aw _ _ _ _ _ _ _
 have hhp:∀ D,(hierP t.l S).inn D:=fun D=>PV.inn_mono (fun _ h=>h.elim) _ (Zs t.l S)
 have hcu:∀ (l:List Cu) D,innLL D (l.map cuC):=fun l D=>Zg (fun _ h=>h.elim) _ (Z0 l)
 have hru:∀ D,innLL D (t.rs.map ruP):=fun D=>Zg (fun _ h=>h.elim) _ (ZD t.rs)
 have hba:=h.base
 have hrb:=hmk.rs
 have hnb:=hmk.nv
 have hgb:=hmk.gl
 have hs64:=hba.st
 have tail0:TailQ [.val (.int .i64 (t.n:Int)),.val (.pointer none),.vec (words (digs t.st)) false,.vec (t.rs.map ruP) false,.vec (t.nv.map cuC) false,.vec (t.gl.map cuC) false]:=by
  have hq:pureL [.val (.int .i64 (t.n:Int)),.val (.pointer none),.vec (words (digs t.st)) false,.vec (t.rs.map ruP) false,.vec (t.nv.map cuC) false,.vec (t.gl.map cuC) false]:=⟨trivial,trivial,Z7 _,ZD _,Z0 _,Z0 _,trivial⟩
  exact⟨hq,.inl ⟨_,_,_,_,_,_,rfl,1,by decide,ZdS hq⟩⟩
 have hrI:t.rs.map ruP=(t.rs.map toI).map ruI:=by rw [List.map_map]; rfl
 have hfi:=hba.fine
 have tail1:TailQ [.val (.int .i64 k),hierP t.l S,.vec (words (digs t.st)) false,.vec (t.rs.map ruP) false,.vec (t.nv.map cuC) false,.vec (t.gl.map cuC) false]:=by
  by_cases hc:chkI k t.l t.st (t.rs.map toI) t.nv t.gl=0
  · obtain ⟨j, rfl⟩ : ∃ j : Nat, k = (j : Int) := ⟨k.toNat, by have := (Za3 hc).1; omega⟩
    exact Z2B (t:={ t with n:=j }) { hba with rt:=fun r hr _=>(h.rs r hr).tg.2.2 } S
  · have := Zb3 k t.l S t.st (t.rs.map toI) t.nv t.gl hfi hc
    unfold prbI at this
    rwa [← hrI] at this
 have tail2:TailQ [.val (.int .i64 (t.n:Int)),hierP t.l S,.vec (words (digs (withN t.st k))) false,.vec (t.rs.map ruP) false,.vec (t.nv.map cuC) false,.vec (t.gl.map cuC) false]:=by
  unfold withN
  by_cases hk0:0≤k
  · rw [if_pos ⟨hk0, by omega⟩]
    obtain⟨j,rfl⟩:∃ j:Nat,k=(j:Int):=⟨k.toNat,by omega⟩
    rw [Int.toNat_natCast]
    by_cases hj:j<64
    · exact Z2B (t:={ t with st:=t.st ||| 2 ^ j }) { hba with st:=Z1W hs64 (Nat.pow_lt_pow_right (n:=64) (by decide) hj) } S
    · obtain ⟨hd, hb, hb0⟩ := Zff (k := j) hs64 (by omega) (by omega)
      rw [hd]
      have hpw:=Z69 (t.n:Int) t.l S t.st (2 ^ (j-64)) (t.rs.map toI) t.nv t.gl
      have hck:=ZdU t.n (by omega) (by omega) t.l S t.st (2 ^ (j-64)) hs64 hb hb0 (t.rs.map toI) t.nv t.gl (by rw [List.length_map];omega) (by omega) (by omega)
      unfold prbW at hpw hck
      rw [← hrI] at hpw hck
      exact⟨hpw,.inl ⟨_,_,_,_,_,_,rfl,4,by decide,hck⟩⟩
  · rw [if_neg (by omega)]
    exact Z2B hba S
 have tail3:TailQ [.val (.int .i64 (t.n:Int)),hierP t.l S,.vec (words (digs t.st)) false,.vec (t.rs.map ruP) false,.vec (t.nv.map cuC) false,.vec (t.gl.map cuC ++ [cuC (2,2)]) false]:=by
  have:=Z2B (t:={ t with gl:=t.gl ++ [(2,2)] }) { hba with gk:=by simp only [List.length_append,List.length_singleton]; omega,gl:=fun c hc=>(List.mem_append.1 hc).elim (hba.gl c) fun hc=>by rw [List.mem_singleton] at hc; subst hc; exact⟨by decide,by decide⟩ } S
  unfold pbP at this
  dsimp only at this
  rwa [List.map_append] at this
 have tail4:TailQ [.val (.int .i64 (t.n:Int)),hierP t.l S,.vec (words (digs t.st)) false,.vec (t.rs.map ruP) false,.vec (t.nv.map cuC ++ [cuC (0,0)]) false,.vec (t.gl.map cuC) false]:=by
  have:=Z2B (t:={ t with nv:=t.nv ++ [(0,0)] }) { hba with nl:=by simp only [List.length_append,List.length_singleton]; omega,nv:=fun c hc=>(List.mem_append.1 hc).elim (hba.nv c) fun hc=>by rw [List.mem_singleton] at hc; subst hc; exact⟨by decide,by decide⟩ } S
  unfold pbP at this
  dsimp only at this
  rwa [List.map_append] at this
 have tail5:TailQ [.val (.int .i64 (t.n:Int)),hierP t.l S,.vec (words (digs t.st)) false,.vec (t.rs.map ruP ++ [ruI (false,(0,0),k,0)]) false,.vec (t.nv.map cuC) false,.vec (t.gl.map cuC) false]:=by
  by_cases hk0:0≤k
  · obtain ⟨j, rfl⟩ : ∃ j : Nat, k = (j : Int) := ⟨k.toNat, by omega⟩
    have:=Z2B (t:={ t with rs:=t.rs ++ [⟨false,(0,0),j,0⟩] }) { hba with rl:=by simp only [List.length_append,List.length_singleton]; omega,rm:=fun r hr=>(List.mem_append.1 hr).elim (hba.rm r) fun hr=>by rw [List.mem_singleton] at hr; subst hr; exact⟨show 0 ||| 62=62 by decide,show 0 ||| 62=62 by decide⟩,rt:=fun r hr hl=>(List.mem_append.1 hr).elim (fun hr=>hba.rt r hr hl) fun hr=>Nat.le_trans hl hn.2 } S
    unfold pbP at this
    dsimp only at this
    rwa [List.map_append] at this
  · have hf5 : Fine t.l t.st (t.rs.map toI ++ [(false, (0, 0), k, 0)]) t.nv t.gl := ⟨hfi.fl, hfi.fs, by have := hfi.fr; simp only [List.length_append, List.length_singleton, List.length_map] at this ⊢; omega, hfi.fv, hfi.fg, fun c hc => by
     have hf:=hfi.fc
     unfold cubI at hc hf
     rw [List.map_append] at hc
     rcases List.mem_append.1 hc with hc|hc
     · rcases List.mem_append.1 hc with hc | hc
       · rcases List.mem_append.1 hc with hc | hc
         · exact hf c (List.mem_append.2 (.inl (List.mem_append.2 (.inl hc))))
         · obtain rfl : c = (0, 0) := List.mem_singleton.1 hc
           exact⟨by decide,by decide⟩
       · exact hf c (List.mem_append.2 (.inl (List.mem_append.2 (.inr hc))))
     · exact hf c (List.mem_append.2 (.inr hc))⟩
    have:=Zb3 t.n t.l S t.st (t.rs.map toI ++ [(false,(0,0),k,0)]) t.nv t.gl hf5 fun hc=>by
     have hk:=(Za3 hc).2.2.1
     unfold knB at hk
     rw [Bool.and_eq_true,Bool.and_eq_true,Bool.and_eq_true,List.all_eq_true,List.all_eq_true,List.all_eq_true] at hk
     have h1:=hk.2.2.1 (false,(0,0),k,0) (List.mem_append.2 (.inr (List.mem_singleton.2 rfl)))
     rw [Bool.and_eq_true] at h1
     exact hk0 (of_decide_eq_true h1.1)
    unfold prbI at this
    rwa [List.map_append,← hrI] at this
 have hp3:pureLL (t.gl.map cuC ++ [cuC (2,2)]):=by
  have:=Z0 (t.gl ++ [(2,2)]); rwa [List.map_append] at this
 have hp4:pureLL (t.nv.map cuC ++ [cuC (0,0)]):=by
  have:=Z0 (t.nv ++ [(0,0)]); rwa [List.map_append] at this
 have hp5:pureLL (t.rs.map ruP ++ [ruI (false,(0,0),k,0)]):=by
  have:=Z2f (t.rs.map toI ++ [(false,(0,0),k,0)]); rwa [List.map_append,← hrI] at this
 refine Z9a hC (X:=List PV×Nat×Bx×Nat) ErSt 30 (fun _ => [(7,.ptr 3 0 0)]) (fun z => [(3,⟨6,[z.1]⟩),(z.2.1,z.2.2.1)]) (by decide) ?_ ?_
 · obtain ⟨m, rfl⟩ : ∃ m : Nat, kd = (m : Int) := ⟨kd.toNat, by omega⟩
   refine gd 32 ⟨?_⟩
   refine Zu rfl rfl rfl (Z2m m 6) ?_
   have hj:m % 6<6:=Nat.mod_lt _ (by decide)
   generalize m % 6=j at hj ⊢
   rcases (show j=0 ∨ j=1 ∨ j=2 ∨ j=3 ∨ j=4 ∨ j=5 by omega) with rfl|rfl|rfl|rfl|rfl|rfl
   · refine gd 43 ⟨?_⟩
     refine Zb (Zf (ob:=3) (id:=0) (i0:=0) (j0:=3) rfl rfl (by decide) (ZD _) (Nat.le_of_ble_eq_true rfl) (Nat.le_of_ble_eq_true rfl) rfl) ?_
     refine Zb (Zf (ob:=3) (id:=1) (i0:=0) (j0:=4) rfl rfl (by decide) (Z0 _) (Nat.le_of_ble_eq_true rfl) (Nat.le_of_ble_eq_true rfl) rfl) ?_
     refine go ?_
     exact⟨([.val (.int .i64 (t.n:Int)),.val (.pointer none),.vec (words (digs t.st)) false,.vec (t.rs.map ruP) false,.vec (t.nv.map cuC) false,.own 2],2,⟨2,t.gl.map cuC⟩,5),⟨⟨Nat.le_of_ble_eq_true rfl,show (2:Nat)≠3 by decide⟩,Z0 _,Nat.le_of_ble_eq_true rfl,rfl,rfl,tail0⟩,⟨⟨rfl,show (3:Nat)<30 by decide⟩,trivial⟩,⟨Nat.le_of_ble_eq_true rfl,rfl,⟨⟨trivial,trivial,Zd _ _,hru _,hcu _ _,show (2:Nat)<30 by decide,trivial⟩,trivial⟩⟩,⟨Nat.le_of_ble_eq_true rfl,rfl,hcu _ _⟩,trivial⟩
   · refine gd 47 ⟨?_⟩
     refine Zb (Zf (ob:=3) (id:=0) (i0:=0) (j0:=3) rfl rfl (by decide) (ZD _) (Nat.le_of_ble_eq_true rfl) (Nat.le_of_ble_eq_true rfl) rfl) ?_
     refine Zb (Zf (ob:=3) (id:=1) (i0:=0) (j0:=4) rfl rfl (by decide) (Z0 _) (Nat.le_of_ble_eq_true rfl) (Nat.le_of_ble_eq_true rfl) rfl) ?_
     refine Zu rfl rfl rfl hcv ?_
     refine go ?_
     exact⟨([.val (.int .i64 k),hierP t.l S,.vec (words (digs t.st)) false,.vec (t.rs.map ruP) false,.vec (t.nv.map cuC) false,.own 2],2,⟨2,t.gl.map cuC⟩,5),⟨⟨Nat.le_of_ble_eq_true rfl,show (2:Nat)≠3 by decide⟩,Z0 _,Nat.le_of_ble_eq_true rfl,rfl,rfl,tail1⟩,⟨⟨rfl,show (3:Nat)<30 by decide⟩,trivial⟩,⟨Nat.le_of_ble_eq_true rfl,rfl,⟨⟨trivial,hhp _,Zd _ _,hru _,hcu _ _,show (2:Nat)<30 by decide,trivial⟩,trivial⟩⟩,⟨Nat.le_of_ble_eq_true rfl,rfl,hcu _ _⟩,trivial⟩
   · refine gd 54 ⟨?_⟩
     refine Zb (Zf (ob:=3) (id:=0) (i0:=0) (j0:=3) rfl rfl (by decide) (ZD _) (Nat.le_of_ble_eq_true rfl) (Nat.le_of_ble_eq_true rfl) rfl) ?_
     refine Zb (Zf (ob:=3) (id:=1) (i0:=0) (j0:=4) rfl rfl (by decide) (Z0 _) (Nat.le_of_ble_eq_true rfl) (Nat.le_of_ble_eq_true rfl) rfl) ?_
     refine Zu rfl rfl rfl hcv ?_
     refine Z3 (Z2w t.st (by have:=Z25 hs64;omega) k) rfl rfl rfl ⟨Z1 _,trivial,trivial⟩ rfl ?_
     refine go ?_
     exact⟨([.val (.int .i64 (t.n:Int)),hierP t.l S,.vec (words (digs (withN t.st k))) false,.vec (t.rs.map ruP) false,.vec (t.nv.map cuC) false,.own 2],2,⟨2,t.gl.map cuC⟩,5),⟨⟨Nat.le_of_ble_eq_true rfl,show (2:Nat)≠3 by decide⟩,Z0 _,Nat.le_of_ble_eq_true rfl,rfl,rfl,tail2⟩,⟨⟨rfl,show (3:Nat)<30 by decide⟩,trivial⟩,⟨Nat.le_of_ble_eq_true rfl,rfl,⟨⟨trivial,hhp _,Zd _ _,hru _,hcu _ _,show (2:Nat)<30 by decide,trivial⟩,trivial⟩⟩,⟨Nat.le_of_ble_eq_true rfl,rfl,hcu _ _⟩,trivial⟩
   · refine gd 58 ⟨?_⟩
     refine Zb (Zf (ob:=3) (id:=0) (i0:=0) (j0:=3) rfl rfl (by decide) (ZD _) (Nat.le_of_ble_eq_true rfl) (Nat.le_of_ble_eq_true rfl) rfl) ?_
     refine Zb (Zf (ob:=3) (id:=1) (i0:=0) (j0:=4) rfl rfl (by decide) (Z0 _) (Nat.le_of_ble_eq_true rfl) (Nat.le_of_ble_eq_true rfl) rfl) ?_
     refine gd 62 ⟨?_⟩
     refine Zz (Z1Z [1] 2 (by decide +kernel) true) rfl rfl rfl ⟨Zp _,trivial⟩ ?_
     refine gd 64 ⟨?_⟩
     refine Zz (Z1Z [1] 2 (by decide +kernel) true) rfl rfl rfl ⟨Zp _,trivial⟩ ?_
     refine gd 67 ⟨?_⟩
     refine Zt (Zq (k:=2) (m := [cuC (2,2)]) (fl:=true) rfl rfl rfl (fun c hc=>by rw [List.mem_singleton] at hc; subst hc; rfl) rfl (by
      show ((t.gl.map cuC).length+1)*48≤_
      rw [List.length_map];omega)) rfl rfl ?_
     refine go ?_
     exact⟨([.val (.int .i64 (t.n:Int)),hierP t.l S,.vec (words (digs t.st)) false,.vec (t.rs.map ruP) false,.vec (t.nv.map cuC) false,.own 13],13,⟨2,t.gl.map cuC ++ [cuC (2,2)]⟩,5),⟨⟨Nat.le_of_ble_eq_true rfl,show (13:Nat)≠3 by decide⟩,hp3,Nat.le_of_ble_eq_true rfl,rfl,rfl,tail3⟩,⟨⟨rfl,show (3:Nat)<30 by decide⟩,trivial⟩,⟨Nat.le_of_ble_eq_true rfl,rfl,⟨⟨trivial,hhp _,Zd _ _,hru _,hcu _ _,show (13:Nat)<30 by decide,trivial⟩,trivial⟩⟩,⟨Nat.le_of_ble_eq_true rfl,rfl,Zg (fun _ h=>h.elim) _ hp3⟩,trivial⟩
   · refine gd 71 ⟨?_⟩
     refine Zb (Zf (ob:=3) (id:=0) (i0:=0) (j0:=3) rfl rfl (by decide) (ZD _) (Nat.le_of_ble_eq_true rfl) (Nat.le_of_ble_eq_true rfl) rfl) ?_
     refine Zb (Zf (ob:=3) (id:=2) (i0:=0) (j0:=5) rfl rfl (by decide) (Z0 _) (Nat.le_of_ble_eq_true rfl) (Nat.le_of_ble_eq_true rfl) rfl) ?_
     refine gd 75 ⟨?_⟩
     refine Zb (Z3A (k:=74) (q:=.vec ([((0,0):Cu)].map cuC) false) rfl (by
      have e:PV.vec ([((0,0):Cu)].map cuC) false=(PV.vec [[.vec [] true,.vec [] true]] true).low:=by
       show PV.vec [[.vec (words (digs 0)) false,.vec (words (digs 0)) false]] false=PV.vec [[.vec [] false,.vec [] false]] false
       rw [Zy]; rfl
      rw [e]
      exact .low _ ⟨⟨trivial,trivial,trivial⟩,trivial⟩)) ?_
     refine ZA (Zq (k:=1) (m := [cuC (0,0)]) (fl:=false) rfl rfl rfl (fun c hc=>by rw [List.mem_singleton] at hc; subst hc; rfl) rfl (by
      show ((t.nv.map cuC).length+1)*48≤_
      rw [List.length_map];omega)) rfl rfl ?_
     refine go ?_
     exact⟨([.val (.int .i64 (t.n:Int)),hierP t.l S,.vec (words (digs t.st)) false,.vec (t.rs.map ruP) false,.own 5,.vec (t.gl.map cuC) false],5,⟨2,t.nv.map cuC ++ [cuC (0,0)]⟩,4),⟨⟨Nat.le_of_ble_eq_true rfl,show (5:Nat)≠3 by decide⟩,hp4,Nat.le_of_ble_eq_true rfl,rfl,rfl,tail4⟩,⟨⟨rfl,show (3:Nat)<30 by decide⟩,trivial⟩,⟨Nat.le_of_ble_eq_true rfl,rfl,⟨⟨trivial,hhp _,Zd _ _,hru _,show (5:Nat)<30 by decide,hcu _ _,trivial⟩,trivial⟩⟩,⟨Nat.le_of_ble_eq_true rfl,rfl,Zg (fun _ h=>h.elim) _ hp4⟩,trivial⟩
   · refine gd 33 ⟨?_⟩
     refine Zb (Zf (ob:=3) (id:=1) (i0:=0) (j0:=4) rfl rfl (by decide) (Z0 _) (Nat.le_of_ble_eq_true rfl) (Nat.le_of_ble_eq_true rfl) rfl) ?_
     refine Zb (Zf (ob:=3) (id:=2) (i0:=0) (j0:=5) rfl rfl (by decide) (Z0 _) (Nat.le_of_ble_eq_true rfl) (Nat.le_of_ble_eq_true rfl) rfl) ?_
     refine gd 36 ⟨?_⟩
     refine Zu rfl rfl rfl hcv ?_
     refine gd 39 ⟨?_⟩
     refine Zb (Z3A (k:=38) (q:=.vec ([((false,(0,0),k,0):RI)].map ruI) false) rfl (by
      have e:PV.vec ([((false,(0,0),k,0):RI)].map ruI) false=(PV.vec [[.val (.bool false),.vec [] true,.vec [] true,.val (.int .i64 k),.val (.int .i64 0)]] true).low:=by
       show PV.vec [[.val (.bool false),.vec (words (digs 0)) false,.vec (words (digs 0)) false,.val (.int .i64 k),.val (.int .i64 0)]] false=PV.vec [[.val (.bool false),.vec [] false,.vec [] false,.val (.int .i64 k),.val (.int .i64 0)]] false
       rw [Zy]; rfl
      rw [e]
      exact .low _ ⟨⟨trivial,trivial,trivial,trivial,trivial,trivial⟩,trivial⟩)) ?_
     refine ZA (Zq (k:=0) (m := [ruI (false,(0,0),k,0)]) (fl:=false) rfl rfl rfl (fun c hc=>by rw [List.mem_singleton] at hc; subst hc; rfl) rfl (by
      show ((t.rs.map ruP).length+1)*72≤_
      rw [List.length_map];omega)) rfl rfl ?_
     refine go ?_
     exact⟨([.val (.int .i64 (t.n:Int)),hierP t.l S,.vec (words (digs t.st)) false,.own 5,.vec (t.nv.map cuC) false,.vec (t.gl.map cuC) false],5,⟨5,t.rs.map ruP ++ [ruI (false,(0,0),k,0)]⟩,3),⟨⟨Nat.le_of_ble_eq_true rfl,show (5:Nat)≠3 by decide⟩,hp5,Nat.le_of_ble_eq_true rfl,rfl,rfl,tail5⟩,⟨⟨rfl,show (3:Nat)<30 by decide⟩,trivial⟩,⟨Nat.le_of_ble_eq_true rfl,rfl,⟨⟨trivial,hhp _,Zd _ _,show (5:Nat)<30 by decide,hcu _ _,hcu _ _,trivial⟩,trivial⟩⟩,⟨Nat.le_of_ble_eq_true rfl,rfl,Zg (fun _ h=>h.elim) _ hp5⟩,trivial⟩
 · rintro ⟨q, id, b, j⟩ ⟨⟨h1, h2⟩, h3, h4, h5, h6, h7⟩
   dsimp only at h1 h2 h3 h4 h5 h6 h7 ⊢
   clear hba hrb hnb hgb hs64 hhp hcu hru hmk hn hpr h tail0 tail1 tail2 tail3 tail4 tail5 hp3 hp4 hp5 hrI hfi
   refine Z2s (Zf (ob:=3) (id:=id) (i0:=0) (j0:=j) (bo:=⟨6,[q]⟩) rfl (b:=b) (by show Heap.upd (Heap.upd _ id b) 3 _ id=_; rw [Heap.upd_ne _ _ h2,Heap.upd_same]) (Ne.symm h2) h3 (Nat.le_of_ble_eq_true rfl) (by show j<q.length;omega) h6 (Nat.le_of_ble_eq_true rfl) C) ?_
   have hqp:∀ D,innLL D [q.set j (.vec b.elems false)]:=fun D=>Zg (fun _ h=>h.elim) _ ⟨h7.pure,trivial⟩
   refine Z5n hC [(7,.ptr 3 0 0)] [(3,⟨6,[q.set j (.vec b.elems false)]⟩)] (n':=30) (Nat.zero_le _) ⟨⟨rfl,show (3:Nat)<30 by decide⟩,trivial⟩ ⟨⟨Nat.le_of_ble_eq_true rfl,rfl,hqp _⟩,trivial⟩ ?_
   clear hqp
   generalize q.set j (.vec b.elems false)=q' at h7 ⊢
   obtain⟨hq,⟨v0,v1,v2,v3,v4,v5,rfl,e,he,hc⟩|⟨t',S',h',rfl⟩⟩:=h7
   · have hee : ∀ x : Int, x = e → decide (x = e) = true := fun x hx => decide_eq_true hx
     refine gd 78 ⟨?_⟩
     refine Z3 hc rfl rfl rfl ⟨hq,trivial⟩ rfl ?_
     refine gd 81 ⟨?_⟩
     refine Z3 (ZdR hq he hc) rfl rfl rfl ⟨hq,trivial⟩ rfl ?_
     refine gd 86 ⟨?_⟩
     refine Z3 (Za2 hq he hc) rfl rfl rfl ⟨hq,trivial⟩ rfl ?_
     refine gd 92 ⟨?_⟩
     refine Zb (Z3A (k:=91) (q:=cuP (0,0)) rfl c00) ?_
     refine Z3 (Zc6 hq he hc (0,0) 0) rfl rfl rfl ⟨hq,Zm _,trivial,trivial⟩ rfl ?_
     refine gd 97 ⟨?_⟩
     refine Z3 (Zc7 hq he hc 0) rfl rfl rfl ⟨hq,trivial,trivial⟩ rfl ?_
     refine gd 103 ⟨?_⟩
     refine Z5 (Za (v:=true) rfl (by simpa using he)) rfl rfl ?_
     refine gd 106 ⟨?_⟩
     refine Z5 (Za (v:=true) rfl (by simp)) rfl rfl ?_
     refine gd 110 ⟨?_⟩
     refine Zn rfl ?_
     refine Z5 (Za (v:=true) rfl (by simp)) rfl rfl ?_
     refine gd 115 ⟨?_⟩
     refine Zn rfl ?_
     refine Z5 (Za (v:=true) rfl (by simp)) rfl rfl ?_
     refine gd 120 ⟨?_⟩
     refine Zn rfl ?_
     refine Z5 (Za (v:=true) rfl (by simp)) rfl rfl ?_
     refine go ?_
     exact Z6 rfl trivial rfl
   · obtain ⟨x, ec, hx, hbf⟩ := ZgW t'
     refine gd 78 ⟨?_⟩
     refine Z3 (Z4r h' S') rfl rfl rfl ⟨hq,trivial⟩ rfl ?_
     refine gd 81 ⟨?_⟩
     refine Z3 (Z7I h' S') rfl rfl rfl ⟨hq,trivial⟩ rfl ?_
     refine gd 86 ⟨?_⟩
     refine Z3 (Z3c h' S') rfl rfl rfl ⟨hq,trivial⟩ rfl ?_
     refine gd 92 ⟨?_⟩
     refine Zb (Z3A (k:=91) (q:=cuP (0,0)) rfl c00) ?_
     refine Z3 (Z4Y h' S' (0,0) ⟨by decide,by decide⟩ (by decide) (fun _=>⟨by decide,by decide⟩) 0) rfl rfl rfl ⟨hq,Zm _,trivial,trivial⟩ rfl ?_
     rw [hbf]
     refine gd 97 ⟨?_⟩
     refine Z3 (Zc5 h' S' 0 (by decide)) rfl rfl rfl ⟨hq,trivial,trivial⟩ rfl ?_
     refine go ?_
     exact Z6 rfl trivial rfl
end Go.Proofs.YthgklpbcmbmmcaaGreatDoor
namespace Go.Proofs.YthgklpbcmbmmcaaGreatDoor
open Go.ChangeShapes Go.WideShapes Go.ChangeAt Go.RowKit
theorem Zb4 {α:Type} {enc:α→List PV} {Q:α→Prop}:∀ {ll:List (List PV)},(∀ l∈ll,∃ x,Q x∧l=enc x)→∃ xs:List α,(∀ x∈xs,Q x)∧ll=xs.map enc
 | [],_=>⟨[],fun _ h=>(by cases h),rfl⟩
 | l :: ll, h => by
   obtain⟨x,h1,rfl⟩:=h l (List.mem_cons_self ..)
   obtain⟨xs,h2,rfl⟩:=Zb4 fun l hl=>h l (List.mem_cons_of_mem _ hl)
   refine⟨x :: xs,fun y hy=>?_,rfl⟩
   rcases List.mem_cons.1 hy with rfl|hy
   · exact h1
   · exact h2 y hy
theorem Z7Q {P:Program} {s t u:TypeId}:∀ {ps:List PV},ShapeVs P [s,t,u] ps→∃ a b c,ps = [a,b,c]∧ShapeV P s a∧ShapeV P t b∧ShapeV P u c
 | [a,b,c],⟨h1,h2,h3,_⟩=>⟨a,b,c,rfl,h1,h2,h3⟩
theorem ZfD {m:Int} (h:(Lit.int .u8 m).wf=true):∃ a:Nat,a<256∧m=(a:Int):=by
 simp only [Lit.wf,Bool.and_eq_true,decide_eq_true_eq] at h
 obtain⟨h1,h2⟩:=h
 have h3:m≤255:=h2
 have h4:0≤m:=h1
 exact⟨m.toNat,by omega,by omega⟩
theorem Zfh {n:Nat} {l:List PV} (h:Shape Tryz.prog n 5 l):∃ x:Nat,x≤255∧l = [PV.val (.int .u8 (x:Int))]:=by
 obtain⟨m1,w1,e1⟩:=Z8F h (k:=.u8) (by kernel_rfl)
 obtain⟨x,hx,rfl⟩:=ZfD w1
 exact⟨x,by omega,e1⟩
theorem Za5 {p:PV} (h:ShapeV Tryz.prog 22 p):∃ (l:List Nat) (fl:Bool),Bytes l∧p=.vec (bys l) fl:=by
 obtain⟨n,ll,fl,_,h2,rfl⟩:=Z8G h (e:=5) (by kernel_rfl)
 obtain⟨xs,h3,rfl⟩:=Zb4 (enc:=fun (x:Nat) => [PV.val (.int .u8 (x:Int))]) (Q:=fun (x:Nat)=>x≤255) fun l hl=>Zfh (h2 l hl)
 exact⟨xs,fl,h3,rfl⟩
theorem ZdW {p:PV} (h:ShapeV Tryz.prog 5 p):∃ s:Nat,s<256∧p=.val (.int .u8 (s:Int)):=by
 obtain⟨m,w,rfl⟩:=Z6U h (k:=.u8) (by kernel_rfl)
 obtain⟨x,hx,rfl⟩:=ZfD w
 exact⟨x,hx,rfl⟩
theorem ZgN {m:Int} (h:(Lit.int .i8 m).wf=true) : -128≤m∧m≤127:=by
 simp only [Lit.wf,Bool.and_eq_true,decide_eq_true_eq] at h
 obtain⟨h1,h2⟩:=h
 have h3:m≤127:=h2
 have h4 : -128≤m:=h1
 exact⟨h4,h3⟩
theorem ZdX {p:PV} (h:ShapeV Tryz.prog 54 p):∃ m:Int,(-128≤m∧m≤127)∧p=.val (.int .i8 m):=by
 obtain⟨m,w,rfl⟩:=Z6U h (k:=.i8) (by kernel_rfl)
 exact⟨m,ZgN w,rfl⟩
theorem Z3R:∀ ps,ShapeVs Tryz.prog Tryz.f10.params.toList ps→pureL ps→Spec Tryz.prog 10 ps (· = .val (.bool true)):=by
 intro ps hs hp
 rw [show Tryz.f10.params.toList = [22,5,54] by kernel_rfl] at hs
 obtain⟨a,b,c,rfl,k0,k1,k2⟩:=Z7Q hs
 obtain⟨x0,f0,h0,rfl⟩:=Za5 k0
 obtain⟨x1,h1,rfl⟩:=ZdW k1
 obtain⟨x2,h2,rfl⟩:=ZdX k2
 exact Z4w x0 x1 x2 f0 h0 ⟨by omega,by omega⟩ h2
set_option maxRecDepth 100000 in
theorem Z3d (os:Os) (started:os.Started) (H:Type) (enc:TypeId×Value→H) :
 ReturnsInHanded {} Tryz.checked os 10 .any (fun w args=>(Rows.backwardErrorsSpec.pre enc Tryz.prog Tryz.f10 [] false w args∧laidMetH Tryz.prog laidV w)∧sizedMet enc Tryz.prog Tryz.f10 (OpenSpec.ofChange Rows.backwardErrorsSpec) false w args)
  (Rows.backwardErrorsSpec.post enc Tryz.prog Tryz.f10 false true false false):=by
 refine returnsInHanded_of_change_and (C:=Tryz.checked) (X:=fun w _=>laidMetH Tryz.prog laidV w) (fun _ _ _ hh h=>h.of_heap hh) own started (by kernel_rfl) Tryz.func10
  (ChangeSpec.witness_shaped (enc:=enc) (C:=Tryz.checked) (os:=os) (X:=fun w _=>laidMetH Tryz.prog laidV w) false (World.doorLaid Tryz.prog 400 os) #[.slice none 0 0,.int .u8 0,.int .i8 0] 8 rfl (World.shaped_of_RefB (by kernel_rfl) (by kernel_rfl)) (by kernel_rfl) (by kernel_rfl) (by kernel_rfl) (Zek os _)) ?_
 intro W base args ds gs before hval hW _ hwt hL _
 exact Z86 (P:=Tryz.prog) (G:=partsG Tryz.prog Tryz.f10.params.toList) (by kernel_rfl) (Zgn (by kernel_rfl)) laidOut (ZcF (by kernel_rfl)) (tb:=4) (by kernel_rfl) (by kernel_rfl) rfl (fun ds hd=>by
  match ds,hd with
  | [a,b,c],_=>exact⟨rfl,rfl,rfl⟩) Z3R W (Zem hL) base args ds gs before hval hW hwt
theorem Z3B:Rows.BackwardErrorsSaid :=
 OpenClaim.holds_of_wide 10 Tryz.f10 rfl rfl rfl rfl rfl rfl rfl ⟨rfl,rfl,rfl,rfl,rfl⟩ rfl rfl rfl rfl rfl (by kernel_rfl) Tryz.func10 (by kernel_rfl)
  (of_decide_eq_true (by kernel_rfl)) (by unfold Func.isWrapper; first|(rw [if_pos (by decide +kernel)]; kernel_rfl)|(rw [if_neg (by decide +kernel)]; exact⟨rfl,rfl⟩))
  (fun os started H enc _=>Z3d os started H enc)
theorem backwardErrors_card:Rows.BackwardErrorsCardSaid :=
 Claim7.holds_tied_plain_at .later [] [.data,.data,.data] true (true, "014fd6b22e4042236147d53ae712baa1ad29d63ef9f6a0c47d7df3ac22154ff4") false
  Z3B (fun _ h=>by cases h) (by kernel_rfl) (fun _ h=>by cases h) backwardErrors_row_tie rfl ⟨rfl,rfl⟩ (by kernel_rfl) rfl
  (fun f fn hf hfn => by
    obtain rfl : f = 10 := Option.some.inj ((show Tryz.prog.funcNamed "arbac/arbaclaw34.BackwardErrors" = some 10 by kernel_rfl).symm.trans hf) |>.symm
    obtain rfl:fn=Tryz.f10:=(Option.some.inj (Tryz.func10.symm.trans hfn)).symm
    exact⟨by kernel_rfl,fun j t ht=>by
     rw [show Tryz.f10.params = #[22,5,54] by kernel_rfl] at ht
     have hm:t∈[22,5,54]:=by simpa using Array.mem_of_getElem? ht
     have hall:([22,5,54].all fun u => !Tryz.prog.wantsStandIn u)=true:=by kernel_rfl
     exact (show Tryz.prog.wantsStandIn t=false by simpa using List.all_eq_true.1 hall t hm)⟩)
  (by kernel_rfl)
#print axioms backwardErrors_card
end Go.Proofs.YthgklpbcmbmmcaaGreatDoor
