/-
  Merged from the texts that this claim's theorem needs, part 6 of 7. No statement of the seat is proved here.
-/
import Derived.Test.YthgklpbcmbmmcaaGreatDoorMq4
set_option linter.unusedSimpArgs false
set_option linter.unusedVariables false
set_option linter.unusedSectionVars false
namespace Go.Proofs.YthgklpbcmbmmcaaGreatDoor
open Go.RowKit
attribute [local irreducible] aw opsK dK
noncomputable def hierP (l:List Pr) (S:List Nat):PV:=.cp [.cp (ordC l S)]
theorem Zs (l:List Pr) (S:List Nat):(hierP l S).pure:=⟨ZZ l S,trivial⟩
theorem Z4U:Spec Tryz.prog 42 [] fun r=>∃ S,r=hierP [] S:=by
 refine Z2 ok42 (Nat.le_of_ble_eq_true rfl) fun C hC=>?_
 refine go ?_
 refine ZF rfl rfl (Z8p [] true (fun p hp=>by cases hp) List.nodup_nil ⟨fun _=>0,fun p hp=>by cases hp⟩ (by decide)) ⟨trivial,trivial,trivial⟩ rfl ?_
 rintro r ⟨l',o,h1,h2,⟨S',rfl⟩,rfl⟩
 obtain rfl:=List.Perm.eq_nil h1
 refine gd 9 ⟨?_⟩
 refine Z4 rfl rfl rfl ?_
 refine go ?_
 exact Z6 rfl (Zs [] S') ⟨S',rfl⟩
theorem Z6T (a:Int):Spec Tryz.prog 139 [.val (.int .i64 a)] (· = .val (.bool (decide (1≤a)&&decide (a≤63)))):=by
 refine Z2 ok139 (Nat.le_of_ble_eq_true rfl) fun C hC=>?_
 (refine go ?_;repeat' (apply B<;>intro hb<;>try cases hb))
 all_goals exact Z6 rfl trivial (by simp_all<;>omega)
theorem Z61 (a:Nat) (h1:1≤a) (h2:a<64):Spec Tryz.prog 139 [.val (.int .i64 (a:Int))] (· = .val (.bool true)):=by
 have:=Z6T (a:Int)
 rwa [decide_eq_true (show (1:Int)≤a by omega),decide_eq_true (show (a:Int)≤63 by omega)] at this
set_option maxHeartbeats 1000000 in
theorem Zdw (l:List Pr) (S:List Nat) (a b:Nat) (ha:1≤a∧a<64) (hb:1≤b∧b<64) (hab:a≠b) (hl:Small l) (hn:l.Nodup) (hno:(a,b) ∉ l) (hacy:Acy (l ++ [(a,b)])) (hlen:l.length≤100000):Spec Tryz.prog 100 [hierP l S,.val (.int .i64 (a:Int)),.val (.int .i64 (b:Int))] fun r=>∃ l' S',l'.Perm (l ++ [(a,b)])∧SortedP l'∧r=.tup [hierP l' S',.val (.int .i64 0)]:=by
 have hne:((a:Int) == (b:Int))=false:=by rw [beq_eq_false_iff_ne]; omega
 refine Z2 ok100 (Nat.le_of_ble_eq_true rfl) fun C hC=>?_
 refine go ?_
 refine Z5 (Z61 a ha.1 ha.2) rfl rfl rfl ⟨trivial,trivial⟩ rfl ?_
 refine go ?_
 refine Z5 (Z61 b hb.1 hb.2) rfl rfl rfl ⟨trivial,trivial⟩ rfl ?_
 refine gd 25 ⟨?_⟩
 refine Zq rfl ?_
 refine Z3 (Zb rfl hne) rfl rfl ?_
 refine go ?_
 refine ZF rfl rfl (ZbO l S a b ha.2 hb.2 hl hn hno hacy hlen) ⟨ZZ l S,trivial,trivial,trivial⟩ rfl ?_
 rintro r ⟨l',o,h1,h2,⟨S',rfl⟩,rfl⟩
 refine gd 42 ⟨?_⟩
 refine Z4 rfl rfl rfl ?_
 refine go ?_
 exact Z6 rfl ⟨Zs l' S',trivial,trivial⟩ ⟨l',S',h1,h2,rfl⟩
theorem Z8B (l:List Pr) (S:List Nat) (r:Int):Spec Tryz.prog 129 [hierP l S,.val (.int .i64 r)] (· = setN (if 1≤r∧r≤63 then jun l r.toNat else 0)):=by
 refine Z2 ok129 (Nat.le_of_ble_eq_true rfl) fun C hC=>?_
 refine go ?_
 refine Z5 (Z6T r) rfl rfl rfl ⟨trivial,trivial⟩ rfl ?_
 by_cases h:1≤r∧r≤63
 · rw [if_pos h, decide_eq_true h.1, decide_eq_true h.2]
   obtain⟨k,rfl⟩:∃ k:Nat,r=(k:Int):=⟨r.toNat,by omega⟩
   have hk:k<64:=by omega
   have h1:=Z9C l S (k:Int)
   rw [if_pos ⟨by omega,by omega⟩] at h1
   have h2:=Z33 (bel l k) (Nat.le_trans (Z2w (Zd0 l k)) (by decide)) (k:Int)
   rw [withN,if_pos ⟨by omega,by omega⟩] at h2
   refine go ?_
   refine Z5 h1 rfl rfl rfl ⟨ZZ l S,trivial,trivial⟩ rfl ?_
   refine go ?_
   refine Z5 h2 rfl rfl rfl ⟨Z1 _,trivial,trivial⟩ rfl ?_
   refine go ?_
   exact Z6 rfl (Z1 _) rfl
 · rw [if_neg h]
   have h2:(decide (1≤r)&&decide (r≤63))=false:=by
    rw [Bool.and_eq_false_iff]
    by_cases h1:1≤r
    · exact .inr (decide_eq_false fun h3=>h ⟨h1,h3⟩)
    · exact .inl (decide_eq_false h1)
   rw [h2]
   refine go ?_
   refine Z1b rfl (Z1 0 |> fun h=>by rw [Z1C] at h; exact h) ?_
   rw [Z1C]; rfl
noncomputable def cloL (l:List Pr) (rs:List Nat):Nat:=rs.foldl (fun o r=>if 1≤r then o ||| jun l r else o) 0
theorem Zdx (l:List Pr) (rs:List Nat) (r:Nat):cloL l (rs ++ [r])=if 1≤r then cloL l rs ||| jun l r else cloL l rs:=by simp [cloL,List.foldl_append]
set_option maxHeartbeats 2000000 in
theorem Z2l (l:List Pr) (S:List Nat) (s:Nat) (hs:s<18446744073709551616):Spec Tryz.prog 92 [hierP l S,setN s] (· = setN (clo l s)):=by
 refine Z2 ok92 (Nat.le_of_ble_eq_true rfl) fun C hC=>?_
 refine Zk ?_
 refine Z9 ?_
 refine Z4 rfl rfl rfl ?_
 refine Z4 rfl rfl rfl ?_
 refine go ?_
 refine Z5 (Z1O s) rfl rfl rfl ⟨Z1 _,trivial⟩ rfl ?_
 refine go ?_
 have hhp:=Zs l S
 refine Z2J (X:=List Nat) hC (caps := [.cp [.vec (words (digs s)) false]]) [(2,.cp [hierP l S]),(4,.ptr 0 0 0),(5,.ptr 1 0 0),(8,.fn 130 [.cp [.vec (words (digs s)) false]])]
  (fun z => [(0,⟨1,[[.vec [] true]]⟩),(1,⟨1,[[.vec (words (digs (cloL l z))) false]]⟩)]) rfl ⟨⟨Z8 _,trivial⟩,trivial⟩ (Z2M s hs) (fun _=>rfl)
  (fun ex pre z=>ex=.normal∧z=pre.map (·.val)) 2 (by decide) [] ⟨rfl,rfl⟩
  (Z3k (EnvQ.mem (ρ := fun i => i) (m := 2) (L := [(2, .cp [hierP l S]), (4, .ptr 0 0 0), (5, .ptr 1 0 0), (8, .fn 130 [.cp [.vec (words (digs s)) false]])]) ⟨⟨_, rfl, .pure _ ⟨hhp, trivial⟩⟩, ⟨_, rfl, .ptr (ρ := fun i => i) 0 0 0 (by decide)⟩, ⟨_, rfl, .ptr (ρ := fun i => i) 1 0 0 (by decide)⟩, ⟨_, rfl, .pure _ ⟨⟨Z8 _, trivial⟩, trivial⟩⟩, trivial⟩)
    (HeapQ.mem (ρ:=fun i=>i) (m:=2) (L := [(0,⟨1,[[.vec [] true]]⟩),(1,⟨1,[[.vec (words (digs (cloL l []))) false]]⟩)]) ⟨⟨by decide,_,rfl,.same _ ⟨⟨trivial,trivial⟩,trivial⟩⟩,⟨by decide,⟨1,[[.vec [] true]]⟩,rfl,by rw [show cloL l []=0 from rfl,ZC]; exact RenB.single (ρ:=fun i=>i) (l0 := [.vec [] true]) (l := [.vec [] false]) (show RenLs _ _ [_] [_] from ⟨.low (.vec [] true) trivial,trivial⟩) rfl⟩,trivial⟩) hC (by decide))
  (fun z q hq=>by simp at hq; rcases hq with rfl|rfl<;>exact Nat.zero_lt_succ _) _ (fun x=>rfl) ?_ ?_ ?_
 · rintro C2 hC2 pre x z ⟨-, rfl⟩ hlen
   have hx64:=Z2x x.2
   have hj:=Z8B l S (x.val:Int)
   have hcz:cloL l (pre.map (·.val))<18446744073709551616:=by
    unfold cloL
    exact Z9A l _ 0 (fun r hr=>by obtain⟨y,_,rfl⟩:=List.mem_map.1 hr; exact Z2x y.2) (by decide)
   have hstep:=Zdx l (pre.map (·.val)) x.val
   have hnew:cloL l (pre.map (·.val)) ||| (if 1≤(x.val:Int)∧(x.val:Int)≤63 then jun l (x.val:Int).toNat else 0)=cloL l (pre.map (·.val) ++ [x.val]):=by
    rw [hstep]
    by_cases h1:1≤x.val
    · rw [if_pos h1,if_pos ⟨by omega,by omega⟩]; rfl
    · rw [if_neg h1,if_neg (by omega),Nat.or_zero]
   have hj64:(if 1≤(x.val:Int)∧(x.val:Int)≤63 then jun l (x.val:Int).toNat else 0)<18446744073709551616:=by
    split
    · exact ZaK l hx64
    · decide
   refine go ?_
   refine Zz hj rfl rfl rfl ⟨hhp,trivial,trivial⟩ ?_
   refine Zz (Z1Q _ _ hcz hj64) rfl rfl rfl ⟨Z1 _,Z1 _,trivial⟩ ?_
   rw [hnew]
   refine go ?_
   exact⟨.inl rfl,pre.map (·.val) ++ [x.val],fun i=>i,⟨rfl,by rw [List.map_append]; rfl⟩,fun i hi=>rfl,Zu,
    ⟨⟨_,rfl,.pure _ ⟨hhp,trivial⟩⟩,⟨_,rfl,.ptr (ρ:=fun i=>i) 0 0 0 (by decide)⟩,⟨_,rfl,.ptr (ρ:=fun i=>i) 1 0 0 (by decide)⟩,⟨_,rfl,.pure _ ⟨⟨Z8 _,trivial⟩,trivial⟩⟩,trivial⟩,
    ⟨⟨by decide,_,rfl,.same _ ⟨⟨trivial,trivial⟩,trivial⟩⟩,⟨by decide,_,rfl,.same _ ⟨⟨Z8 _,trivial⟩,trivial⟩⟩,trivial⟩⟩
 · rintro xs z hxs ⟨-, rfl⟩
   rw [hxs]
   refine go ?_
   exact Z6 rfl (Z1 _) (by rw [Zde]; rfl)
 · rintro ex pre z - ⟨rfl,_⟩ (h|⟨id,h⟩)<;>cases h
theorem ZbV (l:List Pr) (S:List Nat) (hlen:l.length≤1000000):Spec Tryz.prog 113 [hierP l S] (· = .vec (l.map prC) false):=by
 refine Z2 ok113 (Nat.le_of_ble_eq_true rfl) fun C hC=>?_
 refine go ?_
 refine Z5 (Z9B l S hlen) rfl rfl rfl ⟨ZZ l S,trivial⟩ rfl ?_
 refine go ?_
 exact Z6 rfl (Zd l) rfl
def ruR (r:RU):List PV := [.val (.bool r.rev),.val (.int .u64 (r.cu.1:Int)),.val (.int .u64 (r.cu.2:Int)),.val (.int .i64 (r.tg:Int)),.val (.int .i64 (r.og:Int))]
def ruP (r:RU):List PV := [.val (.bool r.rev),.vec (words (digs r.cu.1)) false,.vec (words (digs r.cu.2)) false,.val (.int .i64 (r.tg:Int)),.val (.int .i64 (r.og:Int))]
theorem Zf6 (r:RU):pureL (ruR r):=⟨trivial,trivial,trivial,trivial,trivial,trivial⟩
theorem Z5l (r:RU):pureL (ruP r):=⟨trivial,Z8 _,Z8 _,trivial,trivial,trivial⟩
theorem Z1i (l:List RU):pureLL (l.map ruR):=Zf Zf6 l
theorem ZD (l:List RU):pureLL (l.map ruP):=Zf Z5l l
theorem Z1j (l:List Cu):pureLL (l.map raC):=Zf Z3t l
theorem Z16 (l:List Cu):pureLL (l.map cuC):=Zf Zh l
def pbR (t:PB):List PV := [.val (.int .i64 (t.n:Int)),.vec (t.l.map prC) false,.val (.int .u64 (t.st:Int)),.vec (t.rs.map ruR) false,.vec (t.nv.map raC) false,.vec (t.gl.map raC) false]
noncomputable def pbP (t:PB) (S:List Nat):List PV := [.val (.int .i64 (t.n:Int)),hierP t.l S,.vec (words (digs t.st)) false,.vec (t.rs.map ruP) false,.vec (t.nv.map cuC) false,.vec (t.gl.map cuC) false]
theorem Z5m (t:PB):pureL (pbR t):=⟨trivial,Zd _,trivial,Z1i _,Z1j _,Z1j _,trivial⟩
theorem Z1e (t:PB) (S:List Nat):pureL (pbP t S):=⟨trivial,Zs _ _,Z8 _,ZD _,Z16 _,Z16 _,trivial⟩
theorem PbOk.nv64 {t:PB} (h:PbOk t):∀ c∈t.nv,Ok64 c:=fun c hc=>(h.nv c hc).1.lt h.n.2
theorem PbOk.gl64 {t:PB} (h:PbOk t):∀ c∈t.gl,Ok64 c:=fun c hc=>(h.gl c hc).1.lt h.n.2
set_option maxHeartbeats 1000000 in
theorem ZbW {t:PB} (h:PbOk t) (S:List Nat) (s:Nat) (hs:s<18446744073709551616):Spec Tryz.prog 83 [.agg (pbP t S),setN s] (· = .val (.bool (goodB t s))):=by
 have hc:=Z2l t.l S s hs
 have hso:=Z1w t.nv false (clo t.l s) h.nv64 (Z8o _ _)
 have e:goodB t s = !soC t.nv (clo t.l s):=rfl
 rw [e]
 refine Z2 ok83 (Nat.le_of_ble_eq_true rfl) fun C hC=>?_
 refine Zk ?_
 refine Z9 ?_
 refine Z4 rfl rfl rfl ?_
 refine Z4 rfl rfl rfl ?_
 refine gd 14 ⟨?_⟩
 refine Z2t rfl ?_
 refine Zz hc rfl rfl rfl ⟨Zs _ _,Z1 _,trivial⟩ ?_
 refine gd 15 ⟨?_⟩
 refine Z2t rfl ?_
 refine Zz hso rfl rfl rfl ⟨Z16 _,Z1 _,trivial⟩ ?_
 generalize soC t.nv (clo t.l s)=b
 cases b
 all_goals
  refine go ?_
  exact Z6 rfl trivial rfl
set_option maxHeartbeats 1000000 in
theorem Z9M {t:PB} (h:PbOk t) (S:List Nat) (s:Nat) (hs:s<18446744073709551616):Spec Tryz.prog 44 [.agg (pbP t S),setN s] (· = .val (.bool (reachB t s))):=by
 have hc:=Z2l t.l S s hs
 have hso:=Z1w t.gl false (clo t.l s) h.gl64 (Z8o _ _)
 have e:reachB t s=soC t.gl (clo t.l s):=rfl
 rw [e]
 refine Z2 ok44 (Nat.le_of_ble_eq_true rfl) fun C hC=>?_
 refine Zk ?_
 refine Z9 ?_
 refine Z4 rfl rfl rfl ?_
 refine Z4 rfl rfl rfl ?_
 refine gd 14 ⟨?_⟩
 refine Z2t rfl ?_
 refine Zz hc rfl rfl rfl ⟨Zs _ _,Z1 _,trivial⟩ ?_
 refine gd 15 ⟨?_⟩
 refine Z2t rfl ?_
 refine Zz hso rfl rfl rfl ⟨Z16 _,Z1 _,trivial⟩ ?_
 generalize soC t.gl (clo t.l s)=b
 cases b
 all_goals
  refine go ?_
  exact Z6 rfl trivial rfl
theorem Z17 (N:Nat) (hN:N<18446744073709551616) (i:Nat):Spec Tryz.prog 64 [setN N,.val (.int .i64 (i:Int))] (· = .val (.bool (N.testBit i))):=by
 have:=Z1p N hN (i:Int)
 rwa [decide_eq_true (show (0:Int)≤(i:Int) by omega),Bool.true_and,Int.toNat_natCast] at this
theorem Zdy (c:Cu):lowL (cuC c)=cuC c:=by
 show [PV.vec (lowLL (words (digs c.1))) false,PV.vec (lowLL (words (digs c.2))) false]=_
 rw [ZV,ZV]
 rfl
set_option maxHeartbeats 4000000 in
theorem Z6U (a b:Cu) (ha:Ok64 a) (hb0:Ok64 b):Spec Tryz.prog 76 [cuP a,cuP b] (· = .vec ((minC a b).map cuC) false):=by
 have hN:b.1 ||| b.2<18446744073709551616:=Z1W hb0.1 hb0.2
 refine Z2 ok76 (Nat.le_of_ble_eq_true rfl) fun C hC=>?_
 refine Zk ?_
 refine Z9 ?_
 (first|refine st ?_|(apply B<;>intro hb<;>try cases hb))
 refine Z4 rfl rfl rfl ?_
 refine go ?_
 refine Z5 (Z12 a ha) rfl rfl rfl ⟨Zm a,trivial⟩ rfl ?_
 unfold minC
 cases he:emC a
 case true =>
  refine go ?_
  exact Z1b rfl (Z2a rfl) rfl
 rw [if_neg (by decide)]
 refine go ?_
 refine Z5 (Z6K a b ha hb0) rfl rfl rfl ⟨Zm a,Zm b,trivial⟩ rfl ?_
 generalize hme:meC a b=me
 obtain⟨mc,mb⟩:=me
 cases mb
 case false =>
  refine go ?_
  refine Z1b rfl ?_ ?_
  · show pureLL [lowL (cuC a)]
    rw [Zdy]; exact⟨Zh a,trivial⟩
  · show PV.vec [lowL (cuC a)] false = _
    rw [Zdy]; rfl
 rw [if_pos rfl]
 refine go ?_
 refine Za (ZK (id:=2) (i0:=0) (j0:=0) rfl (by decide) (by decide) rfl 2 (by decide) (by decide)) ?_
 refine Z5 (Z1Q b.1 b.2 hb0.1 hb0.2) rfl rfl rfl ⟨Z1 _,Z1 _,trivial⟩ rfl ?_
 refine Z5 (Z1O (b.1 ||| b.2)) rfl rfl rfl ⟨Z1 _,trivial⟩ rfl ?_
 refine go ?_
 refine Z2J (X:=Cu×List Cu) hC (caps := [.cp [.vec (words (digs (b.1 ||| b.2))) false]]) [(2,.ptr 0 0 0),(3,.cp (cuC b)),(7,.ptr 2 0 0),(26,.fn 130 [.cp [.vec (words (digs (b.1 ||| b.2))) false]])] (fun z => [(0,⟨2,[cuC z.1]⟩),(2,⟨1,[[.own 3]]⟩),(3,⟨2,z.2.map cuC⟩)]) rfl ⟨⟨Z8 _,trivial⟩,trivial⟩ (Z2M (b.1 ||| b.2) hN) (fun _=>rfl)
  (fun ex pre z=>ex=.normal∧z=minF a b (pre.map (·.val))) 4 (Nat.zero_le _) (a,[]) ⟨rfl,rfl⟩ (Z41 hC (Nat.zero_le _) ⟨⟨rfl,show (0:Nat)<4 by decide⟩,⟨rfl,Zg _ _,Zg _ _,trivial⟩,⟨rfl,show (2:Nat)<4 by decide⟩,⟨rfl,⟨Zg _ _,trivial⟩,trivial⟩,trivial⟩ ⟨⟨by decide,rfl,⟨Zg _ _,Zg _ _,trivial⟩,trivial⟩,⟨by decide,rfl,⟨show (3:Nat)<4 by decide,trivial⟩,trivial⟩,⟨by decide,rfl,trivial⟩,trivial⟩)
  (fun z q hq=>by simp at hq; rcases hq with rfl|rfl|rfl<;>exact Nat.zero_lt_succ _) _ (fun x=>rfl) ?_ ?_ ?_
 · rintro C2 hC2 pre x z ⟨-, rfl⟩ hlen
   have hr64:x.val<64:=Z2x x.2
   have hm:=Z24 (b.1 ||| b.2)
   obtain⟨hz1,hz2,hz3⟩:=Z9I (b:=b) ha (l:=pre.map (·.val)) (fun r hr=>by obtain⟨y,_,rfl⟩:=List.mem_map.1 hr; exact Z2x y.2)
   rw [List.length_map] at hz3
   have hnext:minF a b ((pre ++ [x]).map (·.val))=minS b (minF a b (pre.map (·.val))) x.val:=by simp [minF,List.foldl_append]
   generalize minF a b (pre.map (·.val))=z at *
   obtain⟨c,out⟩:=z
   dsimp only at hz1 hz2 hz3 ⊢
   have hlen1:out.length≤64:=by omega
   unfold minS at hnext
   dsimp only at hnext
   refine Z3j ?_
   refine Z3j ?_
   refine ZcI hC2 True 4 [(2,.ptr 0 0 0),(3,.cp (cuC b)),(7,.ptr 2 0 0),(8,.val (.int .i64 (x.val:Int))),(26,.fn 130 [.cp [.vec (words (digs (b.1 ||| b.2))) false]]),(28,.val (.bool (b.1.testBit x.val && !c.1.testBit x.val)))] [(0,⟨2,[cuC c]⟩),(2,⟨1,[[.own 3]]⟩),(3,⟨2,out.map cuC⟩)] (Nat.le_refl _) ?_ fun _=>?_
   · have fin : ∀ D, innLL D (out.map cuC) := fun D => Zi (fun _ h => h.elim) _ (Zf Zh out)
     refine go ?_
     refine Z5 (Z17 b.1 hb0.1 x.val) rfl rfl rfl ⟨Z1 _,trivial,trivial⟩ rfl ?_
     generalize b.1.testBit x.val=v1
     cases v1
     · refine go ?_
       exact⟨trivial,⟨⟨rfl,show (0:Nat)<4 by decide⟩,⟨rfl,Zg _ _,Zg _ _,trivial⟩,⟨rfl,show (2:Nat)<4 by decide⟩,⟨rfl,trivial⟩,⟨rfl,⟨Zg _ _,trivial⟩,trivial⟩,⟨rfl,trivial⟩,trivial⟩,⟨⟨by decide,rfl,⟨Zg _ _,Zg _ _,trivial⟩,trivial⟩,⟨by decide,rfl,⟨show (3:Nat)<4 by decide,trivial⟩,trivial⟩,⟨by decide,rfl,fin _⟩,trivial⟩⟩
     · refine go ?_
       refine Z5 (Z17 c.1 hz1.1 x.val) rfl rfl rfl ⟨Z1 _,trivial,trivial⟩ rfl ?_
       refine gv ?_
       exact⟨trivial,⟨⟨rfl,show (0:Nat)<4 by decide⟩,⟨rfl,Zg _ _,Zg _ _,trivial⟩,⟨rfl,show (2:Nat)<4 by decide⟩,⟨rfl,trivial⟩,⟨rfl,⟨Zg _ _,trivial⟩,trivial⟩,⟨rfl,trivial⟩,trivial⟩,⟨⟨by decide,rfl,⟨Zg _ _,Zg _ _,trivial⟩,trivial⟩,⟨by decide,rfl,⟨show (3:Nat)<4 by decide,trivial⟩,trivial⟩,⟨by decide,rfl,fin _⟩,trivial⟩⟩
   generalize (b.1.testBit x.val && !c.1.testBit x.val)=v at hnext
   cases v
   · rw [if_neg (by decide)] at hnext
     refine go ?_
     refine Z5 (Z17 b.2 hb0.2 x.val) rfl rfl rfl ⟨Z1 _,trivial,trivial⟩ rfl ?_
     generalize b.2.testBit x.val=v2 at hnext
     cases v2
     · rw [if_neg (by simp)] at hnext
       refine go ?_
       exact⟨.inl rfl,(c,out),fun i=>i,⟨rfl,hnext.symm⟩,fun i hi=>absurd hi (by omega),Zu,⟨⟨_,rfl,.ptr (ρ:=fun i=>i) 0 0 0 (by decide)⟩,⟨_,rfl,.pure _ (Zh b)⟩,⟨_,rfl,.ptr (ρ:=fun i=>i) 2 0 0 (by decide)⟩,⟨_,rfl,.pure _ ⟨⟨Z8 _,trivial⟩,trivial⟩⟩,trivial⟩,⟨⟨by decide,_,rfl,.same _ ⟨Zh c,trivial⟩⟩,⟨by decide,_,rfl,RenB.single ⟨.own (ρ:=fun i=>i) 3 (by decide),trivial⟩ rfl⟩,⟨by decide,_,rfl,.same _ (Zf Zh out)⟩,trivial⟩⟩
     · refine go ?_
       refine Z5 (Z17 c.2 hz1.2 x.val) rfl rfl rfl ⟨Z1 _,trivial,trivial⟩ rfl ?_
       generalize c.2.testBit x.val=v3 at hnext
       cases v3
       · rw [if_pos (by decide)] at hnext
         refine go ?_
         refine Zz (Z1x c.1 hz1.1 x.val hr64) rfl rfl rfl ⟨Z1 _,trivial,trivial⟩ ?_
         refine go ?_
         refine Zt (Zp (k:=3) (m := [cuC (c.1 ||| 2 ^ x.val,c.2)]) (fl:=true) rfl rfl rfl (fun q hq=>by rw [List.mem_singleton] at hq; subst hq; rfl) rfl (by
          show ((out.map cuC).length+1)*48≤_
          rw [List.length_map];omega)) rfl rfl ?_
         refine go ?_
         refine Z5 (Z1x c.2 hz1.2 x.val hr64) rfl rfl rfl ⟨Z1 _,trivial,trivial⟩ rfl ?_
         refine go ?_
         refine⟨.inl rfl,((c.1,c.2 ||| 2 ^ x.val),out ++ [(c.1 ||| 2 ^ x.val,c.2)]),mv 3 13,⟨rfl,hnext.symm⟩,fun i hi=>absurd hi (by omega),ZB rfl,⟨⟨_,rfl,.ptr (ρ:=mv 3 13) 0 0 0 (by decide)⟩,⟨_,rfl,.pure _ (Zh b)⟩,⟨_,rfl,.ptr (ρ:=mv 3 13) 2 0 0 (by decide)⟩,⟨_,rfl,.pure _ ⟨⟨Z8 _,trivial⟩,trivial⟩⟩,trivial⟩,⟨⟨by decide,_,rfl,.same _ ⟨Zh (c.1,c.2 ||| 2 ^ x.val),trivial⟩⟩,⟨by decide,_,rfl,RenB.single ⟨.own (ρ:=mv 3 13) 3 (by decide),trivial⟩ rfl⟩,⟨by decide,_,rfl,?_⟩,trivial⟩⟩
         show RenB _ _ ⟨2,out.map cuC ++ [cuC (c.1 ||| 2 ^ x.val,c.2)]⟩ ⟨2,(out ++ [(c.1 ||| 2 ^ x.val,c.2)]).map cuC⟩
         rw [List.map_append]
         exact .same _ (by rw [← List.map_singleton,← List.map_append]; exact Zf Zh _)
       · rw [if_neg (by simp)] at hnext
         refine go ?_
         exact⟨.inl rfl,(c,out),fun i=>i,⟨rfl,hnext.symm⟩,fun i hi=>absurd hi (by omega),Zu,⟨⟨_,rfl,.ptr (ρ:=fun i=>i) 0 0 0 (by decide)⟩,⟨_,rfl,.pure _ (Zh b)⟩,⟨_,rfl,.ptr (ρ:=fun i=>i) 2 0 0 (by decide)⟩,⟨_,rfl,.pure _ ⟨⟨Z8 _,trivial⟩,trivial⟩⟩,trivial⟩,⟨⟨by decide,_,rfl,.same _ ⟨Zh c,trivial⟩⟩,⟨by decide,_,rfl,RenB.single ⟨.own (ρ:=fun i=>i) 3 (by decide),trivial⟩ rfl⟩,⟨by decide,_,rfl,.same _ (Zf Zh out)⟩,trivial⟩⟩
   · rw [if_pos rfl] at hnext
     refine go ?_
     refine Zz (Z1x c.2 hz1.2 x.val hr64) rfl rfl rfl ⟨Z1 _,trivial,trivial⟩ ?_
     refine go ?_
     refine Zt (Zp (k:=3) (m := [cuC (c.1,c.2 ||| 2 ^ x.val)]) (fl:=true) rfl rfl rfl (fun q hq=>by rw [List.mem_singleton] at hq; subst hq; rfl) rfl (by
      show ((out.map cuC).length+1)*48≤_
      rw [List.length_map];omega)) rfl rfl ?_
     refine go ?_
     refine Z5 (Z1x c.1 hz1.1 x.val hr64) rfl rfl rfl ⟨Z1 _,trivial,trivial⟩ rfl ?_
     refine go ?_
     refine⟨.inl rfl,((c.1 ||| 2 ^ x.val,c.2),out ++ [(c.1,c.2 ||| 2 ^ x.val)]),mv 3 13,⟨rfl,hnext.symm⟩,fun i hi=>absurd hi (by omega),ZB rfl,⟨⟨_,rfl,.ptr (ρ:=mv 3 13) 0 0 0 (by decide)⟩,⟨_,rfl,.pure _ (Zh b)⟩,⟨_,rfl,.ptr (ρ:=mv 3 13) 2 0 0 (by decide)⟩,⟨_,rfl,.pure _ ⟨⟨Z8 _,trivial⟩,trivial⟩⟩,trivial⟩,⟨⟨by decide,_,rfl,.same _ ⟨Zh (c.1 ||| 2 ^ x.val,c.2),trivial⟩⟩,⟨by decide,_,rfl,RenB.single ⟨.own (ρ:=mv 3 13) 3 (by decide),trivial⟩ rfl⟩,⟨by decide,_,rfl,?_⟩,trivial⟩⟩
     show RenB _ _ ⟨2,out.map cuC ++ [cuC (c.1,c.2 ||| 2 ^ x.val)]⟩ ⟨2,(out ++ [(c.1,c.2 ||| 2 ^ x.val)]).map cuC⟩
     rw [List.map_append]
     exact .same _ (by rw [← List.map_singleton,← List.map_append]; exact Zf Zh _)
 · rintro xs z hS ⟨-, rfl⟩
   rw [hS]
   repeat' (first|refine Za (Zo (k:=82) rfl rfl (Zf Zh _)) ?_|(first|refine st ?_|(apply B<;>intro hb<;>try cases hb)))
   exact Z6 rfl (Zf Zh _) rfl
 · rintro ex pre z - ⟨rfl,-⟩ (h|⟨id,h⟩)<;>cases h
theorem Z4V (l:List Pr) (S:List Nat) (k:Nat) (h1:1≤k) (hk:k<64):Spec Tryz.prog 141 [hierP l S,.val (.int .i64 (k:Int))] (· = setN (sen l k)):=by
 have h2:=Z9D l S (k:Int)
 rw [if_pos ⟨by omega,by omega⟩] at h2
 have h3:=Z33 (abv l k) (Nat.le_trans (Z2w (Z5E l k)) (by decide)) (k:Int)
 rw [withN,if_pos ⟨by omega,by omega⟩] at h3
 refine Z2 ok141 (Nat.le_of_ble_eq_true rfl) fun C hC=>?_
 refine go ?_
 refine Z5 (Z61 k h1 hk) rfl rfl rfl ⟨trivial,trivial⟩ rfl ?_
 refine go ?_
 refine Z5 h2 rfl rfl rfl ⟨ZZ l S,trivial,trivial⟩ rfl ?_
 refine go ?_
 refine Z5 h3 rfl rfl rfl ⟨Z1 _,trivial,trivial⟩ rfl ?_
 refine go ?_
 exact Z6 rfl (Z1 _) rfl
theorem Z2O:∀ l:List Cu,lowLL (l.map cuC)=l.map cuC
 | []=>rfl
 | c :: l => by
   show lowL (cuC c) :: lowLL (l.map cuC)=_
   rw [Zdy,Z2O l]; rfl
def splT (l:List Cu) (c:Cu) (i:Nat):List Cu:=(l.take i).foldl splS (if emC c then [] else [c])
theorem Zdz (l:List Cu) (c:Cu) {i:Nat} (hi:i<l.length):splT l c (i+1)=splS (splT l c i) l[i]:=by
 unfold splT
 rw [List.take_add_one,List.getElem?_eq_getElem hi,List.foldl_append]; rfl
theorem ZdA {m:Nat} (hm:m<64) {l:List Cu} {c:Cu} (hl:∀ b∈l,InM m b) (hc:InM m c) (i:Nat):Dis (splT l c i)∧∀ c'∈splT l c i,InM m c':=by
 refine Zds (N:=64) hm (by omega) _ (fun b hb=>hl b (List.mem_of_mem_take hb)) _ ?_ ?_
 · split
   · exact⟨(fun c hc=>by cases hc),List.Pairwise.nil⟩
   · rename_i h
     exact⟨fun c hc=>by rw [List.mem_singleton] at hc; subst hc; simpa using h,List.pairwise_singleton ..⟩
 · intro c' hc'
   split at hc'
   · cases hc'
   · rw [List.mem_singleton] at hc'; subst hc'; exact hc
def splI (out:List Cu) (b:Cu) (j:Nat):List Cu:=splS (out.take j) b
theorem ZdB (out:List Cu) (b:Cu) {j:Nat} (hj:j<out.length):splI out b (j+1)=splI out b j++minC out[j] b:=by
 unfold splI splS
 rw [List.take_add_one,List.getElem?_eq_getElem hj,List.flatMap_append]
 simp
theorem Zf7 {out:List Cu} {b:Cu} {m:Nat} (hm:m<64) (h:Dis out∧∀ c∈out,InM m c) (hb:InM m b) (j:Nat):(splI out b j).length≤64:=by
 have h1:Dis (out.take j):=⟨fun c hc=>h.1.1 c (List.mem_of_mem_take hc),h.1.2.sublist (List.take_sublist _ _)⟩
 exact Z9L (ZaX h1 (hb.lt (by omega))) (m:=m) (Z9K (fun c hc=>h.2 c (List.mem_of_mem_take hc)) hb) hm
set_option maxHeartbeats 4000000 in
theorem ZbX (l:List Cu) (fl:Bool) (c:Cu) (m:Nat) (hm:m<64) (hl:∀ b∈l,InM m b) (hc:InM m c) (hlen:l.length≤100000):Spec Tryz.prog 104 [cuP c,.vec (l.map cuC) fl] (· = .tup [.vec ((splL l c).map cuC) false,.val (.int .i64 0)]):=by
 have hnl:(l.map cuC).length=l.length:=by simp
 have hlp:∀ (l:List Cu) D,innLL D (l.map cuC):=fun i D=>Zi (fun _ h=>h.elim) _ (Z0 _)
 have hc64:=hc.lt (by omega)
 refine Z2 ok104 (Nat.le_of_ble_eq_true rfl) fun C hC=>?_
 refine Zk ?_
 refine Z9 ?_
 refine Z4 rfl rfl rfl ?_
 iterate 7 (first|refine st ?_|(apply B<;>intro hb<;>try cases hb))
 refine ZcS hC (X:=Bool) (fun _=>True) 0 (fun z => [(1,.vec (l.map cuC) fl),(6,.vec ((splT l c 0).map cuC) z)]) (fun _=>[]) (Nat.zero_le _) ?_ fun z _=>?_
 · refine go ?_
   refine Z5 (Z12 c hc64) rfl rfl rfl ⟨Zm c,trivial⟩ rfl ?_
   unfold splT
   rw [List.take_zero,List.foldl_nil]
   cases he:emC c
   · refine gd 18 ⟨?_⟩
     refine Z4 (ZcH (l := []) (m := [cuC c]) rfl rfl (fun c hc=>by cases hc) (fun q hq=>by rw [List.mem_singleton] at hq; subst hq; rfl) (by show (0+1)*48≤_; decide)) rfl rfl ?_
     refine go ?_
     exact⟨_,trivial,⟨⟨rfl,hlp _ _⟩,⟨rfl,hlp [c] _⟩,trivial⟩,trivial⟩
   · refine go ?_
     exact⟨_,trivial,⟨⟨rfl,hlp _ _⟩,⟨rfl,trivial⟩,trivial⟩,trivial⟩
 · have hloop := ZdA hm hl hc
   refine go ?_
   refine ZH hC (fun (x:Nat×Bool)=>x.1≤l.length) (fun x=>l.length-x.1) 0 (fun x => [(6,.vec ((splT l c x.1).map cuC) x.2),(19,.vec (l.map cuC) fl),(20,.val (.int .i64 (l.length:Int))),(21,.val (.int .i64 (x.1:Int)))]) (fun _=>[]) (Nat.le_refl _) (0,z) (Nat.zero_le _)
    ⟨⟨rfl,hlp _ _⟩,⟨rfl,hlp _ _⟩,⟨by rw [← hnl]; rfl,trivial⟩,⟨rfl,trivial⟩,trivial⟩ trivial ?_
   rintro⟨i,z⟩ hi
   dsimp only at hi ⊢
   have hinc:IntKind.i64.wrap ((i:Int)+1)=((i+1:Nat):Int):=IntWalk.i64_in _ ⟨by omega,by omega⟩
   iterate 2 (first|refine st ?_|(apply B<;>intro hb<;>try cases hb))
   refine Zj rfl rfl rfl (fun hb=>?_) (fun hb=>?_)
   · have hil : i < l.length := by have := of_decide_eq_true hb; omega
     clear hb
     have hsucc:=Zdz l c hil
     obtain⟨hD,hI⟩:=hloop i
     generalize splT l c i=out at hsucc hD hI ⊢
     have hb:=hl l[i] (List.getElem_mem hil)
     have hb64:=hb.lt (by omega)
     have hol:out.length≤64:=Z9L hD hI hm
     have hsub:=Zf7 (out:=out) hm ⟨hD,hI⟩ hb
     have hnl2:(out.map cuC).length=out.length:=by simp
     refine go ?_
     refine Z3 (Zn (xs:=l) rfl rfl i rfl hil rfl) rfl rfl ?_
     repeat' (first|refine Za (Zy (k:=9) rfl 2 (by decide)) ?_|(first|refine st ?_|(apply B<;>intro hb<;>try cases hb)))
     refine ZN hC (fun (j:Nat)=>j≤out.length) (fun j=>out.length-j) 2 (fun j => [(8,.ptr 0 0 0),(9,.own 1),(19,.vec (l.map cuC) fl),(20,.val (.int .i64 (l.length:Int))),(21,.val (.int .i64 (i:Int))),(25,.vec (out.map cuC) z),(26,.val (.int .i64 (out.length:Int))),(27,.val (.int .i64 (j:Int)))])
      (fun j => [(0,⟨2,[cuC l[i]]⟩),(1,⟨2,(splI out l[i] j).map cuC⟩)]) (by decide) 0 (Nat.zero_le _) (fun i=>i) (fun _ _=>rfl) Zu
      ⟨⟨_,rfl,.ptr 0 0 0 (by decide)⟩,⟨_,rfl,.own 1 (by decide)⟩,⟨_,rfl,.pure _ (Z0 _)⟩,⟨_,rfl,.pure _ trivial⟩,⟨_,rfl,.pure _ trivial⟩,⟨_,rfl,.pure _ (Z0 _)⟩,⟨_,by rw [← hnl2]; rfl,.pure _ trivial⟩,⟨_,rfl,.pure _ trivial⟩,trivial⟩ ⟨⟨by decide,_,rfl,.same _ ⟨Zh _,trivial⟩⟩,⟨by decide,_,rfl,.same _ trivial⟩,trivial⟩ ?_
     intro j hj
     have hinc2:IntKind.i64.wrap ((j:Int)+1)=((j+1:Nat):Int):=IntWalk.i64_in _ ⟨by omega,by omega⟩
     iterate 2 (first|refine st ?_|(apply B<;>intro hb<;>try cases hb))
     refine Zj rfl rfl rfl (fun hb=>?_) (fun hb=>?_)
     · have hjl : j < out.length := by have := of_decide_eq_true hb; omega
       clear hb
       have hs2:=ZdB out l[i] hjl
       have hx:=(hI _ (List.getElem_mem hjl)).lt (by omega)
       have hml:=ZaS out[j] l[i] hx
       have hsl:=hsub j
       refine go ?_
       refine Z3 (Zn (xs:=out) rfl rfl j rfl hjl rfl) rfl rfl ?_
       refine go ?_
       refine Z5 (Z6U out[j] l[i] hx hb64) rfl rfl rfl ⟨Zm _,Zm _,trivial⟩ rfl ?_
       refine ZA (Zp (k:=1) (m:=(minC out[j] l[i]).map cuC) (fl:=false) rfl rfl rfl (fun q hq=>by obtain⟨x,_,rfl⟩:=List.mem_map.1 hq; rfl) rfl (by
        show (((splI out l[i] j).map cuC).length+((minC out[j] l[i]).map cuC).length)*48≤_
        rw [List.length_map,List.length_map];omega)) rfl rfl ?_
       refine go ?_
       refine⟨j+1,mv 1 3,hjl,by omega,fun i hi=>absurd hi (Nat.not_lt_zero i),ZB rfl,
        ⟨⟨_,rfl,.ptr (ρ:=mv 1 3) 0 0 0 (by decide)⟩,⟨_,rfl,.own (ρ:=mv 1 3) 1 (by decide)⟩,⟨_,rfl,.pure _ (Z0 _)⟩,⟨_,rfl,.pure _ trivial⟩,⟨_,rfl,.pure _ trivial⟩,⟨_,rfl,.pure _ (Z0 _)⟩,⟨_,rfl,.pure _ trivial⟩,⟨_,by show some _=some _; rw [hinc2],.pure _ trivial⟩,trivial⟩,
        ⟨⟨by decide,_,rfl,.same _ ⟨Zh _,trivial⟩⟩,⟨by decide,_,rfl,?_⟩,trivial⟩⟩
       show RenB _ _ ⟨2,(splI out l[i] j).map cuC++(minC out[j] l[i]).map cuC⟩ ⟨2,(splI out l[i] (j+1)).map cuC⟩
       rw [← List.map_append,← hs2]
       exact .same _ (Z0 _)
     · have hjl : j = out.length := by have := of_decide_eq_false hb; omega
       subst hjl
       clear hb
       have hend:splI out l[i] out.length=splT l c (i+1):=by rw [hsucc]; unfold splI; rw [List.take_length]
       have hle:=hsub out.length
       rw [hend] at hle ⊢
       repeat' (first|refine Za (Zo (k:=9) rfl rfl (Z0 _)) ?_|refine Zfq 39 ?_|(first|refine st ?_|(apply B<;>intro hb<;>try cases hb)))
       refine At.mk ?_
       refine Z3 (Zb (v:=false) rfl (by simp;omega)) rfl rfl ?_
       refine go ?_
       exact⟨(i+1,false),by show i+1≤_; omega,by show _-(i+1)<_-i; omega,⟨⟨rfl,hlp _ _⟩,⟨rfl,hlp _ _⟩,⟨rfl,trivial⟩,⟨by show some _=some _; rw [hinc],trivial⟩,trivial⟩,trivial⟩
   · have hil : i = l.length := by have := of_decide_eq_false hb; omega
     subst hil
     clear hb
     refine go ?_
     have he:splT l c l.length=splL l c:=by unfold splT splL; rw [List.take_length]
     rw [he]
     refine Z1b rfl ⟨?_,trivial,trivial⟩ ?_
     · show pureLL (lowLL ((splL l c).map cuC))
       rw [Z2O]; exact Z0 _
     · show PV.tup [.vec (lowLL ((splL l c).map cuC)) false, _] = _
       rw [Z2O]; rfl
set_option maxHeartbeats 2000000 in
theorem Z4J (k:Nat) (h1:1≤k) (h2:k≤64):Spec Tryz.prog 66 [.val (.int .i64 (k:Int))] (· = setN (2 ^ k-1)):=by
 refine Z2 ok66 (Nat.le_of_ble_eq_true rfl) fun C hC=>?_
 have hq:IntKind.i64.wrap (((k+63:Nat):Int).tdiv 64)=((1:Nat):Int):=by
  rw [IntWalk.i64_quo _ _ ⟨by omega,by omega,by omega⟩]; omega
 refine gd 6 ⟨?_⟩
 refine Zv rfl rfl rfl (v:=(k:Int)) (by split<;>omega) ?_
 refine Zv rfl rfl rfl (v:=(k:Int)) (by split<;>omega) ?_
 refine gd 9 ⟨?_⟩
 refine Zv rfl rfl rfl (show IntKind.i64.wrap ((k:Int)+63)=((k+63:Nat):Int) from IntWalk.i64_in _ ⟨by omega,by omega⟩) ?_
 refine gd 10 ⟨?_⟩
 refine Zv rfl rfl rfl hq ?_
 refine go ?_
 refine Z1z 1 ?_
 refine gd 22 ⟨?_⟩
 by_cases hk:k=64
 · subst hk
   repeat' (first|refine Za (Zo (k:=33) rfl rfl (ZS rfl)) ?_|(first|refine st ?_|(apply B<;>intro hb<;>try cases hb)))
   exact Z6 rfl (Z2a rfl) (by rw [Z2L (by decide) (by decide)]; rfl)
 · have hr : (k : Int).tmod 64 = ((k : Nat) : Int) := by rw [Int.tmod_eq_emod_of_nonneg (by omega)]; omega
   refine Zv rfl rfl rfl hr ?_
   refine Z3 (Zb (v:=true) rfl (by simp;omega)) rfl rfl ?_
   refine gd 29 ⟨?_⟩
   refine Zv rfl rfl rfl hr ?_
   refine Z3 (ZcG rfl rfl (by omega) (v:=((2 ^ k:Nat):Int)) (by
    rw [show min ((k:Int)).toNat IntKind.u64.bits=k by simp [IntKind.bits]; omega]
    have hp:=ZM (show k<64 by omega)
    rw [Int.one_mul,show (2:Int) ^ k=((2 ^ k:Nat):Int) by simp]
    exact IntWalk.u64_in _ ⟨Int.natCast_nonneg _,Int.ofNat_le.2 (show _≤18446744073709551615 by omega)⟩)) rfl rfl ?_
   refine Zv rfl rfl rfl (v:=((2 ^ k-1:Nat):Int)) (by
    have hp:=ZM (show k<64 by omega)
    have:=Nat.two_pow_pos k
    rw [show ((2 ^ k:Nat):Int)-1=((2 ^ k-1:Nat):Int) by omega]
    exact IntWalk.u64_in _ ⟨Int.natCast_nonneg _,Int.ofNat_le.2 (show _≤18446744073709551615 by omega)⟩) ?_
   have hp:=ZM (show k<64 by omega)
   have hp2:2≤2 ^ k:=Nat.pow_le_pow_right (n:=2) (by decide) h1
   repeat' (first|refine Za (Zo (k:=33) rfl rfl (ZS rfl)) ?_|(first|refine st ?_|(apply B<;>intro hb<;>try cases hb)))
   exact Z6 rfl (Z2a rfl) (by rw [Z2L (by omega) (by omega)]; rfl)
theorem Z7J {N M:Nat} (hN:N<18446744073709551616):N &&& M<18446744073709551616:=Nat.lt_of_le_of_lt Nat.and_le_left hN
theorem Zf8 (a b:Nat) (ha:a<18446744073709551616) (hb:b<18446744073709551616):bits .and .u64 (a:Int) (b:Int)=((a &&& b:Nat):Int):=by
 have h1:(BitVec.ofInt 64 (a:Int)).toNat=a:=by rw [BitVec.ofInt_natCast,BitVec.toNat_ofNat]; exact Nat.mod_eq_of_lt (by omega)
 have h2:(BitVec.ofInt 64 (b:Int)).toNat=b:=by rw [BitVec.ofInt_natCast,BitVec.toNat_ofNat]; exact Nat.mod_eq_of_lt (by omega)
 show IntKind.u64.wrap ((BitVec.ofInt 64 (a:Int) &&& BitVec.ofInt 64 (b:Int)).toNat:Int)=_
 rw [BitVec.toNat_and,h1,h2]
 have:a &&& b≤a:=Nat.and_le_left
 exact IntWalk.u64_in _ ⟨by omega,by omega⟩
set_option maxHeartbeats 2000000 in
theorem Z8C (N M:Nat) (hN:N<18446744073709551616) (hM:M<18446744073709551616):Spec Tryz.prog 142 [setN N,setN M] (· = setN (N &&& M)):=by
 have hlt:=Z7J (M:=M) hN
 rcases Z13 hN with⟨rfl,e1⟩|⟨h1,e1⟩<;>rcases Z13 hM with⟨rfl,e2⟩|⟨h2,e2⟩<;>rw [e1]<;>(try rw [e2])<;>clear e1 e2
 all_goals
  refine Z2 ok142 (Nat.le_of_ble_eq_true rfl) fun C hC=>?_
  refine Zk ?_
  refine Z9 ?_
  refine Z4 rfl rfl rfl ?_
  refine Z4 rfl rfl rfl ?_
  refine go ?_
  refine Z1z 1 ?_
 case inr.inr =>
  refine gd 32 ⟨?_⟩
  refine Zt (Z40 rfl (Zf8 N M hN hM)) rfl rfl ?_
  repeat' (first|refine Za (Zo (k:=35) rfl rfl (ZS rfl)) ?_|(first|refine st ?_|(apply B<;>intro hb<;>try cases hb)))
  refine ZF rfl rfl (Z45 [N &&& M]) (Z11 rfl) rfl fun r hr=>?_
  have hw:Words [N &&& M]:=fun x hx=>by rw [List.mem_singleton.1 hx]; exact hlt
  have e1:=hr.set hw
  have e2:ofW [N &&& M]=N &&& M:=by simp [ofW]
  rw [e2] at e1
  subst e1
  refine go ?_
  exact Z6 rfl (Z1 _) rfl
 all_goals
  repeat' (first|refine Za (Zo (k:=35) rfl rfl (ZS rfl)) ?_|(first|refine st ?_|(apply B<;>intro hb<;>try cases hb)))
  refine ZF rfl rfl (Z45 []) (Z11 rfl) rfl fun r hr=>?_
  have e1:=hr.set (fun x hx=>by cases hx)
  subst e1
  refine go ?_
  exact Z6 rfl (Z1 _) (show setN (ofW [])=_ by simp [ofW])
theorem ZgZ {l:List Pr} {m:Nat} (hl:∀ p∈l,p.1≤m∧p.2≤m) {a b:Nat} (h:Up l a b):a≤m∧b≤m:=by
 induction h with
 | one h=>exact hl _ h
 | more _ k ih=>exact⟨ih.1,(hl _ k).2⟩
theorem bit62 {i:Nat} (h1:1≤i) (h2:i≤5):(62:Nat).testBit i=true:=by
 have:i=1 ∨ i=2 ∨ i=3 ∨ i=4 ∨ i=5:=by omega
 rcases this with rfl|rfl|rfl|rfl|rfl<;>rfl
theorem Zb0 {i:Nat} (h:(62:Nat).testBit i=true):1≤i∧i≤5:=by
 have:=Z4R (N:=62) (by decide) h
 have hi:i<6:=Nat.lt_of_not_le fun h6=>by
  rw [Nat.testBit_lt_two_pow (show 62<2 ^ i from Nat.lt_of_lt_of_le (by decide) (Nat.pow_le_pow_right (by decide) h6))] at h; cases h
 refine⟨Nat.one_le_iff_ne_zero.2 fun h0=>?_,by omega⟩
 subst h0; cases h
theorem ZfA {t:PB} (h:PbOk t) {r:Nat} (hr:r≤5):(sen t.l r &&& mkN t.n) ||| 62=62:=orSub.2 fun i hi=>by
 rw [Nat.testBit_and,Bool.and_eq_true,Z1I,Bool.and_eq_true,decide_eq_true_eq,decide_eq_true_eq] at hi
 refine bit62 hi.2.1 ?_
 rcases (Z3O h.good.small r i).1 hi.1 with h1|h1
 · exact (ZgZ (m:=5) (fun p hp=>(h.lk p hp).2.2) h1).1
 · omega
def One62 (N:Nat) (l:List Cu):Prop:=∀ c∈l,c.1 ||| 62=62∧c.2=N
theorem Z9N {N:Nat} {l:List Cu} (h:One62 N l) (hn:l.Nodup):l.length≤64:=by
 have hnd:(l.map (·.1)).Nodup:=by
  rw [List.nodup_iff_pairwise_ne,List.pairwise_map]
  refine List.Pairwise.imp_of_mem (fun {a b} ha hb hab e=>hab ?_) (List.nodup_iff_pairwise_ne.1 hn)
  exact Prod.ext e ((h a ha).2.trans (h b hb).2.symm)
 have:=Z2g 64 _ hnd fun x hx=>by
  obtain⟨c,hc,rfl⟩:=List.mem_map.1 hx
  have:c.1≤62:=by have:=(h c hc).1; rw [← this]; exact Nat.left_le_or
  omega
 rwa [List.length_map] at this
theorem Z9O {t:PB} (h:PbOk t) {r:Nat} (hr:r≤5) {N:Nat} {x:List Cu} (hx:One62 N x):One62 N (exX t.l t.n r x):=fun c hc=>by
 obtain⟨y,hy,hc⟩:=List.mem_flatMap.1 hc
 obtain⟨a,ha,rfl⟩:=List.mem_map.1 hc
 refine⟨orSub.2 fun i hi=>?_,(hx y hy).2⟩
 rw [Nat.testBit_or,Bool.or_eq_true,Nat.testBit_two_pow,decide_eq_true_eq] at hi
 rcases hi with hi|rfl
 · exact orSub.1 (hx y hy).1 i hi
 · exact orSub.1 (ZfA h hr) _ ((Z1c (Z39 h.n.2)).1 ha)
theorem Zb1 {N:Nat} {l:List Cu} (h:One62 N l):One62 N (simL l):=fun c hc=>h c (Z1H hc).1
theorem Zb2 {N:Nat} (hN:N<18446744073709551616) {l:List Cu} (h:One62 N l):∀ c∈l,Ok64 c:=fun c hc=>by
 have:c.1≤62:=by have:=(h c hc).1; rw [← this]; exact Nat.left_le_or
 exact⟨by omega,by rw [(h c hc).2]; exact hN⟩
theorem ZdC (l:List Pr) {n:Nat} (hn:n≤63) (rs:List Nat):exN l n rs<18446744073709551616:=by
 have:∀ (rs:List Nat) (o:Nat),o<18446744073709551616→rs.foldl (fun o r=>o ||| (sen l r &&& mkN n)) o<18446744073709551616:=by
  intro rs
  induction rs with
  | nil=>exact fun o h=>h
  | cons r rs ih=>exact fun o h=>ih _ (Z1W h (Z39 hn))
 exact this _ 0 (by decide)
theorem ZgF {t:PB} (h:PbOk t) {rs:List Nat} (hr:∀ r∈rs,r≤5):exN t.l t.n rs ||| 62=62:=orSub.2 fun i hi=>by
 rcases (Z60 t.l t.n i rs 0).1 hi with h1|⟨r,hr',h1,h2⟩
 · simp at h1
 · exact orSub.1 (ZfA h (hr r hr')) i (by rw [Nat.testBit_and,h1,h2]; rfl)
theorem Z9P {t:PB} (h:PbOk t) {N:Nat} (hN:N<18446744073709551616):∀ (rs:List Nat),(∀ r∈rs,r≤5)→∀ x,One62 N x→x.Nodup→One62 N (exF t.l t.n rs x)∧(exF t.l t.n rs x).Nodup
 | [],_,x,h1,h2=>⟨h1,h2⟩
 | r :: rs,hr,x,h1,h2=>Z9P h hN rs (fun a ha=>hr a (List.mem_cons_of_mem _ ha)) _ (Zb1 (Z9O h (hr r (List.mem_cons_self ..)) h1)) (Z3u (Zb2 hN (Z9O h (hr r (List.mem_cons_self ..)) h1)))
theorem InM.le5 {c:Cu} (h:InM 62 c):(∀ r∈mem c.1,1≤r∧r≤5)∧∀ r∈mem c.2,1≤r∧r≤5:=by
 have h64:=h.lt (by decide)
 exact⟨fun r hr=>Zb0 (orSub.1 h.1 r ((Z1c h64.1).1 hr)),fun r hr=>Zb0 (orSub.1 h.2 r ((Z1c h64.2).1 hr))⟩
theorem Z6V {t:PB} (h:PbOk t) {c:Cu} (hm:InM 62 c):One62 (exN t.l t.n (mem c.2)) (exL t.l t.n c)∧(exL t.l t.n c).Nodup∧(exL t.l t.n c).length≤64∧∀ c'∈exL t.l t.n c,InM 62 c':=by
 have h1:=Z9P h (ZdC t.l h.n.2 (mem c.2)) (mem c.1) (fun r hr=>(hm.le5.1 r hr).2) [(0,exN t.l t.n (mem c.2))] (fun c hc=>by rw [List.mem_singleton] at hc; subst hc; exact⟨(by decide:(0:Nat) ||| 62=62),rfl⟩) (by simp)
 refine⟨h1.1,h1.2,Z9N h1.1 h1.2,fun c' hc'=>⟨(h1.1 c' hc').1,?_⟩⟩
 rw [(h1.1 c' hc').2]
 exact ZgF h fun r hr=>(hm.le5.2 r hr).2
theorem Z9Q (l:List Pr) (n r:Nat):∀ x:List Cu,(exX l n r x).length≤64*x.length
 | []=>by simp [exX]
 | y :: x => by
   have ih:=Z9Q l n r x
   have:exX l n r (y :: x)=(mem (sen l r &&& mkN n)).map (fun a=>(y.1 ||| 2 ^ a,y.2))++exX l n r x:=by simp [exX]
   rw [this,List.length_append,List.length_map,List.length_cons]
   have:=Z24 (sen l r &&& mkN n)
   omega
theorem Z4k (n:Nat) (hn:n≤63):withoutN (2 ^ (n+1)-1) 0=mkN n:=by
 refine Nat.eq_of_testBit_eq fun i=>?_
 have hp:2 ^ (n+1)≤2 ^ 64:=Nat.pow_le_pow_right (by decide) (by omega)
 have:=Z2U (N:=2 ^ (n+1)-1) (by have:=Nat.two_pow_pos (n+1);omega) 0 i
 rw [show ((0:Nat):Int)=0 from rfl] at this
 rw [this,Nat.testBit_two_pow_sub_one,Z1I,Bool.eq_iff_iff]
 simp
 omega
set_option maxHeartbeats 8000000 in
theorem Z4l {t:PB} (h:PbOk t) (S:List Nat) (c:Cu) (hc:InC t.n c) (hm:InM 62 c):Spec Tryz.prog 101 [.agg (pbP t S),cuP c] (· = .tup [.vec ((exL t.l t.n c).map cuC) false,.val (.int .i64 0)]):=by
 have hc64:=hm.lt (by decide)
 have hn:=h.n
 have hp1:2 ^ (t.n+1)≤2 ^ 64:=Nat.pow_le_pow_right (by decide) (by omega)
 have hp0:=Nat.two_pow_pos (t.n+1)
 have hmk:=Z3D hn.2
 have hinc0:IntKind.i64.wrap ((t.n:Int)+1)=((t.n+1:Nat):Int):=IntWalk.i64_in _ ⟨by omega,by omega⟩
 have hbw:=Z1D (2 ^ (t.n+1)-1) (by omega) 0
 rw [Z4k t.n hn.2] at hbw
 have hwi:=Z1r (c.1 ||| c.2) (mkN t.n) (Z1W hc64.1 hc64.2) hmk
 rw [decide_eq_true (show c.1 ||| c.2 ||| mkN t.n=mkN t.n by rw [Nat.or_assoc,hc.n,hc.y])] at hwi
 refine Z2 ok101 (Nat.le_of_ble_eq_true rfl) fun C hC=>?_
 refine Zk ?_
 refine Z9 ?_
 refine Z4 rfl rfl rfl ?_
 refine Z4 rfl rfl rfl ?_
 refine gd 20 ⟨?_⟩
 refine Zv rfl rfl rfl hinc0 ?_
 refine Z5 (Z4J (t.n+1) (by omega) (by omega)) rfl rfl rfl ⟨trivial,trivial⟩ rfl ?_
 refine Z5 hbw rfl rfl rfl ⟨Z1 _,trivial,trivial⟩ rfl ?_
 refine gd 27 ⟨?_⟩
 refine Zz (Z1Q c.1 c.2 hc64.1 hc64.2) rfl rfl rfl ⟨Z1 _,Z1 _,trivial⟩ ?_
 refine gd 29 ⟨?_⟩
 refine Zz hwi rfl rfl rfl ⟨Z1 _,Z1 _,trivial⟩ ?_
 refine gd 33 ⟨?_⟩
 refine Z5 (Z1O c.2) rfl rfl rfl ⟨Z1 _,trivial⟩ rfl ?_
 refine go ?_
 have hpp:=Z1e t S
 have hI0:=hm.le5
 refine Z2J (X:=List Nat) hC (caps := [.cp [.vec (words (digs c.2)) false]]) [(2,.cp (pbP t S)),(3,.cp (cuC c)),(4,.ptr 0 0 0),(5,.ptr 1 0 0),(6,.ptr 2 0 0),(7,.ptr 11 0 0),(33,.fn 130 [.cp [.vec (words (digs c.2)) false]])]
  (fun z => [(0,⟨1,[[.vec [] true]]⟩),(1,⟨1,[[.val (.int .i64 0)]]⟩),(2,⟨1,[[.vec (words (digs (mkN t.n))) false]]⟩),(11,⟨1,[[.vec (words (digs (exN t.l t.n z))) false]]⟩)]) rfl ⟨⟨Z8 _,trivial⟩,trivial⟩ (Z2M c.2 hc64.2) (fun _=>rfl)
  (fun ex pre z=>ex=.normal∧z=pre.map (·.val)) 12 (by decide) [] ⟨rfl,rfl⟩
  (Z3k (EnvQ.mem (ρ := fun i => i) (m := 12) (L := [(2, .cp (pbP t S)), (3, .cp (cuC c)), (4, .ptr 0 0 0), (5, .ptr 1 0 0), (6, .ptr 2 0 0), (7, .ptr 11 0 0), (33, .fn 130 [.cp [.vec (words (digs c.2)) false]])]) ⟨⟨_, rfl, .pure _ hpp⟩, ⟨_, rfl, .pure _ (Zh c)⟩, ⟨_, rfl, .ptr (ρ := fun i => i) 0 0 0 (by decide)⟩, ⟨_, rfl, .ptr (ρ := fun i => i) 1 0 0 (by decide)⟩, ⟨_, rfl, .ptr (ρ := fun i => i) 2 0 0 (by decide)⟩, ⟨_, rfl, .ptr (ρ := fun i => i) 11 0 0 (by decide)⟩, ⟨_, rfl, .pure _ ⟨⟨Z8 _, trivial⟩, trivial⟩⟩, trivial⟩)
    (HeapQ.mem (ρ:=fun i=>i) (m:=12) (L := [(0,⟨1,[[.vec [] true]]⟩),(1,⟨1,[[.val (.int .i64 0)]]⟩),(2,⟨1,[[.vec (words (digs (mkN t.n))) false]]⟩),(11,⟨1,[[.vec (words (digs (exN t.l t.n []))) false]]⟩)]) ⟨⟨by decide,_,rfl,.same _ ⟨⟨trivial,trivial⟩,trivial⟩⟩,⟨by decide,_,rfl,.same _ ⟨⟨trivial,trivial⟩,trivial⟩⟩,⟨by decide,_,rfl,.same _ ⟨⟨Z8 _,trivial⟩,trivial⟩⟩,⟨by decide,⟨1,[[.vec [] true]]⟩,rfl,by rw [show exN t.l t.n []=0 from rfl,ZC]; exact RenB.single (ρ:=fun i=>i) (l0 := [.vec [] true]) (l := [.vec [] false]) (show RenLs _ _ [_] [_] from ⟨.low (.vec [] true) trivial,trivial⟩) rfl⟩,trivial⟩) hC (by decide))
  (fun z q hq=>by simp at hq; rcases hq with rfl|rfl|rfl|rfl<;>exact Nat.zero_lt_succ _) _ (fun x=>rfl) ?_ ?_ ?_
 · rintro C2 hC2 pre x z ⟨-, rfl⟩ hlen
   have hx:=hI0.2 x.val x.2
   have hst:exN t.l t.n (pre.map (·.val) ++ [x.val])=exN t.l t.n (pre.map (·.val)) ||| (sen t.l x.val &&& mkN t.n):=by unfold exN; rw [List.foldl_append]; rfl
   have hz:=ZdC t.l hn.2 (pre.map (·.val))
   have hsl:=Zfw t.l h.good.small (show x.val<64 by omega)
   refine gd 39 ⟨?_⟩
   refine Zz (Z4V t.l S x.val hx.1 (by omega)) rfl rfl rfl ⟨Zs _ _,trivial,trivial⟩ ?_
   refine gd 41 ⟨?_⟩
   refine Zz (Z8C (sen t.l x.val) (mkN t.n) hsl hmk) rfl rfl rfl ⟨Z1 _,Z1 _,trivial⟩ ?_
   refine Zz (Z1Q _ _ hz (Z7J hsl)) rfl rfl rfl ⟨Z1 _,Z1 _,trivial⟩ ?_
   rw [← hst]
   refine go ?_
   exact⟨.inl rfl,pre.map (·.val) ++ [x.val],fun i=>i,⟨rfl,by rw [List.map_append]; rfl⟩,fun i hi=>rfl,Zu,
    ⟨⟨_,rfl,.pure _ hpp⟩,⟨_,rfl,.pure _ (Zh c)⟩,⟨_,rfl,.ptr (ρ:=fun i=>i) 0 0 0 (by decide)⟩,⟨_,rfl,.ptr (ρ:=fun i=>i) 1 0 0 (by decide)⟩,⟨_,rfl,.ptr (ρ:=fun i=>i) 2 0 0 (by decide)⟩,⟨_,rfl,.ptr (ρ:=fun i=>i) 11 0 0 (by decide)⟩,⟨_,rfl,.pure _ ⟨⟨Z8 _,trivial⟩,trivial⟩⟩,trivial⟩,
    ⟨⟨by decide,_,rfl,.same _ ⟨⟨trivial,trivial⟩,trivial⟩⟩,⟨by decide,_,rfl,.same _ ⟨⟨trivial,trivial⟩,trivial⟩⟩,⟨by decide,_,rfl,.same _ ⟨⟨Z8 _,trivial⟩,trivial⟩⟩,⟨by decide,_,rfl,.same _ ⟨⟨Z8 _,trivial⟩,trivial⟩⟩,trivial⟩⟩
 · rintro xs z hxs ⟨-, rfl⟩
   rw [hxs]
   have hN0:=ZdC t.l hn.2 (mem c.2)
   generalize hN0e:exN t.l t.n (mem c.2)=N0 at hN0
   refine gd 48 ⟨?_⟩
   refine Z5 (Z1O c.1) rfl rfl rfl ⟨Z1 _,trivial⟩ rfl ?_
   refine go ?_
   have hlow:([(0,N0)]:List Cu).map cuC=lowLL [[.vec [] true,.vec (words (digs N0)) false]]:=by
    show [[PV.vec (words (digs 0)) false,.vec (words (digs N0)) false]] = [[PV.vec [] false,.vec (lowLL (words (digs N0))) false]]
    rw [ZC,ZV]; rfl
   have hone:∀ rs:List Nat,(∀ r∈rs,r≤5)→One62 N0 (exF t.l t.n rs [(0,N0)])∧(exF t.l t.n rs [(0,N0)]).Nodup:=fun rs hr=>Z9P h hN0 rs hr _ (fun c hc=>by rw [List.mem_singleton] at hc; subst hc; exact⟨(by decide:(0:Nat) ||| 62=62),rfl⟩) (by simp)
   refine Z2J (X:=List Nat) hC (caps := [.cp [.vec (words (digs c.1)) false]]) [(2,.cp (pbP t S)),(4,.ptr 0 0 0),(5,.ptr 1 0 0),(6,.ptr 2 0 0),(9,.ptr 12 0 0),(48,.fn 130 [.cp [.vec (words (digs c.1)) false]])]
    (fun z => [(0,⟨1,[[.vec [] true]]⟩),(1,⟨1,[[.val (.int .i64 0)]]⟩),(2,⟨1,[[.vec (words (digs (mkN t.n))) false]]⟩),(12,⟨1,[[.vec ((exF t.l t.n z [(0,N0)]).map cuC) false]]⟩)]) rfl ⟨⟨Z8 _,trivial⟩,trivial⟩ (Z2M c.1 hc64.1) (fun _=>rfl)
    (fun ex pre z=>ex=.normal∧z=pre.map (·.val)) 13 (by decide) [] ⟨rfl,rfl⟩
    (Z3k (EnvQ.mem (ρ := fun i => i) (m := 13) (L := [(2, .cp (pbP t S)), (4, .ptr 0 0 0), (5, .ptr 1 0 0), (6, .ptr 2 0 0), (9, .ptr 12 0 0), (48, .fn 130 [.cp [.vec (words (digs c.1)) false]])]) ⟨⟨_, rfl, .pure _ hpp⟩, ⟨_, rfl, .ptr (ρ := fun i => i) 0 0 0 (by decide)⟩, ⟨_, rfl, .ptr (ρ := fun i => i) 1 0 0 (by decide)⟩, ⟨_, rfl, .ptr (ρ := fun i => i) 2 0 0 (by decide)⟩, ⟨_, rfl, .ptr (ρ := fun i => i) 12 0 0 (by decide)⟩, ⟨_, rfl, .pure _ ⟨⟨Z8 _, trivial⟩, trivial⟩⟩, trivial⟩)
      (HeapQ.mem (ρ:=fun i=>i) (m:=13) (L := [(0,⟨1,[[.vec [] true]]⟩),(1,⟨1,[[.val (.int .i64 0)]]⟩),(2,⟨1,[[.vec (words (digs (mkN t.n))) false]]⟩),(12,⟨1,[[.vec (([(0,N0)]:List Cu).map cuC) false]]⟩)]) ⟨⟨by decide,_,rfl,.same _ ⟨⟨trivial,trivial⟩,trivial⟩⟩,⟨by decide,_,rfl,.same _ ⟨⟨trivial,trivial⟩,trivial⟩⟩,⟨by decide,_,rfl,.same _ ⟨⟨Z8 _,trivial⟩,trivial⟩⟩,⟨by decide,_,rfl,by rw [hlow]; exact RenB.single (ρ:=fun i=>i) (l := [.vec (lowLL [[.vec [] true,.vec (words (digs N0)) false]]) false]) (show RenLs _ _ [_] [_] from ⟨.low (.vec [[.vec [] true,.vec (words (digs N0)) false]] true) (by show pureLL (lowLL _); rw [← hlow]; exact Z0 [(0,N0)]),trivial⟩) rfl⟩,trivial⟩) hC (by decide))
    (fun z q hq=>by simp at hq; rcases hq with rfl|rfl|rfl|rfl<;>exact Nat.zero_lt_succ _) _ (fun x=>rfl) ?_ ?_ ?_
   · rintro C2 hC2 pre x z ⟨-, rfl⟩ hlen
     have hx:=hI0.1 x.val x.2
     obtain⟨ho1,ho2⟩:=hone (pre.map (·.val)) fun r hr=>by obtain⟨y,_,rfl⟩:=List.mem_map.1 hr; exact (hI0.1 _ y.2).2
     have hst:exF t.l t.n (pre.map (·.val) ++ [x.val]) [(0,N0)]=simL (exX t.l t.n x.val (exF t.l t.n (pre.map (·.val)) [(0,N0)])):=by unfold exF; rw [List.foldl_append]; rfl
     generalize exF t.l t.n (pre.map (·.val)) [(0,N0)]=zs at ho1 ho2 hst ⊢
     have hzl:=Z9N ho1 ho2
     have hz64:=Zb2 hN0 ho1
     have hsl:=Zfw t.l h.good.small (show x.val<64 by omega)
     have hM:=Z7J (M:=mkN t.n) hsl
     have hxo:=Z9O h hx.2 ho1
     have hxn:=Z3u (Zb2 hN0 hxo)
     have hxl:=Z9N (Zb1 hxo) hxn
     have hxll:=Z9Q t.l t.n x.val zs
     refine gd 50 ⟨?_⟩
     refine Za (ZK (id:=13) (i0:=0) (j0:=0) rfl (by decide) (by decide) rfl 2 (by decide) (by decide)) ?_
     refine go ?_
     have hnl:(zs.map cuC).length=zs.length:=by simp
     refine ZN hC2 (fun (j:Nat)=>j≤zs.length) (fun j=>zs.length-j) 15
      (fun j => [(2,.cp (pbP t S)),(6,.ptr 2 0 0),(9,.ptr 12 0 0),(10,.val (.int .i64 (x.val:Int))),(11,.ptr 13 0 0),(50,.vec (zs.map cuC) false),(51,.val (.int .i64 (zs.length:Int))),(52,.val (.int .i64 (j:Int)))])
      (fun j => [(0,⟨1,[[.vec [] true]]⟩),(1,⟨1,[[.val (.int .i64 0)]]⟩),(2,⟨1,[[.vec (words (digs (mkN t.n))) false]]⟩),(12,⟨1,[[.vec (zs.map cuC) false]]⟩),(13,⟨1,[[.own 14]]⟩),(14,⟨2,(exX t.l t.n x.val (zs.take j)).map cuC⟩)]) (by decide) 0 (Nat.zero_le _) (fun i=>i) (fun _ _=>rfl) Zu
      ⟨⟨_,rfl,.pure _ hpp⟩,⟨_,rfl,.ptr (ρ:=fun i=>i) 2 0 0 (by decide)⟩,⟨_,rfl,.ptr (ρ:=fun i=>i) 12 0 0 (by decide)⟩,⟨_,rfl,.pure _ trivial⟩,⟨_,rfl,.ptr (ρ:=fun i=>i) 13 0 0 (by decide)⟩,⟨_,rfl,.pure _ (Z0 _)⟩,⟨_,by rw [← hnl]; rfl,.pure _ trivial⟩,⟨_,rfl,.pure _ trivial⟩,trivial⟩
      ⟨⟨by decide,_,rfl,.same _ ⟨⟨trivial,trivial⟩,trivial⟩⟩,⟨by decide,_,rfl,.same _ ⟨⟨trivial,trivial⟩,trivial⟩⟩,⟨by decide,_,rfl,.same _ ⟨⟨Z8 _,trivial⟩,trivial⟩⟩,⟨by decide,_,rfl,.same _ ⟨⟨Z0 _,trivial⟩,trivial⟩⟩,⟨by decide,_,rfl,RenB.single ⟨.own (ρ:=fun i=>i) 14 (by decide),trivial⟩ rfl⟩,⟨by decide,_,rfl,.same _ trivial⟩,trivial⟩ ?_
     intro j hj
     have hinc:IntKind.i64.wrap ((j:Int)+1)=((j+1:Nat):Int):=IntWalk.i64_in _ ⟨by omega,by omega⟩
     iterate 2 (first|refine st ?_|(apply B<;>intro hb<;>try cases hb))
     refine Zj rfl rfl rfl (fun hb=>?_) (fun hb=>?_)
     · have hjl : j < zs.length := by have := of_decide_eq_true hb; omega
       clear hb
       have hy:=hz64 _ (List.getElem_mem hjl)
       have hsj:exX t.l t.n x.val (zs.take (j+1))=exX t.l t.n x.val (zs.take j)++(mem (sen t.l x.val &&& mkN t.n)).map fun a=>(zs[j].1 ||| 2 ^ a,zs[j].2):=by
        unfold exX
        rw [List.take_add_one,List.getElem?_eq_getElem hjl,List.flatMap_append]
        simp
       have hlj:(exX t.l t.n x.val (zs.take j)).length≤4096:=by
        have:=Z9Q t.l t.n x.val (zs.take j)
        rw [List.length_take] at this
        omega
       generalize hy0:zs[j]=y at hy hsj
       generalize exX t.l t.n x.val (zs.take j)=acc at hsj hlj ⊢
       refine go ?_
       refine Z3 (Zn (xs:=zs) (g:=cuC) rfl rfl j rfl hjl rfl) rfl rfl ?_
       rw [hy0]
       refine gd 59 ⟨?_⟩
       refine Zz (Z4V t.l S x.val hx.1 (by omega)) rfl rfl rfl ⟨Zs _ _,trivial,trivial⟩ ?_
       refine gd 61 ⟨?_⟩
       refine Zz (Z8C (sen t.l x.val) (mkN t.n) hsl hmk) rfl rfl rfl ⟨Z1 _,Z1 _,trivial⟩ ?_
       generalize sen t.l x.val &&& mkN t.n=M at hM hsj ⊢
       refine Zz (Z1O M) rfl rfl rfl ⟨Z1 _,trivial⟩ ?_
       refine go ?_
       refine Z2J (X:=List Nat) hC2 (caps := [.cp [.vec (words (digs M)) false]]) [(2,.cp (pbP t S)),(6,.ptr 2 0 0),(9,.ptr 12 0 0),(10,.val (.int .i64 (x.val:Int))),(11,.ptr 13 0 0),(13,.ptr 15 0 0),(50,.vec (zs.map cuC) false),(51,.val (.int .i64 (zs.length:Int))),(52,.val (.int .i64 (j:Int))),(62,.fn 130 [.cp [.vec (words (digs M)) false]])]
        (fun w => [(0,⟨1,[[.vec [] true]]⟩),(1,⟨1,[[.val (.int .i64 0)]]⟩),(2,⟨1,[[.vec (words (digs (mkN t.n))) false]]⟩),(12,⟨1,[[.vec (zs.map cuC) false]]⟩),(13,⟨1,[[.own 14]]⟩),(14,⟨2,(acc++w.map fun a=>(y.1 ||| 2 ^ a,y.2)).map cuC⟩),(15,⟨2,[cuC y]⟩)]) rfl ⟨⟨Z8 _,trivial⟩,trivial⟩ (Z2M M hM) (fun _=>rfl)
        (fun ex pre z=>ex=.normal∧z=pre.map (·.val)) 23 (by decide) [] ⟨rfl,rfl⟩
        (Z3k (EnvQ.mem (ρ := fun i => i) (m := 23) (L := [(2, .cp (pbP t S)), (6, .ptr 2 0 0), (9, .ptr 12 0 0), (10, .val (.int .i64 (x.val : Int))), (11, .ptr 13 0 0), (13, .ptr 15 0 0), (50, .vec (zs.map cuC) false), (51, .val (.int .i64 (zs.length : Int))), (52, .val (.int .i64 (j : Int))), (62, .fn 130 [.cp [.vec (words (digs M)) false]])]) ⟨⟨_, rfl, .pure _ hpp⟩, ⟨_, rfl, .ptr (ρ := fun i => i) 2 0 0 (by decide)⟩, ⟨_, rfl, .ptr (ρ := fun i => i) 12 0 0 (by decide)⟩, ⟨_, rfl, .pure _ trivial⟩, ⟨_, rfl, .ptr (ρ := fun i => i) 13 0 0 (by decide)⟩, ⟨_, rfl, .ptr (ρ := fun i => i) 15 0 0 (by decide)⟩, ⟨_, rfl, .pure _ (Z0 _)⟩, ⟨_, rfl, .pure _ trivial⟩, ⟨_, rfl, .pure _ trivial⟩, ⟨_, rfl, .pure _ ⟨⟨Z8 _, trivial⟩, trivial⟩⟩, trivial⟩)
          (HeapQ.mem (ρ:=fun i=>i) (m:=23) (L := [(0,⟨1,[[.vec [] true]]⟩),(1,⟨1,[[.val (.int .i64 0)]]⟩),(2,⟨1,[[.vec (words (digs (mkN t.n))) false]]⟩),(12,⟨1,[[.vec (zs.map cuC) false]]⟩),(13,⟨1,[[.own 14]]⟩),(14,⟨2,(acc++([]:List Nat).map fun a=>(y.1 ||| 2 ^ a,y.2)).map cuC⟩),(15,⟨2,[cuC y]⟩)]) ⟨⟨by decide,_,rfl,.same _ ⟨⟨trivial,trivial⟩,trivial⟩⟩,⟨by decide,_,rfl,.same _ ⟨⟨trivial,trivial⟩,trivial⟩⟩,⟨by decide,_,rfl,.same _ ⟨⟨Z8 _,trivial⟩,trivial⟩⟩,⟨by decide,_,rfl,.same _ ⟨⟨Z0 _,trivial⟩,trivial⟩⟩,⟨by decide,_,rfl,RenB.single ⟨.own (ρ:=fun i=>i) 14 (by decide),trivial⟩ rfl⟩,⟨by decide,_,rfl,by rw [List.map_nil,List.append_nil]; exact .same _ (Z0 _)⟩,⟨by decide,_,rfl,.same _ ⟨Zh y,trivial⟩⟩,trivial⟩) hC2 (by decide))
        (fun z q hq=>by simp at hq; rcases hq with rfl|rfl|rfl|rfl|rfl|rfl|rfl<;>exact Nat.zero_lt_succ _) _ (fun x=>rfl) ?_ ?_ ?_
       · rintro C3 hC3 pre2 a w ⟨-, rfl⟩ hlen2
         have ha:=Z2x a.2
         have hml:=Z24 M
         have hsn:acc++(pre2.map (·.val) ++ [a.val]).map (fun a=>(y.1 ||| 2 ^ a,y.2))=(acc++(pre2.map (·.val)).map fun a=>(y.1 ||| 2 ^ a,y.2)) ++ [(y.1 ||| 2 ^ a.val,y.2)]:=by simp
         have hal:(acc++(pre2.map (·.val)).map fun a=>(y.1 ||| 2 ^ a,y.2)).length≤5000:=by simp; omega
         generalize (acc++(pre2.map (·.val)).map fun a=>(y.1 ||| 2 ^ a,y.2))=acc2 at hsn hal ⊢
         refine gd 68 ⟨?_⟩
         refine Zz (Z1x y.1 hy.1 a.val ha) rfl rfl rfl ⟨Z1 _,trivial,trivial⟩ ?_
         refine gd 73 ⟨?_⟩
         refine Zt (Zp (k:=14) (m := [cuC (y.1 ||| 2 ^ a.val,y.2)]) (fl:=true) rfl rfl rfl (fun q hq=>by rw [List.mem_singleton] at hq; subst hq; rfl) rfl (by
          show ((acc2.map cuC).length+1)*48≤_
          rw [List.length_map];omega)) rfl rfl ?_
         refine go ?_
         refine⟨.inl rfl,pre2.map (·.val) ++ [a.val],mv 14 32,⟨rfl,by rw [List.map_append]; rfl⟩,Z5A (by decide),ZB rfl,
          ⟨⟨_,rfl,.pure _ hpp⟩,⟨_,rfl,.ptr (ρ:=mv 14 32) 2 0 0 (by decide)⟩,⟨_,rfl,.ptr (ρ:=mv 14 32) 12 0 0 (by decide)⟩,⟨_,rfl,.pure _ trivial⟩,⟨_,rfl,.ptr (ρ:=mv 14 32) 13 0 0 (by decide)⟩,⟨_,rfl,.ptr (ρ:=mv 14 32) 15 0 0 (by decide)⟩,⟨_,rfl,.pure _ (Z0 _)⟩,⟨_,rfl,.pure _ trivial⟩,⟨_,rfl,.pure _ trivial⟩,⟨_,rfl,.pure _ ⟨⟨Z8 _,trivial⟩,trivial⟩⟩,trivial⟩,?_⟩
         show HeapQ _ _ _ [_,_,_,_,_,(14,⟨2,(acc++(pre2.map (·.val) ++ [a.val]).map fun a=>(y.1 ||| 2 ^ a,y.2)).map cuC⟩),_]
         rw [hsn]
         refine⟨⟨by decide,_,rfl,.same _ ⟨⟨trivial,trivial⟩,trivial⟩⟩,⟨by decide,_,rfl,.same _ ⟨⟨trivial,trivial⟩,trivial⟩⟩,⟨by decide,_,rfl,.same _ ⟨⟨Z8 _,trivial⟩,trivial⟩⟩,⟨by decide,_,rfl,.same _ ⟨⟨Z0 _,trivial⟩,trivial⟩⟩,⟨by decide,_,rfl,RenB.single ⟨.own (ρ:=mv 14 32) 14 (by decide),trivial⟩ rfl⟩,⟨by decide,_,rfl,?_⟩,⟨by decide,_,rfl,.same _ ⟨Zh y,trivial⟩⟩,trivial⟩
         show RenB _ _ ⟨2,acc2.map cuC ++ [cuC (y.1 ||| 2 ^ a.val,y.2)]⟩ ⟨2,(acc2 ++ [(y.1 ||| 2 ^ a.val,y.2)]).map cuC⟩
         rw [List.map_append]
         exact .same _ (by rw [← List.map_singleton,← List.map_append]; exact Z0 _)
       · rintro xs w hxs2 ⟨-, rfl⟩
         rw [hxs2]
         refine go ?_
         refine⟨j+1,fun i=>i,hjl,by omega,fun _ _=>rfl,Zu,
          ⟨⟨_,rfl,.pure _ hpp⟩,⟨_,rfl,.ptr (ρ:=fun i=>i) 2 0 0 (by decide)⟩,⟨_,rfl,.ptr (ρ:=fun i=>i) 12 0 0 (by decide)⟩,⟨_,rfl,.pure _ trivial⟩,⟨_,rfl,.ptr (ρ:=fun i=>i) 13 0 0 (by decide)⟩,⟨_,rfl,.pure _ (Z0 _)⟩,⟨_,rfl,.pure _ trivial⟩,⟨_,by show some _=some _; rw [hinc],.pure _ trivial⟩,trivial⟩,?_⟩
         show HeapQ _ _ _ [_,_,_,_,_,(14,⟨2,(exX t.l t.n x.val (zs.take (j+1))).map cuC⟩)]
         rw [hsj]
         exact⟨⟨by decide,_,rfl,.same _ ⟨⟨trivial,trivial⟩,trivial⟩⟩,⟨by decide,_,rfl,.same _ ⟨⟨trivial,trivial⟩,trivial⟩⟩,⟨by decide,_,rfl,.same _ ⟨⟨Z8 _,trivial⟩,trivial⟩⟩,⟨by decide,_,rfl,.same _ ⟨⟨Z0 _,trivial⟩,trivial⟩⟩,⟨by decide,_,rfl,RenB.single ⟨.own (ρ:=fun i=>i) 14 (by decide),trivial⟩ rfl⟩,⟨by decide,_,rfl,.same _ (Z0 _)⟩,trivial⟩
       · rintro ex pre2 w - ⟨rfl,_⟩ (h|⟨id,h⟩)<;>cases h
     · have hjl : j = zs.length := by have := of_decide_eq_false hb; omega
       subst hjl
       clear hb
       rw [List.take_length]
       repeat' (first|refine Za (Zo (k:=75) rfl rfl (Z0 _)) ?_|(first|refine st ?_|(apply B<;>intro hb<;>try cases hb)))
       refine Z5 (Z5X _ false (Zb2 hN0 hxo) (by omega)) rfl rfl rfl ⟨Z0 _,trivial⟩ rfl ?_
       refine gd 79 ⟨?_⟩
       refine Z3 (Zb (v:=false) rfl (by simp;omega)) rfl rfl ?_
       refine go ?_
       refine⟨.inl rfl,pre.map (·.val) ++ [x.val],fun i=>i,⟨rfl,by rw [List.map_append]; rfl⟩,fun i hi=>rfl,Zu,
        ⟨⟨_,rfl,.pure _ hpp⟩,⟨_,rfl,.ptr (ρ:=fun i=>i) 0 0 0 (by decide)⟩,⟨_,rfl,.ptr (ρ:=fun i=>i) 1 0 0 (by decide)⟩,⟨_,rfl,.ptr (ρ:=fun i=>i) 2 0 0 (by decide)⟩,⟨_,rfl,.ptr (ρ:=fun i=>i) 12 0 0 (by decide)⟩,⟨_,rfl,.pure _ ⟨⟨Z8 _,trivial⟩,trivial⟩⟩,trivial⟩,?_⟩
       show HeapQ _ _ _ [_,_,_,(12,⟨1,[[.vec ((exF t.l t.n (pre.map (·.val) ++ [x.val]) [(0,N0)]).map cuC) false]]⟩)]
       rw [hst]
       exact⟨⟨by decide,_,rfl,.same _ ⟨⟨trivial,trivial⟩,trivial⟩⟩,⟨by decide,_,rfl,.same _ ⟨⟨trivial,trivial⟩,trivial⟩⟩,⟨by decide,_,rfl,.same _ ⟨⟨Z8 _,trivial⟩,trivial⟩⟩,⟨by decide,_,rfl,.same _ ⟨⟨Z0 _,trivial⟩,trivial⟩⟩,trivial⟩
   · rintro xs z hxs ⟨-, rfl⟩
     rw [hxs]
     have he:exF t.l t.n (mem c.1) [(0,N0)]=exL t.l t.n c:=by unfold exL; rw [hN0e]
     rw [he]
     refine go ?_
     exact Z6 rfl ⟨Z0 _,trivial,trivial⟩ rfl
   · rintro ex pre z - ⟨rfl,_⟩ (h|⟨id,h⟩)<;>cases h
 · rintro ex pre z - ⟨rfl,_⟩ (h|⟨id,h⟩)<;>cases h
theorem ZfB {e:Env} {h:Heap} {n:Nat} {x y:Operand} {a b:Int} (hx:ev e x=some (.val (.int .i64 a))) (hy:ev e y=some (.val (.int .i64 b))) (hb:b≠0):dEval (.bin .rem .num x y) e h n=some (.val (.int .i64 (a.tmod b)),h):=by
 simp [dEval,hx,hy,pbin,sbin,hb]
theorem Z4m {α:Type} {f:α→List PV} (hf:∀ x,lowL (f x)=f x):∀ l:List α,lowLL (l.map f)=l.map f
 | []=>rfl
 | c :: l => by
   show lowL (f c) :: lowLL (l.map f)=_
   rw [hf,Z4m hf l]; rfl
structure MkOk (t:PB):Prop where
 ok:PbOk t
 n:2≤t.n∧t.n≤5
 rs:t.rs.length≤6
 nv:t.nv.length≤3
 gl:1≤t.gl.length∧t.gl.length≤3
structure LJ (n:Nat) (l:List Pr) (k:Nat):Prop where
 asc:SortedP l
 len:l.length≤k
 mem:∀ p∈l,1≤p.1∧p.1<p.2∧p.2≤n
theorem LJ.nil (n:Nat):LJ n [] 0:=⟨List.Pairwise.nil,Nat.le_refl _,fun _ h=>by cases h⟩
theorem LJ.mono {n:Nat} {l:List Pr} {k k':Nat} (h:LJ n l k) (hk:k≤k'):LJ n l k':=⟨h.asc,Nat.le_trans h.len hk,h.mem⟩
theorem LJ.step {n:Nat} {l:List Pr} {k a b:Nat} (h:LJ n l k) {l':List Pr} (hL:Linked l (a,b) l') (ha:1≤a) (hab:a<b) (hb:b≤n):LJ n l' (k+1) :=
 ⟨hL.sorted h.asc,Nat.le_trans hL.len (Nat.succ_le_succ h.len),fun p hp=>(hL.mem p hp).elim (h.mem p) fun e=>by subst e; exact⟨ha,hab,hb⟩⟩
theorem LJ.good {n:Nat} (hn:n≤5) {l:List Pr} {k:Nat} (h:LJ n l k):GoodL l :=
 ⟨h.asc,fun p hp=>by have:=h.mem p hp; omega,⟨fun i=>i,fun p hp=>(h.mem p hp).2.1⟩⟩
theorem ZgG {n:Nat} (h1:2≤n) (h2:n≤5):IntKind.u8.wrap (2*2 ^ (min ((n:Nat):Int).toNat IntKind.u8.bits))=((2*2 ^ n:Nat):Int)∧IntKind.u8.wrap (((2*2 ^ n:Nat):Int)-2)=((mkN n:Nat):Int)∧mkN n<64∧mkN n ||| 62=62:=by
 have:n=2 ∨ n=3 ∨ n=4 ∨ n=5:=by omega
 rcases this with rfl|rfl|rfl|rfl<;>decide
theorem Zgc (X:Int) (m:Nat) (hm:m<256):∃ s:Nat,s ||| m=m∧bits .and .u8 X (m:Int)=(s:Int):=by
 refine⟨(BitVec.ofInt 8 X).toNat &&& m,Zdv _ m,?_⟩
 rw [← Z6P _ _ (BitVec.ofInt 8 X).isLt hm]
 show IntKind.u8.wrap ((BitVec.ofInt 8 X &&& BitVec.ofInt 8 (m:Int)).toNat:Int)=IntKind.u8.wrap ((BitVec.ofInt 8 ((BitVec.ofInt 8 X).toNat:Int) &&& BitVec.ofInt 8 (m:Int)).toNat:Int)
 rw [show BitVec.ofInt 8 ((BitVec.ofInt 8 X).toNat:Int)=BitVec.ofInt 8 X by rw [BitVec.ofInt_natCast,BitVec.ofNat_toNat,BitVec.setWidth_eq]]
theorem Z2P (a b:Nat):((a:Nat):Int).tmod ((b:Nat):Int)=((a % b:Nat):Int):=by rw [Int.ofNat_tmod]
theorem InM.inC {n:Nat} {c:Cu} (h:InM (mkN n) c) (he:emC c=false):InC n c:=⟨h.1,h.2,he⟩
theorem Z3v {a b c:Nat} (h1:a ||| b=b) (h2:b ||| c=c):a ||| c=c:=orSub.2 fun i hi=>orSub.1 h2 i (orSub.1 h1 i hi)
theorem RuOk.mk0 {n:Nat} (hn:n≤5) {c:Cu} {rev:Bool} {tg og:Nat} (hc:InM (mkN n) c) (h62:mkN n ||| 62=62) (he:emC c=false) (ht:1≤tg∧tg≤n) (hr:rev=true→c=(0,0)):RuOk n ⟨rev,c,tg,og⟩ :=
 ⟨hc.inC he,⟨Z3v hc.1 h62,Z3v hc.2 h62⟩,⟨ht.1,ht.2,by show tg≤5; omega⟩,hr⟩
set_option maxRecDepth 100000 in
set_option maxHeartbeats 16000000 in
theorem Z9R (p:List Nat) (fl:Bool) (hp:Bytes p):Spec Tryz.prog 46 [.vec (bys p) fl] fun r=>∃ t:PB,MkOk t∧r=.agg (pbR t):=by
 have hpl:∀ (l:List Pr) D,innLL D (l.map prC):=fun l D=>Zi (fun _ h=>h.elim) _ (Zd l)
 have hsi:∀ t D,innLL D (srcB p fl t).elems:=fun t D=>ZeU p fl t D
 refine Z2 ok46 (Nat.le_of_ble_eq_true rfl) fun C hC=>?_
 refine gd 30 ⟨?_⟩
 refine ZW (ZI p hp fl 0 (by omega)) rfl rfl rfl rfl (Zw p fl 0) trivial ?_
 rintro r b' - - ⟨v1,hv1,rfl,rfl⟩
 refine Zv rfl rfl rfl (Z2P v1 4) ?_
 have hn4:=Nat.mod_lt v1 (show 0<4 by decide)
 refine Zv rfl rfl rfl (show IntKind.i64.wrap (2+((v1 % 4:Nat):Int))=((2+v1 % 4:Nat):Int) from by rw [IntWalk.i64_in _ ⟨by omega,by omega⟩];omega) ?_
 obtain⟨n,hn⟩:∃ n,2+v1 % 4=n:=⟨_,rfl⟩
 rw [hn]
 have hn2:2≤n∧n≤5:=by omega
 obtain⟨hm1,hm2,hm64,hm62⟩:=ZgG hn2.1 hn2.2
 clear hn hn4 hv1
 refine gd 36 ⟨?_⟩
 refine Zv rfl rfl rfl (show IntKind.u64.wrap ((n:Nat):Int)=((n:Nat):Int) from IntWalk.u64_in _ ⟨by omega,by omega⟩) ?_
 refine Zav rfl rfl (by omega) hm1 rfl ?_
 refine Zv rfl rfl rfl hm2 ?_
 refine gd 40 ⟨?_⟩
 refine ZW (ZI p hp fl 1 (by omega)) rfl rfl rfl rfl (Zw p fl 1) trivial ?_
 rintro r b' - - ⟨v2,hv2,rfl,rfl⟩
 refine go ?_
 refine ZH hC (fun (z:Nat×Nat×List Pr×Bool)=>1≤z.1∧z.1≤n∧z.2.1≤10*z.1∧LJ n z.2.2.1 z.2.1) (fun z=>n-z.1) 3 (fun z => [(2,.ptr 0 0 0),(3,.ptr 1 0 0),(4,.ptr 2 0 0),(5,.val (.int .u8 (mkN n:Nat))),(6,.val (.int .i64 (v2:Int))),(7,.val (.int .i64 (z.2.1:Int))),(8,.val (.int .i64 (z.1:Int)))])
  (fun z => [(0,⟨6,[zpv [.int .i64 0,.slice none 0 0,.int .u64 0,.slice none 0 0,.slice none 0 0,.slice none 0 0]]⟩),(1,srcB p fl 2),(2,⟨6,[[.val (.int .i64 (n:Int)),.vec (z.2.2.1.map prC) z.2.2.2,.val (.int .u64 0),.vec [] true,.vec [] true,.vec [] true]]⟩)]) (Nat.zero_le _) (1,0,[],true) ⟨Nat.le_refl _,by show 1≤n; omega,by show 0≤_; omega,LJ.nil n⟩
  ⟨⟨rfl,show (0:Nat)<3 by decide⟩,⟨rfl,show (1:Nat)<3 by decide⟩,⟨rfl,show (2:Nat)<3 by decide⟩,⟨rfl,trivial⟩,⟨rfl,trivial⟩,⟨rfl,trivial⟩,⟨rfl,trivial⟩,trivial⟩
  ⟨⟨by decide,rfl,⟨⟨trivial,trivial,trivial,trivial,trivial,trivial,trivial⟩,trivial⟩⟩,⟨by decide,rfl,hsi 2 _⟩,⟨by decide,rfl,⟨⟨trivial,trivial,trivial,trivial,trivial,trivial,trivial⟩,trivial⟩⟩,trivial⟩ ?_
 rintro⟨a,k,l,fk⟩ ⟨ha1,han,hk,hl⟩
 dsimp only at ha1 han hk hl
 have hainc:IntKind.i64.wrap ((a:Int)+1)=((a+1:Nat):Int):=IntWalk.i64_in _ ⟨by omega,by omega⟩
 refine gd 44 ⟨?_⟩
 refine Zj rfl rfl rfl (fun hb=>?_) (fun hb=>?_)
 · have hal : a < n := by have := of_decide_eq_true hb; omega
   clear hb
   refine go ?_
   refine ZH hC (fun (z:Nat×Nat×List Pr×Bool)=>a+1≤z.1∧z.1≤n+1∧z.2.1≤10*a+z.1∧LJ n z.2.2.1 z.2.1) (fun z=>n+1-z.1) 3 (fun z => [(2,.ptr 0 0 0),(3,.ptr 1 0 0),(4,.ptr 2 0 0),(5,.val (.int .u8 (mkN n:Nat))),(6,.val (.int .i64 (v2:Int))),(7,.val (.int .i64 (z.2.1:Int))),(8,.val (.int .i64 (a:Int))),(9,.val (.int .i64 (z.1:Int)))])
    (fun z => [(0,⟨6,[zpv [.int .i64 0,.slice none 0 0,.int .u64 0,.slice none 0 0,.slice none 0 0,.slice none 0 0]]⟩),(1,srcB p fl 2),(2,⟨6,[[.val (.int .i64 (n:Int)),.vec (z.2.2.1.map prC) z.2.2.2,.val (.int .u64 0),.vec [] true,.vec [] true,.vec [] true]]⟩)]) (Nat.zero_le _) (a+1,k,l,fk) ⟨Nat.le_refl _,by show a+1≤n+1; omega,by show k≤10*a+(a+1); omega,hl⟩
    ⟨⟨rfl,show (0:Nat)<3 by decide⟩,⟨rfl,show (1:Nat)<3 by decide⟩,⟨rfl,show (2:Nat)<3 by decide⟩,⟨rfl,trivial⟩,⟨rfl,trivial⟩,⟨rfl,trivial⟩,⟨rfl,trivial⟩,⟨by show some _=some _; rw [hainc],trivial⟩,trivial⟩
    ⟨⟨by decide,rfl,⟨⟨trivial,trivial,trivial,trivial,trivial,trivial,trivial⟩,trivial⟩⟩,⟨by decide,rfl,hsi 2 _⟩,⟨by decide,rfl,⟨⟨trivial,hpl _ _,trivial,trivial,trivial,trivial,trivial⟩,trivial⟩⟩,trivial⟩ ?_
   clear hk hl
   rintro⟨c,k,l,fk⟩ ⟨hc1,hcn,hk,hl⟩
   dsimp only at hc1 hcn hk hl
   have hcinc:IntKind.i64.wrap ((c:Int)+1)=((c+1:Nat):Int):=IntWalk.i64_in _ ⟨by omega,by omega⟩
   have hkinc:IntKind.i64.wrap ((k:Int)+1)=((k+1:Nat):Int):=IntWalk.i64_in _ ⟨by omega,by omega⟩
   have hend:∀ l' fk',LJ n l' (k+1)→c≤n→(fun (z:Nat×Nat×List Pr×Bool)=>a+1≤z.1∧z.1≤n+1∧z.2.1≤10*a+z.1∧LJ n z.2.2.1 z.2.1) (c+1,k+1,l',fk'):=fun l' fk' h1 h2=>⟨by show a+1≤c+1; omega,by show c+1≤n+1; omega,by show k+1≤10*a+(c+1); omega,h1⟩
   refine gd 52 ⟨?_⟩
   refine Zj rfl rfl rfl (fun hb=>?_) (fun hb=>?_)
   · have hcl : c ≤ n := by have := of_decide_eq_true hb; omega
     clear hb
     refine gd 57 ⟨?_⟩
     refine Zv rfl rfl rfl (Z2P k 8) ?_
     have hk8:=Nat.mod_lt k (show 0<8 by decide)
     refine Zv rfl rfl rfl (show IntKind.u64.wrap ((k % 8:Nat):Int)=((k % 8:Nat):Int) from IntWalk.u64_in _ ⟨by omega,by omega⟩) ?_
     refine Zaw rfl rfl (by omega) rfl rfl ?_
     refine gd 61 ⟨?_⟩
     refine Zj rfl rfl rfl (fun hb=>?_) (fun hb=>?_)
     · clear hb
       refine gd 65 ⟨?_⟩
       refine Zq rfl ?_
       refine Zj rfl rfl rfl (fun hb=>?_) (fun hb=>?_)
       · clear hb
         refine gd 72 ⟨?_⟩
         refine ZF rfl rfl (ZbQ l fk (hl.good hn2.2).small a c ⟨ha1,by omega⟩ ⟨by omega,by omega⟩ (by omega) (by have:=hl.len;omega)) ⟨Zd l,trivial,trivial,trivial⟩ rfl ?_
         rintro r ⟨l',fl',er,hL,rfl⟩
         refine go ?_
         exact⟨(c+1,k+1,l',fl'),hend l' fl' (hl.step hL ha1 (by omega) hcl) hcl,by show n+1-(c+1)<n+1-c; omega,⟨⟨rfl,show (0:Nat)<3 by decide⟩,⟨rfl,show (1:Nat)<3 by decide⟩,⟨rfl,show (2:Nat)<3 by decide⟩,⟨rfl,trivial⟩,⟨rfl,trivial⟩,⟨by show some _=some _; rw [hkinc],trivial⟩,⟨rfl,trivial⟩,⟨by show some _=some _; rw [hcinc],trivial⟩,trivial⟩,⟨⟨by decide,rfl,⟨⟨trivial,trivial,trivial,trivial,trivial,trivial,trivial⟩,trivial⟩⟩,⟨by decide,rfl,hsi 2 _⟩,⟨by decide,rfl,⟨⟨trivial,hpl _ _,trivial,trivial,trivial,trivial,trivial⟩,trivial⟩⟩,trivial⟩⟩
       · clear hb
         refine go ?_
         exact⟨(c+1,k+1,l,fk),hend l fk (hl.mono (Nat.le_succ k)) hcl,by show n+1-(c+1)<n+1-c; omega,⟨⟨rfl,show (0:Nat)<3 by decide⟩,⟨rfl,show (1:Nat)<3 by decide⟩,⟨rfl,show (2:Nat)<3 by decide⟩,⟨rfl,trivial⟩,⟨rfl,trivial⟩,⟨by show some _=some _; rw [hkinc],trivial⟩,⟨rfl,trivial⟩,⟨by show some _=some _; rw [hcinc],trivial⟩,trivial⟩,⟨⟨by decide,rfl,⟨⟨trivial,trivial,trivial,trivial,trivial,trivial,trivial⟩,trivial⟩⟩,⟨by decide,rfl,hsi 2 _⟩,⟨by decide,rfl,⟨⟨trivial,hpl _ _,trivial,trivial,trivial,trivial,trivial⟩,trivial⟩⟩,trivial⟩⟩
     · clear hb
       refine go ?_
       exact⟨(c+1,k+1,l,fk),hend l fk (hl.mono (Nat.le_succ k)) hcl,by show n+1-(c+1)<n+1-c; omega,⟨⟨rfl,show (0:Nat)<3 by decide⟩,⟨rfl,show (1:Nat)<3 by decide⟩,⟨rfl,show (2:Nat)<3 by decide⟩,⟨rfl,trivial⟩,⟨rfl,trivial⟩,⟨by show some _=some _; rw [hkinc],trivial⟩,⟨rfl,trivial⟩,⟨by show some _=some _; rw [hcinc],trivial⟩,trivial⟩,⟨⟨by decide,rfl,⟨⟨trivial,trivial,trivial,trivial,trivial,trivial,trivial⟩,trivial⟩⟩,⟨by decide,rfl,hsi 2 _⟩,⟨by decide,rfl,⟨⟨trivial,hpl _ _,trivial,trivial,trivial,trivial,trivial⟩,trivial⟩⟩,trivial⟩⟩
   · have hcl : c = n + 1 := by have := of_decide_eq_false hb; omega
     clear hb
     refine go ?_
     exact⟨(a+1,k,l,fk),⟨by show 1≤a+1; omega,by show a+1≤n; omega,by show k≤10*(a+1); omega,hl⟩,by show n-(a+1)<n-a; omega,⟨⟨rfl,show (0:Nat)<3 by decide⟩,⟨rfl,show (1:Nat)<3 by decide⟩,⟨rfl,show (2:Nat)<3 by decide⟩,⟨rfl,trivial⟩,⟨rfl,trivial⟩,⟨rfl,trivial⟩,⟨by show some _=some _; rw [hainc],trivial⟩,trivial⟩,⟨⟨by decide,rfl,⟨⟨trivial,trivial,trivial,trivial,trivial,trivial,trivial⟩,trivial⟩⟩,⟨by decide,rfl,hsi 2 _⟩,⟨by decide,rfl,⟨⟨trivial,hpl _ _,trivial,trivial,trivial,trivial,trivial⟩,trivial⟩⟩,trivial⟩⟩
 · have hal : a = n := by have := of_decide_eq_false hb; omega
   clear hb
   have hgl:=hl.good hn2.2
   have hlm:=hl.mem
   clear hl hk hv2 hainc
   refine gd 79 ⟨?_⟩
   refine ZW (ZI p hp fl 2 (by omega)) rfl rfl rfl rfl (Zw p fl 2) trivial ?_
   rintro r b' - - ⟨v3,hv3,rfl,rfl⟩
   refine gd 82 ⟨?_⟩
   obtain⟨s,hs1,hs2⟩:=Zgc (IntKind.u8.wrap (v3:Int)) (mkN n) (by omega)
   have hs3:s≤mkN n:=by rw [← hs1]; exact Nat.left_le_or
   refine Zv rfl rfl rfl hs2 ?_
   refine Zv rfl rfl rfl (show IntKind.u64.wrap ((s:Nat):Int)=((s:Nat):Int) from IntWalk.u64_in _ ⟨by omega,by omega⟩) ?_
   clear hs2 hv3
   refine gd 86 ⟨?_⟩
   refine ZW (ZI p hp fl 3 (by omega)) rfl rfl rfl rfl (Zw p fl 3) trivial ?_
   rintro r b' - - ⟨v4,hv4,rfl,rfl⟩
   refine Zv rfl rfl rfl (Z2P v4 7) ?_
   have hc6:=Nat.mod_lt v4 (show 0<7 by decide)
   generalize v4 % 7=cnt at hc6 ⊢
   clear hv4
   refine gd 11 ⟨?_⟩
   refine Za (ZK (id:=2) (i0:=0) (j0:=3) rfl (Nat.le_of_ble_eq_true rfl) (Nat.le_of_ble_eq_true rfl) rfl 5 (by decide) (by decide)) ?_
   refine go ?_
   refine ZN hC (fun (z:Nat×Nat×List RU)=>z.1≤cnt∧z.2.1≤4+4*z.1∧z.2.2.length=z.1∧∀ r∈z.2.2,RuOk n r) (fun z=>cnt-z.1) 4 (fun z => [(2,.ptr 0 0 0),(3,.ptr 1 0 0),(4,.ptr 2 0 0),(5,.val (.int .u8 (mkN n:Nat))),(10,.val (.int .i64 (cnt:Int))),(11,.val (.int .i64 (z.1:Int)))])
    (fun z => [(0,⟨6,[zpv [.int .i64 0,.slice none 0 0,.int .u64 0,.slice none 0 0,.slice none 0 0,.slice none 0 0]]⟩),(1,srcB p fl z.2.1),(2,⟨6,[[.val (.int .i64 (n:Int)),.vec (l.map prC) fk,.val (.int .u64 (s:Int)),.own 3,.vec [] true,.vec [] true]]⟩),(3,⟨5,z.2.2.map ruR⟩)]) (Nat.zero_le _) (0,3+1,[]) ⟨Nat.zero_le _,Nat.le_refl _,rfl,fun r hr=>by cases hr⟩ (fun i=>i) (fun _ _=>rfl) Zu
    ⟨⟨_,rfl,.ptr (ρ:=fun i=>i) 0 0 0 (by decide)⟩,⟨_,rfl,.ptr (ρ:=fun i=>i) 1 0 0 (by decide)⟩,⟨_,rfl,.ptr (ρ:=fun i=>i) 2 0 0 (by decide)⟩,⟨_,rfl,.pure _ trivial⟩,⟨_,rfl,.pure _ trivial⟩,⟨_,rfl,.pure _ trivial⟩,trivial⟩
    ⟨⟨by decide,_,rfl,.same _ ⟨⟨trivial,trivial,trivial,trivial,trivial,trivial,trivial⟩,trivial⟩⟩,⟨by decide,_,rfl,.same _ (Zw p fl _)⟩,⟨by decide,_,rfl,RenB.single ⟨.pure _ trivial,.pure _ (Zd l),.pure _ trivial,.own (ρ:=fun i=>i) 3 (by decide),.pure _ trivial,.pure _ trivial,trivial⟩ rfl⟩,⟨by decide,_,rfl,.same _ trivial⟩,trivial⟩ ?_
   rintro⟨i,t,rs⟩ ⟨hi,ht,hrl,hro⟩
   dsimp only at hi ht hrl hro
   have hinc:IntKind.i64.wrap ((i:Int)+1)=((i+1:Nat):Int):=IntWalk.i64_in _ ⟨by omega,by omega⟩
   refine gd 90 ⟨?_⟩
   refine Zj rfl rfl rfl (fun hb=>?_) (fun hb=>?_)
   · have hil : i < cnt := by have := of_decide_eq_true hb; omega
     clear hb
     refine gd 94 ⟨?_⟩
     refine ZW (ZI p hp fl t (by omega)) rfl rfl rfl rfl (Zw p fl _) trivial ?_
     rintro r b' - - ⟨w1,hw1,rfl,rfl⟩
     refine gd 96 ⟨?_⟩
     refine ZW (ZI p hp fl (t+1) (by omega)) rfl rfl rfl rfl (Zw p fl _) trivial ?_
     rintro r b' - - ⟨w2,hw2,rfl,rfl⟩
     refine gd 98 ⟨?_⟩
     refine ZW (ZI p hp fl (t+1+1) (by omega)) rfl rfl rfl rfl (Zw p fl _) trivial ?_
     rintro r b' - - ⟨w3,hw3,rfl,rfl⟩
     refine gd 100 ⟨?_⟩
     refine ZW (ZI p hp fl (t+1+1+1) (by omega)) rfl rfl rfl rfl (Zw p fl _) trivial ?_
     rintro r b' - - ⟨w4,hw4,rfl,rfl⟩
     refine gd 103 ⟨?_⟩
     refine Z3 rfl rfl rfl ?_
     generalize ((w1:Int).tmod 4 == 3)=rev
     refine gd 107 ⟨?_⟩
     refine Z3 (ZfB rfl rfl (by omega)) rfl rfl ?_
     rw [Z2P w2 n]
     have hw:=Nat.mod_lt w2 (show 0<n by omega)
     refine Zv rfl rfl rfl (show IntKind.i64.wrap (1+((w2 % n:Nat):Int))=((1+w2 % n:Nat):Int) from by rw [IntWalk.i64_in _ ⟨by omega,by omega⟩];omega) ?_
     cases rev
     · refine gd 117 ⟨?_⟩
       refine ZF rfl rfl (Z4I (w3:Int) (w4:Int) (mkN n) (by omega)) ⟨trivial,trivial,trivial,trivial⟩ rfl ?_
       rintro r ⟨c,hc1,hc2,rfl⟩
       refine gd 123 ⟨?_⟩
       refine ZA (Zp (k:=3) (m := [ruR (RU.mk false c (1+w2 % n) i)]) (fl:=true) rfl rfl rfl (fun q hq=>by rw [List.mem_singleton] at hq; subst hq; rfl) rfl (by
        show ((rs.map ruR).length+1)*40≤_
        rw [List.length_map];omega)) rfl rfl ?_
       refine go ?_
       refine⟨(i+1,t+1+1+1+1,rs ++ [(RU.mk false c (1+w2 % n) i)]),mv 3 5,⟨by show i+1≤cnt; omega,by show t+1+1+1+1≤4+4*(i+1); omega,by rw [List.length_append,hrl]; rfl,fun r hr=>(List.mem_append.1 hr).elim (hro r) fun e=>by
        rw [List.mem_singleton] at e; subst e
        exact RuOk.mk0 hn2.2 hc1 hm62 hc2 ⟨by omega,by omega⟩ (fun h=>by cases h)⟩,by show cnt-(i+1)<cnt-i; omega,fun i hi=>absurd hi (Nat.not_lt_zero i),ZB rfl,
        ⟨⟨_,rfl,.ptr (ρ:=mv 3 5) 0 0 0 (by decide)⟩,⟨_,rfl,.ptr (ρ:=mv 3 5) 1 0 0 (by decide)⟩,⟨_,rfl,.ptr (ρ:=mv 3 5) 2 0 0 (by decide)⟩,⟨_,rfl,.pure _ trivial⟩,⟨_,rfl,.pure _ trivial⟩,⟨_,by show some _=some _; rw [hinc],.pure _ trivial⟩,trivial⟩,
        ⟨⟨by decide,_,rfl,.same _ ⟨⟨trivial,trivial,trivial,trivial,trivial,trivial,trivial⟩,trivial⟩⟩,⟨by decide,_,rfl,.same _ (Zw p fl _)⟩,⟨by decide,_,rfl,RenB.single ⟨.pure _ trivial,.pure _ (Zd l),.pure _ trivial,.own (ρ:=mv 3 5) 3 (by decide),.pure _ trivial,.pure _ trivial,trivial⟩ rfl⟩,⟨by decide,_,rfl,?_⟩,trivial⟩⟩
       show RenB _ _ ⟨5,rs.map ruR ++ [ruR (RU.mk false c (1+w2 % n) i)]⟩ ⟨5,(rs ++ [(RU.mk false c (1+w2 % n) i)]).map ruR⟩
       rw [List.map_append]
       exact .same _ (by rw [← List.map_singleton,← List.map_append]; exact Z1i _)
     · refine gd 123 ⟨?_⟩
       refine ZA (Zp (k:=3) (m := [ruR (RU.mk true (0,0) (1+w2 % n) i)]) (fl:=true) rfl rfl rfl (fun q hq=>by rw [List.mem_singleton] at hq; subst hq; rfl) rfl (by
        show ((rs.map ruR).length+1)*40≤_
        rw [List.length_map];omega)) rfl rfl ?_
       refine go ?_
       refine⟨(i+1,t+1+1+1+1,rs ++ [(RU.mk true (0,0) (1+w2 % n) i)]),mv 3 5,⟨by show i+1≤cnt; omega,by show t+1+1+1+1≤4+4*(i+1); omega,by rw [List.length_append,hrl]; rfl,fun r hr=>(List.mem_append.1 hr).elim (hro r) fun e=>by
        rw [List.mem_singleton] at e; subst e
        exact RuOk.mk0 hn2.2 ⟨Nat.zero_or _,Nat.zero_or _⟩ hm62 rfl ⟨by omega,by omega⟩ (fun h=>rfl)⟩,by show cnt-(i+1)<cnt-i; omega,fun i hi=>absurd hi (Nat.not_lt_zero i),ZB rfl,
        ⟨⟨_,rfl,.ptr (ρ:=mv 3 5) 0 0 0 (by decide)⟩,⟨_,rfl,.ptr (ρ:=mv 3 5) 1 0 0 (by decide)⟩,⟨_,rfl,.ptr (ρ:=mv 3 5) 2 0 0 (by decide)⟩,⟨_,rfl,.pure _ trivial⟩,⟨_,rfl,.pure _ trivial⟩,⟨_,by show some _=some _; rw [hinc],.pure _ trivial⟩,trivial⟩,
        ⟨⟨by decide,_,rfl,.same _ ⟨⟨trivial,trivial,trivial,trivial,trivial,trivial,trivial⟩,trivial⟩⟩,⟨by decide,_,rfl,.same _ (Zw p fl _)⟩,⟨by decide,_,rfl,RenB.single ⟨.pure _ trivial,.pure _ (Zd l),.pure _ trivial,.own (ρ:=mv 3 5) 3 (by decide),.pure _ trivial,.pure _ trivial,trivial⟩ rfl⟩,⟨by decide,_,rfl,?_⟩,trivial⟩⟩
       show RenB _ _ ⟨5,rs.map ruR ++ [ruR (RU.mk true (0,0) (1+w2 % n) i)]⟩ ⟨5,(rs ++ [(RU.mk true (0,0) (1+w2 % n) i)]).map ruR⟩
       rw [List.map_append]
       exact .same _ (by rw [← List.map_singleton,← List.map_append]; exact Z1i _)
   · have hil : i = cnt := by have := of_decide_eq_false hb; omega
     clear hb hinc
     rw [hil] at hrl
     have ht28:t≤28:=by omega
     clear hi hil ht
     refine gd 126 ⟨?_⟩
     refine ZW (ZI p hp fl t (by omega)) rfl rfl rfl rfl (Zw p fl _) trivial ?_
     rintro r b' - - ⟨w1,hw1,rfl,rfl⟩
     refine Za (Zl (ob:=2) (id:=3) (i0:=0) (j0:=3) rfl rfl (by decide) (Z1i rs) (Nat.le_of_ble_eq_true rfl) (Nat.le_of_ble_eq_true rfl) rfl) ?_
     refine Zv rfl rfl rfl (Z2P w1 4) ?_
     have hv4:=Nat.mod_lt w1 (show 0<4 by decide)
     generalize w1 % 4=nvc at hv4 ⊢
     clear hw1
     refine gd 129 ⟨?_⟩
     refine ZW (ZI p hp fl (t+1) (by omega)) rfl rfl rfl rfl (Zw p fl _) trivial ?_
     rintro r b' - - ⟨w1,hw1,rfl,rfl⟩
     refine Zv rfl rfl rfl (Z2P w1 3) ?_
     have hv3:=Nat.mod_lt w1 (show 0<3 by decide)
     refine Zv rfl rfl rfl (show IntKind.i64.wrap (1+((w1 % 3:Nat):Int))=((1+w1 % 3:Nat):Int) from by rw [IntWalk.i64_in _ ⟨by omega,by omega⟩];omega) ?_
     obtain⟨glc,hglc⟩:∃ g,1+w1 % 3=g:=⟨_,rfl⟩
     rw [hglc]
     have hgl3:1≤glc∧glc≤3:=by omega
     clear hglc hv3 hw1
     refine gd 19 ⟨?_⟩
     refine Za (ZK (id:=2) (i0:=0) (j0:=4) rfl (Nat.le_of_ble_eq_true rfl) (Nat.le_of_ble_eq_true rfl) rfl 2 (by decide) (by decide)) ?_
     refine go ?_
     refine ZN hC (fun (z:Nat×Nat×List Cu)=>z.1≤nvc∧z.2.1≤30+2*z.1∧z.2.2.length≤z.1∧∀ c∈z.2.2,InM (mkN n) c∧emC c=false∧hoC c (clo l s)=false) (fun z=>nvc-z.1) 5 (fun z => [(2,.ptr 0 0 0),(3,.ptr 1 0 0),(4,.ptr 2 0 0),(5,.val (.int .u8 (mkN n:Nat))),(17,.val (.int .i64 (nvc:Int))),(18,.val (.int .i64 (glc:Int))),(19,.val (.int .i64 (z.1:Int)))])
      (fun z => [(0,⟨6,[zpv [.int .i64 0,.slice none 0 0,.int .u64 0,.slice none 0 0,.slice none 0 0,.slice none 0 0]]⟩),(1,srcB p fl z.2.1),(2,⟨6,[[.val (.int .i64 (n:Int)),.vec (l.map prC) fk,.val (.int .u64 (s:Int)),.vec (rs.map ruR) false,.own 4,.vec [] true]]⟩),(4,⟨2,z.2.2.map raC⟩)]) (Nat.zero_le _) (0,t+1+1,[]) ⟨Nat.zero_le _,by show t+1+1≤30+2*0; omega,Nat.le_refl _,fun r hr=>by cases hr⟩ (fun i=>i) (fun _ _=>rfl) Zu
      ⟨⟨_,rfl,.ptr (ρ:=fun i=>i) 0 0 0 (by decide)⟩,⟨_,rfl,.ptr (ρ:=fun i=>i) 1 0 0 (by decide)⟩,⟨_,rfl,.ptr (ρ:=fun i=>i) 2 0 0 (by decide)⟩,⟨_,rfl,.pure _ trivial⟩,⟨_,rfl,.pure _ trivial⟩,⟨_,rfl,.pure _ trivial⟩,⟨_,rfl,.pure _ trivial⟩,trivial⟩
      ⟨⟨by decide,_,rfl,.same _ ⟨⟨trivial,trivial,trivial,trivial,trivial,trivial,trivial⟩,trivial⟩⟩,⟨by decide,_,rfl,.same _ (Zw p fl _)⟩,⟨by decide,_,rfl,RenB.single ⟨.pure _ trivial,.pure _ (Zd l),.pure _ trivial,.pure _ (Z1i rs),.own (ρ:=fun i=>i) 4 (by decide),.pure _ trivial,trivial⟩ rfl⟩,⟨by decide,_,rfl,.same _ trivial⟩,trivial⟩ ?_
     clear ht28
     rintro⟨i,t,nv⟩ ⟨hi,ht,hnl,hno⟩
     dsimp only at hi ht hnl hno
     have hinc:IntKind.i64.wrap ((i:Int)+1)=((i+1:Nat):Int):=IntWalk.i64_in _ ⟨by omega,by omega⟩
     refine gd 134 ⟨?_⟩
     refine Zj rfl rfl rfl (fun hb=>?_) (fun hb=>?_)
     · have hil : i < nvc := by have := of_decide_eq_true hb; omega
       clear hb
       refine gd 138 ⟨?_⟩
       refine ZW (ZI p hp fl t (by omega)) rfl rfl rfl rfl (Zw p fl _) trivial ?_
       rintro r b' - - ⟨w1,hw1,rfl,rfl⟩
       refine gd 140 ⟨?_⟩
       refine ZW (ZI p hp fl (t+1) (by omega)) rfl rfl rfl rfl (Zw p fl _) trivial ?_
       rintro r b' - - ⟨w2,hw2,rfl,rfl⟩
       refine gd 145 ⟨?_⟩
       refine Z3 (ZfB rfl rfl (by omega)) rfl rfl ?_
       rw [Z2P i n]
       have hw:=Nat.mod_lt i (show 0<n by omega)
       refine Zv rfl rfl rfl (show IntKind.u64.wrap ((i % n:Nat):Int)=((i % n:Nat):Int) from IntWalk.u64_in _ ⟨by omega,by omega⟩) ?_
       refine Zav rfl rfl (by omega) rfl rfl ?_
       refine gd 151 ⟨?_⟩
       refine ZF rfl rfl (Z4I _ (w2:Int) (mkN n) (by omega)) ⟨trivial,trivial,trivial,trivial⟩ rfl ?_
       rintro r ⟨c,hc1,hc2,rfl⟩
       have hcl:=Z7u l fk hgl.small s (by omega)
       have hc64:=hc1.lt (by omega)
       have hho:=Z8z c (clo l s) hc64 (Z8o _ _)
       refine gd 157 ⟨?_⟩
       refine Zz hcl rfl rfl rfl ⟨Zd _,trivial,trivial⟩ ?_
       refine Zz hho rfl rfl rfl ⟨Z3t c,trivial,trivial⟩ ?_
       cases hb:hoC c (clo l s)
       · refine gd 164 ⟨?_⟩
         refine ZA (Zp (k:=4) (m := [raC c]) (fl:=true) rfl rfl rfl (fun q hq=>by rw [List.mem_singleton] at hq; subst hq; rfl) rfl (by
         show ((nv.map raC).length+1)*16≤_
         rw [List.length_map];omega)) rfl rfl ?_
         refine go ?_
         refine⟨(i+1,t+1+1,nv ++ [c]),mv 4 14,⟨by show i+1≤nvc; omega,by show t+1+1≤30+2*(i+1); omega,by rw [List.length_append]; show nv.length+1≤i+1; omega,fun c' hc'=>(List.mem_append.1 hc').elim (hno c') fun e=>by rw [List.mem_singleton] at e; subst e; exact⟨hc1,hc2,hb⟩⟩,by show nvc-(i+1)<nvc-i; omega,fun i hi=>absurd hi (Nat.not_lt_zero i),ZB rfl,
          ⟨⟨_,rfl,.ptr (ρ:=mv 4 14) 0 0 0 (by decide)⟩,⟨_,rfl,.ptr (ρ:=mv 4 14) 1 0 0 (by decide)⟩,⟨_,rfl,.ptr (ρ:=mv 4 14) 2 0 0 (by decide)⟩,⟨_,rfl,.pure _ trivial⟩,⟨_,rfl,.pure _ trivial⟩,⟨_,rfl,.pure _ trivial⟩,⟨_,by show some _=some _; rw [hinc],.pure _ trivial⟩,trivial⟩,
          ⟨⟨by decide,_,rfl,.same _ ⟨⟨trivial,trivial,trivial,trivial,trivial,trivial,trivial⟩,trivial⟩⟩,⟨by decide,_,rfl,.same _ (Zw p fl _)⟩,⟨by decide,_,rfl,RenB.single ⟨.pure _ trivial,.pure _ (Zd l),.pure _ trivial,.pure _ (Z1i rs),.own (ρ:=mv 4 14) 4 (by decide),.pure _ trivial,trivial⟩ rfl⟩,⟨by decide,_,rfl,?_⟩,trivial⟩⟩
         show RenB _ _ ⟨2,nv.map raC ++ [raC c]⟩ ⟨2,(nv ++ [c]).map raC⟩
         rw [List.map_append]
         exact .same _ (by rw [← List.map_singleton,← List.map_append]; exact Z1j _)
       · refine go ?_
         exact⟨(i+1,t+1+1,nv),fun i=>i,⟨by show i+1≤nvc; omega,by show t+1+1≤30+2*(i+1); omega,by show nv.length≤i+1; omega,hno⟩,by show nvc-(i+1)<nvc-i; omega,fun i hi=>rfl,Zu,
          ⟨⟨_,rfl,.ptr (ρ:=fun i=>i) 0 0 0 (by decide)⟩,⟨_,rfl,.ptr (ρ:=fun i=>i) 1 0 0 (by decide)⟩,⟨_,rfl,.ptr (ρ:=fun i=>i) 2 0 0 (by decide)⟩,⟨_,rfl,.pure _ trivial⟩,⟨_,rfl,.pure _ trivial⟩,⟨_,rfl,.pure _ trivial⟩,⟨_,by show some _=some _; rw [hinc],.pure _ trivial⟩,trivial⟩,
          ⟨⟨by decide,_,rfl,.same _ ⟨⟨trivial,trivial,trivial,trivial,trivial,trivial,trivial⟩,trivial⟩⟩,⟨by decide,_,rfl,.same _ (Zw p fl _)⟩,⟨by decide,_,rfl,RenB.single ⟨.pure _ trivial,.pure _ (Zd l),.pure _ trivial,.pure _ (Z1i rs),.own (ρ:=fun i=>i) 4 (by decide),.pure _ trivial,trivial⟩ rfl⟩,⟨by decide,_,rfl,.same _ (Z1j _)⟩,trivial⟩⟩
     · have hil : i = nvc := by have := of_decide_eq_false hb; omega
       clear hb hinc
       rw [hil] at hnl
       have ht40:t≤40:=by omega
       clear hi hil ht
       refine gd 23 ⟨?_⟩
       refine Za (Zl (ob:=2) (id:=4) (i0:=0) (j0:=4) rfl rfl (by decide) (Z1j nv) (Nat.le_of_ble_eq_true rfl) (Nat.le_of_ble_eq_true rfl) rfl) ?_
       refine Za (ZK (id:=2) (i0:=0) (j0:=5) rfl (Nat.le_of_ble_eq_true rfl) (Nat.le_of_ble_eq_true rfl) rfl 2 (by decide) (by decide)) ?_
       refine go ?_
       refine ZN hC (fun (z:Nat×Nat×List Cu)=>z.1≤glc∧z.2.1≤40+2*z.1∧z.2.2.length=z.1∧∀ c∈z.2.2,InM (mkN n) c∧emC c=false) (fun z=>glc-z.1) 6 (fun z => [(2,.ptr 0 0 0),(3,.ptr 1 0 0),(4,.ptr 2 0 0),(5,.val (.int .u8 (mkN n:Nat))),(18,.val (.int .i64 (glc:Int))),(23,.val (.int .i64 (z.1:Int)))])
        (fun z => [(0,⟨6,[zpv [.int .i64 0,.slice none 0 0,.int .u64 0,.slice none 0 0,.slice none 0 0,.slice none 0 0]]⟩),(1,srcB p fl z.2.1),(2,⟨6,[[.val (.int .i64 (n:Int)),.vec (l.map prC) fk,.val (.int .u64 (s:Int)),.vec (rs.map ruR) false,.vec (nv.map raC) false,.own 5]]⟩),(5,⟨2,z.2.2.map raC⟩)]) (Nat.zero_le _) (0,t,[]) ⟨Nat.zero_le _,by show t≤40+2*0; omega,rfl,fun r hr=>by cases hr⟩ (fun i=>i) (fun _ _=>rfl) Zu
        ⟨⟨_,rfl,.ptr (ρ:=fun i=>i) 0 0 0 (by decide)⟩,⟨_,rfl,.ptr (ρ:=fun i=>i) 1 0 0 (by decide)⟩,⟨_,rfl,.ptr (ρ:=fun i=>i) 2 0 0 (by decide)⟩,⟨_,rfl,.pure _ trivial⟩,⟨_,rfl,.pure _ trivial⟩,⟨_,rfl,.pure _ trivial⟩,trivial⟩
        ⟨⟨by decide,_,rfl,.same _ ⟨⟨trivial,trivial,trivial,trivial,trivial,trivial,trivial⟩,trivial⟩⟩,⟨by decide,_,rfl,.same _ (Zw p fl _)⟩,⟨by decide,_,rfl,RenB.single ⟨.pure _ trivial,.pure _ (Zd l),.pure _ trivial,.pure _ (Z1i rs),.pure _ (Z1j nv),.own (ρ:=fun i=>i) 5 (by decide),trivial⟩ rfl⟩,⟨by decide,_,rfl,.same _ trivial⟩,trivial⟩ ?_
       clear ht40
       rintro⟨i,t,gs⟩ ⟨hi,ht,hgn,hgo⟩
       dsimp only at hi ht hgn hgo
       have hinc:IntKind.i64.wrap ((i:Int)+1)=((i+1:Nat):Int):=IntWalk.i64_in _ ⟨by omega,by omega⟩
       refine gd 168 ⟨?_⟩
       refine Zj rfl rfl rfl (fun hb=>?_) (fun hb=>?_)
       · have hil : i < glc := by have := of_decide_eq_true hb; omega
         clear hb
         refine gd 172 ⟨?_⟩
         refine ZW (ZI p hp fl t (by omega)) rfl rfl rfl rfl (Zw p fl _) trivial ?_
         rintro r b' - - ⟨w1,hw1,rfl,rfl⟩
         refine gd 174 ⟨?_⟩
         refine ZW (ZI p hp fl (t+1) (by omega)) rfl rfl rfl rfl (Zw p fl _) trivial ?_
         rintro r b' - - ⟨w2,hw2,rfl,rfl⟩
         refine gd 180 ⟨?_⟩
         refine Z7a rfl rfl (.inl rfl) (Z4I (w1:Int) (w2:Int) (mkN n) (by omega)) ⟨trivial,trivial,trivial,trivial⟩ ?_
         rintro r ⟨c,hc1,hc2,rfl⟩
         refine gd 182 ⟨?_⟩
         refine Zt (Zp (k:=5) (m := [raC c]) (fl:=true) rfl rfl rfl (fun q hq=>by rw [List.mem_singleton] at hq; subst hq; rfl) rfl (by
          show ((gs.map raC).length+1)*16≤_
          rw [List.length_map];omega)) rfl rfl ?_
         refine go ?_
         refine⟨(i+1,t+1+1,gs ++ [c]),mv 5 13,⟨by show i+1≤glc; omega,by show t+1+1≤40+2*(i+1); omega,by rw [List.length_append,hgn]; rfl,fun c' hc'=>(List.mem_append.1 hc').elim (hgo c') fun e=>by rw [List.mem_singleton] at e; subst e; exact⟨hc1,hc2⟩⟩,by show glc-(i+1)<glc-i; omega,fun i hi=>absurd hi (Nat.not_lt_zero i),ZB rfl,
          ⟨⟨_,rfl,.ptr (ρ:=mv 5 13) 0 0 0 (by decide)⟩,⟨_,rfl,.ptr (ρ:=mv 5 13) 1 0 0 (by decide)⟩,⟨_,rfl,.ptr (ρ:=mv 5 13) 2 0 0 (by decide)⟩,⟨_,rfl,.pure _ trivial⟩,⟨_,rfl,.pure _ trivial⟩,⟨_,by show some _=some _; rw [hinc],.pure _ trivial⟩,trivial⟩,
          ⟨⟨by decide,_,rfl,.same _ ⟨⟨trivial,trivial,trivial,trivial,trivial,trivial,trivial⟩,trivial⟩⟩,⟨by decide,_,rfl,.same _ (Zw p fl _)⟩,⟨by decide,_,rfl,RenB.single ⟨.pure _ trivial,.pure _ (Zd l),.pure _ trivial,.pure _ (Z1i rs),.pure _ (Z1j nv),.own (ρ:=mv 5 13) 5 (by decide),trivial⟩ rfl⟩,⟨by decide,_,rfl,?_⟩,trivial⟩⟩
         show RenB _ _ ⟨2,gs.map raC ++ [raC c]⟩ ⟨2,(gs ++ [c]).map raC⟩
         rw [List.map_append]
         exact .same _ (by rw [← List.map_singleton,← List.map_append]; exact Z1j _)
       · have hil : i = glc := by have := of_decide_eq_false hb; omega
         clear hb hinc
         rw [hil] at hgn
         refine gd 184 ⟨?_⟩
         refine Za (Zl (ob:=2) (id:=5) (i0:=0) (j0:=5) rfl rfl (by decide) (Z1j gs) (Nat.le_of_ble_eq_true rfl) (Nat.le_of_ble_eq_true rfl) rfl) ?_
         refine go ?_
         have hlo1:lowLL (l.map prC)=l.map prC:=Z4m (fun _=>rfl) l
         have hlo2:lowLL (rs.map ruR)=rs.map ruR:=Z4m (fun _=>rfl) rs
         have hlo3:∀ x:List Cu,lowLL (x.map raC)=x.map raC:=Z4m (fun _=>rfl)
         have hcI:∀ c:Cu,InM (mkN n) c→InM 62 c:=fun c hc=>⟨Z3v hc.1 hm62,Z3v hc.2 hm62⟩
         have hOk:MkOk ⟨n,l,s,rs,nv,gs⟩:=by
          refine⟨⟨⟨by show 1≤n; omega,by show n≤63; omega⟩,hgl,fun p hp=>?_,hs1,by show rs.length≤64; omega,hro,by show nv.length≤64; omega,fun c hc=>⟨(hno c hc).1.inC (hno c hc).2.1,hcI c (hno c hc).1⟩,by show gs.length≤64; omega,fun c hc=>⟨(hgo c hc).1.inC (hgo c hc).2,hcI c (hgo c hc).1⟩,?_⟩,hn2,by show rs.length≤6; omega,by show nv.length≤3; omega,by show 1≤gs.length∧gs.length≤3; omega⟩
          · have := hlm p hp
            show p.1≤n∧p.2≤n∧p.1≤5∧p.2≤5
            omega
          · show soC nv (clo l s) = false
            refine Bool.eq_false_iff.2 fun h=>?_
            obtain⟨c,hc,h⟩:=List.any_eq_true.1 h
            rw [(hno c hc).2.2] at h; cases h
         have he:(PV.agg [.val (.int .i64 (n:Int)),.vec (l.map prC) fk,.val (.int .u64 (s:Int)),.vec (rs.map ruR) false,.vec (nv.map raC) false,.vec (gs.map raC) false]).low=.agg (pbR ⟨n,l,s,rs,nv,gs⟩):=by
          show PV.agg [.val (.int .i64 (n:Int)),.vec (lowLL (l.map prC)) false,.val (.int .u64 (s:Int)),.vec (lowLL (rs.map ruR)) false,.vec (lowLL (nv.map raC)) false,.vec (lowLL (gs.map raC)) false]=_
          rw [hlo1,hlo2,hlo3,hlo3]; rfl
         refine Z1b (r:=.agg [.val (.int .i64 (n:Int)),.vec (l.map prC) fk,.val (.int .u64 (s:Int)),.vec (rs.map ruR) false,.vec (nv.map raC) false,.vec (gs.map raC) false]) rfl ?_ ⟨_,hOk,he⟩
         rw [he]
         exact Z5m _
theorem Zf9 (l:List RU):(l.map ruR).length=l.length:=by simp
theorem Z4W:∀ {l m:List Pr},SortedP l→SortedP m→l.Perm m→l=m
 | [],m,_,_,h=>(List.Perm.nil_eq h)
 | a :: l,[],_,_,h=>by have:=h.length_eq; simp at this
 | a :: l, b :: m, h1, h2, h => by
   have h1':=List.pairwise_cons.1 h1
   have h2':=List.pairwise_cons.1 h2
   have hab:a=b:=by
    rcases List.mem_cons.1 (h.mem_iff.1 (List.mem_cons_self (a:=a) (l:=l))) with e|ha
    · exact e
    rcases List.mem_cons.1 (h.mem_iff.2 (List.mem_cons_self (a:=b) (l:=m))) with e|hb
    · exact e.symm
    have x1:=h1'.1 b hb
    have x2:=h2'.1 a ha
    omega
   subst hab
   rw [Z4W h1'.2 h2'.2 (List.Perm.cons_inv h)]
theorem SortedP.tk {l:List Pr} (h:SortedP l) (i:Nat):SortedP (l.take i):=List.Pairwise.sublist (List.take_sublist i l) h
theorem SortedP.nd {l:List Pr} (h:SortedP l):l.Nodup:=List.Pairwise.imp (fun {a b} h e=>by subst e;omega) h
theorem Z7K {l:List Pr} (h:GoodL l):l.length≤4096:=by
 have hn:(l.map fun p=>p.1*64+p.2).Nodup:=by
  rw [List.nodup_iff_pairwise_ne,List.pairwise_map]
  refine List.Pairwise.imp_of_mem (fun {a b} ha hb hab=>?_) h.asc
  have h1:=h.small a ha
  have h2:=h.small b hb
  show a.1*64+a.2≠b.1*64+b.2
  omega
 have:=Z2g 4096 _ hn fun x hx=>by
  obtain⟨p,hp,rfl⟩:=List.mem_map.1 hx
  have:=h.small p hp
  show p.1*64+p.2<4096
  omega
 rwa [List.length_map] at this
theorem Z1a {α:Type} {l:List α} {i:Nat} (hi:i<l.length):l.take (i+1)=l.take i ++ [l[i]]:=by rw [List.take_add_one,List.getElem?_eq_getElem hi]; rfl
set_option maxRecDepth 100000 in
set_option maxHeartbeats 16000000 in
theorem Z8D {t:PB} (h:PbOk t):Spec Tryz.prog 47 [.agg (pbR t)] fun r=>∃ S,r=.tup [.agg (pbP t S),.val (.bool true)]:=by
 have hpr:=Z5m t
 have hgl:=h.good
 have hll:=Z7K hgl
 have hnl:=Z1X t.l
 have hst:t.st<18446744073709551616:=by
  have h1:t.st≤mkN t.n:=by rw [← h.st]; exact Nat.left_le_or
  have:=Z3D h.n.2
  omega
 have hpl:∀ D,innLL D (t.l.map prC):=fun D=>Zi (fun _ h=>h.elim) _ (Zd t.l)
 have hpc:∀ D,innL D (pbR t):=fun D=>Z1f (fun _ h=>h.elim) _ hpr
 have hhp:∀ D l S,(hierP l S).inn D:=fun D l S=>PV.inn_mono (fun _ h=>h.elim) _ (Zs l S)
 have hcu:∀ (l:List Cu) D,innLL D (l.map cuC):=fun l D=>Zi (fun _ h=>h.elim) _ (Z16 l)
 refine Z2 ok47 (Nat.le_of_ble_eq_true rfl) fun C hC=>?_
 refine Zk ?_
 refine Z9 ?_
 refine Z4 rfl rfl rfl ?_
 refine gd 13 ⟨?_⟩
 refine Z7a rfl rfl (.inl rfl) Z4U trivial ?_
 rintro r ⟨S0,rfl⟩
 refine gd 16 ⟨?_⟩
 refine Zz (Z4H t.st hst) rfl rfl rfl ⟨trivial,trivial⟩ ?_
 refine gd 19 ⟨?_⟩
 refine Zz (Z4T t.nv false h.nv64 (by have:=h.nl;omega)) rfl rfl rfl ⟨Z1j _,trivial⟩ ?_
 refine gd 22 ⟨?_⟩
 refine Zz (Z4T t.gl false h.gl64 (by have:=h.gk;omega)) rfl rfl rfl ⟨Z1j _,trivial⟩ ?_
 refine go ?_
 refine ZH hC (fun (z:Nat×List Nat)=>z.1≤t.l.length) (fun z=>t.l.length-z.1) 16 (fun z => [(1,.cp (pbR t)),(2,.ptr 0 0 0),(4,.ptr 14 0 0),(25,.vec (t.l.map prC) false),(26,.val (.int .i64 t.l.length)),(27,.val (.int .i64 (z.1:Int)))])
  (fun z => [(0,⟨6,[zpv [.int .i64 0,.pointer none,.slice none 0 0,.slice none 0 0,.slice none 0 0,.slice none 0 0]]⟩),(14,⟨6,[[.val (.int .i64 (t.n:Int)),hierP (t.l.take z.1) z.2,.vec (words (digs t.st)) false,.vec [] true,.vec (t.nv.map cuC) false,.vec (t.gl.map cuC) false]]⟩)]) (Nat.zero_le _) (0,S0) (Nat.zero_le _)
  ⟨⟨rfl,hpc _⟩,⟨rfl,show (0:Nat)<16 by decide⟩,⟨rfl,show (14:Nat)<16 by decide⟩,⟨rfl,hpl _⟩,⟨by rw [← hnl]; rfl,trivial⟩,⟨rfl,trivial⟩,trivial⟩
  ⟨⟨by decide,rfl,⟨⟨trivial,trivial,trivial,trivial,trivial,trivial,trivial⟩,trivial⟩⟩,⟨by decide,rfl,⟨⟨trivial,hhp _ _ _,Zg _ _,trivial,hcu _ _,hcu _ _,trivial⟩,trivial⟩⟩,trivial⟩ ?_
 rintro⟨i,S⟩ hi
 dsimp only at hi
 have hinc:IntKind.i64.wrap ((i:Int)+1)=((i+1:Nat):Int):=IntWalk.i64_in _ ⟨by omega,by omega⟩
 refine gd 28 ⟨?_⟩
 refine Zj rfl rfl rfl (fun hb=>?_) (fun hb=>?_)
 · have hil : i < t.l.length := by have := of_decide_eq_true hb; omega
   have htk:=Z1a hil
   have hro:=hgl.role _ (List.getElem_mem hil)
   have hsub:∀ p∈t.l.take i ++ [t.l[i]],p∈t.l:=fun p hp=>by rw [← htk] at hp; exact List.mem_of_mem_take hp
   have hno:t.l[i] ∉ t.l.take i:=fun h=>by
    have hnd:=SortedP.nd (SortedP.tk hgl.asc (i+1))
    rw [htk,List.nodup_append] at hnd
    exact hnd.2.2 _ h _ (List.mem_singleton.2 rfl) rfl
   clear hb
   refine go ?_
   refine Z3 (Zn (xs:=t.l) (g:=prC) rfl rfl i rfl hil rfl) rfl rfl ?_
   generalize t.l[i]=p at htk hro hsub hno ⊢
   have hls:=Zdw (t.l.take i) S p.1 p.2 (by omega) (by omega) hro.2.2.2.2 (fun q hq=>hgl.small q (List.mem_of_mem_take hq)) (SortedP.nd (SortedP.tk hgl.asc i)) hno (hgl.acy.sub hsub) (by rw [List.length_take];omega)
   refine gd 38 ⟨?_⟩
   refine ZF rfl rfl hls ⟨Zs _ _,trivial,trivial,trivial⟩ rfl ?_
   rintro r ⟨l',S',hpm,hst,rfl⟩
   have hle:l'=t.l.take (i+1):=by
    have hx1:l'.Perm (t.l.take (i+1)):=by rw [htk]; exact hpm
    exact Z4W hst (SortedP.tk hgl.asc (i+1)) hx1
   subst hle
   refine go ?_
   exact⟨(i+1,S'),hil,by show t.l.length-(i+1)<t.l.length-i; omega,⟨⟨rfl,hpc _⟩,⟨rfl,show (0:Nat)<16 by decide⟩,⟨rfl,show (14:Nat)<16 by decide⟩,⟨rfl,hpl _⟩,⟨rfl,trivial⟩,⟨by show some _=some _; rw [hinc],trivial⟩,trivial⟩,
    ⟨⟨by decide,rfl,⟨⟨trivial,trivial,trivial,trivial,trivial,trivial,trivial⟩,trivial⟩⟩,⟨by decide,rfl,⟨⟨trivial,hhp _ _ _,Zg _ _,trivial,hcu _ _,hcu _ _,trivial⟩,trivial⟩⟩,trivial⟩⟩
 · have hil : i = t.l.length := by have := of_decide_eq_false hb; omega
   subst hil
   clear hb hinc hi
   rw [List.take_length]
   refine gd 50 ⟨?_⟩
   refine Za (ZK (id:=14) (i0:=0) (j0:=3) rfl (Nat.le_of_ble_eq_true rfl) (Nat.le_of_ble_eq_true rfl) rfl 5 (by decide) (by decide)) ?_
   refine go ?_
   have hnr:=Zf9 t.rs
   have hrl:=h.rl
   refine ZN hC (fun (i:Nat)=>i≤t.rs.length) (fun i=>t.rs.length-i) 17 (fun i => [(2,.ptr 0 0 0),(4,.ptr 14 0 0),(48,.vec (t.rs.map ruR) false),(49,.val (.int .i64 (t.rs.length:Int))),(50,.val (.int .i64 (i:Int)))])
    (fun i => [(0,⟨6,[zpv [.int .i64 0,.pointer none,.slice none 0 0,.slice none 0 0,.slice none 0 0,.slice none 0 0]]⟩),(14,⟨6,[[.val (.int .i64 (t.n:Int)),hierP t.l S,.vec (words (digs t.st)) false,.own 16,.vec (t.nv.map cuC) false,.vec (t.gl.map cuC) false]]⟩),(16,⟨5,(t.rs.take i).map ruP⟩)]) (Nat.zero_le _) 0 (Nat.zero_le _) (fun i=>i) (fun _ _=>rfl) Zu
    ⟨⟨_,rfl,.ptr (ρ:=fun i=>i) 0 0 0 (by decide)⟩,⟨_,rfl,.ptr (ρ:=fun i=>i) 14 0 0 (by decide)⟩,⟨_,rfl,.pure _ (Z1i _)⟩,⟨_,by rw [← hnr]; rfl,.pure _ trivial⟩,⟨_,rfl,.pure _ trivial⟩,trivial⟩
    ⟨⟨by decide,_,rfl,.same _ ⟨⟨trivial,trivial,trivial,trivial,trivial,trivial,trivial⟩,trivial⟩⟩,⟨by decide,_,rfl,RenB.single ⟨.pure _ trivial,.pure _ (Zs _ _),.pure _ (Z8 _),.own (ρ:=fun i=>i) 16 (by decide),.pure _ (Z16 _),.pure _ (Z16 _),trivial⟩ rfl⟩,⟨by decide,_,rfl,.same _ trivial⟩,trivial⟩ ?_
   intro i hi
   have hinc:IntKind.i64.wrap ((i:Int)+1)=((i+1:Nat):Int):=IntWalk.i64_in _ ⟨by omega,by omega⟩
   refine gd 51 ⟨?_⟩
   by_cases hil:i<t.rs.length
   · have htk := Z1a hil
     have hcu64:=(h.rs _ (List.getElem_mem hil)).cu.lt h.n.2
     refine Z3 (Zb (v:=true) rfl (decide_eq_true (Int.ofNat_lt.2 hil))) rfl rfl ?_
     refine go ?_
     refine Z3 (Zn (xs:=t.rs) (g:=ruR) rfl rfl i rfl hil rfl) rfl rfl ?_
     generalize t.rs[i]=x at htk hcu64 ⊢
     refine gd 57 ⟨?_⟩
     refine Zt rfl rfl rfl ?_
     refine gd 60 ⟨?_⟩
     refine Zz (Z3N x.cu hcu64) rfl rfl rfl ⟨Z3t _,trivial⟩ ?_
     refine gd 67 ⟨?_⟩
     refine Zt (Zp (k:=16) (m := [ruP x]) (fl:=true) rfl rfl rfl (fun q hq=>by rw [List.mem_singleton] at hq; subst hq; rfl) rfl (by
      show (((t.rs.take i).map ruP).length+1)*72≤_
      rw [List.length_map,List.length_take];omega)) rfl rfl ?_
     refine go ?_
     refine⟨i+1,mv 16 31,hil,by show t.rs.length-(i+1)<t.rs.length-i; omega,fun i hi=>absurd hi (Nat.not_lt_zero i),ZB rfl,
      ⟨⟨_,rfl,.ptr (ρ:=mv 16 31) 0 0 0 (by decide)⟩,⟨_,rfl,.ptr (ρ:=mv 16 31) 14 0 0 (by decide)⟩,⟨_,rfl,.pure _ (Z1i _)⟩,⟨_,rfl,.pure _ trivial⟩,⟨_,by show some _=some _; rw [hinc],.pure _ trivial⟩,trivial⟩,
      ⟨⟨by decide,_,rfl,.same _ ⟨⟨trivial,trivial,trivial,trivial,trivial,trivial,trivial⟩,trivial⟩⟩,⟨by decide,_,rfl,RenB.single ⟨.pure _ trivial,.pure _ (Zs _ _),.pure _ (Z8 _),.own (ρ:=mv 16 31) 16 (by decide),.pure _ (Z16 _),.pure _ (Z16 _),trivial⟩ rfl⟩,⟨by decide,_,rfl,?_⟩,trivial⟩⟩
     show RenB _ _ ⟨5,(t.rs.take i).map ruP ++ [ruP x]⟩ ⟨5,(t.rs.take (i+1)).map ruP⟩
     rw [htk,List.map_append]
     exact .same _ (by rw [← List.map_singleton,← List.map_append]; exact ZD _)
   · have hil : i = t.rs.length := by omega
     subst hil
     rw [List.take_length]
     refine Za (Zl (ob:=14) (id:=16) (i0:=0) (j0:=3) rfl rfl (by decide) (ZD t.rs) (Nat.le_of_ble_eq_true rfl) (Nat.le_of_ble_eq_true rfl) rfl) ?_
     refine Z3 (Zb (v:=false) rfl (decide_eq_false (Int.lt_irrefl _))) rfl rfl ?_
     repeat' (first|refine Z2E [] [(0,16)] [63,63,63,63,47,63] (by kernel_rfl) ?_|(first|refine st ?_|(apply B<;>intro hb<;>try cases hb)))
     exact Z6 rfl ⟨Z1e t S,trivial,trivial⟩ ⟨S,rfl⟩
set_option maxHeartbeats 4000000 in
theorem ZbY (p:List Nat) (fl:Bool) (hp:Bytes p):Spec Tryz.prog 14 [.vec (bys p) fl] fun r=>∃ t S,MkOk t∧r=.tup [.agg (pbP t S),.agg (pbR t),.val (.bool true)]:=by
 refine Z2 ok14 (Nat.le_of_ble_eq_true rfl) fun C hC=>?_
 refine gd 9 ⟨?_⟩
 refine ZF rfl rfl (Z9R p fl hp) ⟨Z7D p,trivial⟩ rfl ?_
 rintro r ⟨t,ht,rfl⟩
 have hpr:=Z5m t
 refine gd 12 ⟨?_⟩
 refine ZF rfl rfl (Z8D ht.ok) ⟨hpr,trivial⟩ rfl ?_
 rintro r ⟨S,rfl⟩
 have hpp:=Z1e t S
 repeat' (first|refine Z2E [] [(0,8)] [63,63,63,55,63,63] (by kernel_rfl) ?_|(first|refine st ?_|(apply B<;>intro hb<;>try cases hb)))
 exact Z6 rfl ⟨hpp,hpr,trivial,trivial⟩ ⟨t,S,ht,rfl⟩
theorem Z9S {α:Type} (p:α→Bool) (xs:List α):(!xs.any fun x => !p x)=xs.all p:=by
 induction xs with
 | nil=>rfl
 | cons x xs ih=>rw [List.any_cons,List.all_cons,Bool.not_or,ih,Bool.not_not]
theorem Z9T {n:Nat} {e:Env} {h:Heap} {a:Operand} {l:List PV} (ha:ev e a=some (.agg l)) (hl:0<l.length):fEval (.box a) e h n=some (.cp l,h):=by
 simp only [fEval,ha]
 rw [if_pos (by show (true&&decide (0<l.length))=true; rw [decide_eq_true hl]; rfl)]
 rfl
set_option maxHeartbeats 1000000 in
theorem Z62 {α:Type} (xs:List α) (enc:α→List PV) (fl:Bool) (g:Nat) (caps:List PV) (p:α→Bool) (hl:∀ x,(enc x).length=5) (hp:∀ x,pureL (enc x)) (hc:pureL caps) (hg:∀ x∈xs,Spec Tryz.prog g (.agg (enc x) :: caps) (· = .val (.bool (p x)))) :
 Spec Tryz.prog 158 [.vec (xs.map enc) fl,.fn g caps] (· = .val (.int .i64 (idxI p xs))):=by
 refine Z2 ok158 (Nat.le_of_ble_eq_true rfl) fun C hC=>?_
 refine Z3B (k:=0) rfl fun hmax=>?_
 have hnl:(xs.map enc).length=xs.length:=by simp
 have hlm:xs.length≤maxVec:=by simpa using hmax
 refine go ?_
 refine Z3l (fun i=>i≤xs.length∧(xs.take i).any p=false) (fun i=>xs.length-i) (fun i => [(0,.vec (xs.map enc) fl),(1,.fn g caps),(7,.val (.int .i64 (xs.length:Int))),(8,.val (.int .i64 (i:Int)))]) 0 ⟨Nat.zero_le _,rfl⟩ ⟨rfl,rfl,by rw [← hnl]; rfl,rfl,trivial⟩ ?_
 rintro i ⟨hi,hno⟩
 have hinc:IntKind.i64.wrap ((i:Int)+1)=((i+1:Nat):Int):=IntWalk.i64_in _ ⟨by omega,by simp only [maxVec] at hlm; omega⟩
 (refine go ?_;repeat' (apply B<;>intro hb<;>try cases hb))
 · have hil : i < xs.length := by simpa using hb
   refine Z3 (Zn (xs:=xs) rfl rfl i rfl hil (hl _)) rfl rfl ?_
   refine Z3 (Z3q rfl (hl _)) rfl rfl ?_
   refine Z5 (hg _ (List.getElem_mem hil)) rfl rfl rfl ⟨hp _,hc⟩ rfl ?_
   refine Z1n ?_
   refine Z4z rfl (fun hx=>?_) (fun hx=>?_)
   · refine go ?_
     exact Z6 rfl trivial (by rw [Z4F hil hno hx])
   · (refine go ?_;repeat' (apply B<;>intro hb<;>try cases hb))
     exact⟨i+1,⟨by omega,Z4b hil hno hx⟩,by omega,rfl,rfl,⟨rfl,rfl,rfl,by show some _=some _; rw [hinc],trivial⟩⟩
 · have hil : i = xs.length := by simp at hb; omega
   subst hil
   rw [List.take_length] at hno
   exact Z6 rfl trivial (by rw [Z2c hno]; rfl)
theorem Z4n {α:Type} (xs:List α) (enc:α→List PV) (fl:Bool) (g:Nat) (caps:List PV) (p:α→Bool) (hl:∀ x,(enc x).length=5) (hp:∀ x,pureL (enc x)) (hc:pureL caps) (hg:∀ x∈xs,Spec Tryz.prog g (.agg (enc x) :: caps) (· = .val (.bool (p x)))) :
 Spec Tryz.prog 118 [.vec (xs.map enc) fl,.fn g caps] (· = .val (.bool (xs.any p))):=by
 refine Z2 ok118 (Nat.le_of_ble_eq_true rfl) fun C hC=>?_
 refine go ?_
 refine Z5 (Z62 xs enc fl g caps p hl hp hc hg) rfl rfl rfl ⟨Zf hp xs,hc,trivial⟩ rfl ?_
 refine Z3 (Zb rfl (Z5g (p:=p) (xs:=xs))) rfl rfl ?_
 (refine go ?_;repeat' (apply B<;>intro hb<;>try cases hb))
 all_goals exact Z6 rfl trivial (by rw [hb])
set_option maxHeartbeats 1000000 in
theorem Z63 {α:Type} (xs:List α) (enc:α→List PV) (fl:Bool) (g:Nat) (caps:List PV) (p:α→Bool) (hl:∀ x,(enc x).length=2) (hp:∀ x,pureL (enc x)) (hc:pureL caps) (hg:∀ x∈xs,Spec Tryz.prog g (.agg (enc x) :: caps) (· = .val (.bool (p x)))) :
 Spec Tryz.prog 175 [.vec (xs.map enc) fl,.fn g caps] (· = .val (.int .i64 (idxI p xs))):=by
 refine Z2 ok175 (Nat.le_of_ble_eq_true rfl) fun C hC=>?_
 refine Z3B (k:=0) rfl fun hmax=>?_
 have hnl:(xs.map enc).length=xs.length:=by simp
 have hlm:xs.length≤maxVec:=by simpa using hmax
 refine go ?_
 refine Z3l (fun i=>i≤xs.length∧(xs.take i).any p=false) (fun i=>xs.length-i) (fun i => [(0,.vec (xs.map enc) fl),(1,.fn g caps),(7,.val (.int .i64 (xs.length:Int))),(8,.val (.int .i64 (i:Int)))]) 0 ⟨Nat.zero_le _,rfl⟩ ⟨rfl,rfl,by rw [← hnl]; rfl,rfl,trivial⟩ ?_
 rintro i ⟨hi,hno⟩
 have hinc:IntKind.i64.wrap ((i:Int)+1)=((i+1:Nat):Int):=IntWalk.i64_in _ ⟨by omega,by simp only [maxVec] at hlm; omega⟩
 (refine go ?_;repeat' (apply B<;>intro hb<;>try cases hb))
 · have hil : i < xs.length := by simpa using hb
   refine Z3 (Zn (xs:=xs) rfl rfl i rfl hil (hl _)) rfl rfl ?_
   refine Z3 (Z3q rfl (hl _)) rfl rfl ?_
   refine Z5 (hg _ (List.getElem_mem hil)) rfl rfl rfl ⟨hp _,hc⟩ rfl ?_
   refine Z1n ?_
   refine Z4z rfl (fun hx=>?_) (fun hx=>?_)
   · refine go ?_
     exact Z6 rfl trivial (by rw [Z4F hil hno hx])
   · (refine go ?_;repeat' (apply B<;>intro hb<;>try cases hb))
     exact⟨i+1,⟨by omega,Z4b hil hno hx⟩,by omega,rfl,rfl,⟨rfl,rfl,rfl,by show some _=some _; rw [hinc],trivial⟩⟩
 · have hil : i = xs.length := by simp at hb; omega
   subst hil
   rw [List.take_length] at hno
   exact Z6 rfl trivial (by rw [Z2c hno]; rfl)
theorem Z4o {α:Type} (xs:List α) (enc:α→List PV) (fl:Bool) (g:Nat) (caps:List PV) (p:α→Bool) (hl:∀ x,(enc x).length=2) (hp:∀ x,pureL (enc x)) (hc:pureL caps) (hg:∀ x∈xs,Spec Tryz.prog g (.agg (enc x) :: caps) (· = .val (.bool (p x)))) :
 Spec Tryz.prog 154 [.vec (xs.map enc) fl,.fn g caps] (· = .val (.bool (xs.any p))):=by
 refine Z2 ok154 (Nat.le_of_ble_eq_true rfl) fun C hC=>?_
 refine go ?_
 refine Z5 (Z63 xs enc fl g caps p hl hp hc hg) rfl rfl rfl ⟨Zf hp xs,hc,trivial⟩ rfl ?_
 refine Z3 (Zb rfl (Z5g (p:=p) (xs:=xs))) rfl rfl ?_
 (refine go ?_;repeat' (apply B<;>intro hb<;>try cases hb))
 all_goals exact Z6 rfl trivial (by rw [hb])
theorem ZbZ {α:Type} (enc:α→List PV) (g:Nat) (caps:List PV) (p:α→Bool) (hl:∀ x,(enc x).length=5) (hp:∀ x,pureL (enc x)) (hc:pureL caps) (x:α) (hg:Spec Tryz.prog g (.agg (enc x) :: caps) (· = .val (.bool (p x)))) :
 Spec Tryz.prog 119 [.agg (enc x),.cp [.fn g caps]] (· = .val (.bool (!p x))):=by
 refine Z2 ok119 (Nat.le_of_ble_eq_true rfl) fun C hC=>?_
 refine Zk ?_
 refine Z9 ?_
 refine Z4 (Z9T rfl (by rw [hl]; decide)) rfl rfl ?_
 refine gd 5 ⟨?_⟩
 refine Z3 (Z3q rfl (hl _)) rfl rfl ?_
 refine Z5 hg rfl rfl rfl ⟨hp _,hc⟩ rfl ?_
 generalize p x=b
 cases b
 all_goals
  refine go ?_
  exact Z6 rfl trivial rfl
theorem Z8E {α:Type} (xs:List α) (enc:α→List PV) (fl:Bool) (g:Nat) (caps:List PV) (p:α→Bool) (hl:∀ x,(enc x).length=5) (hp:∀ x,pureL (enc x)) (hc:pureL caps) (hg:∀ x∈xs,Spec Tryz.prog g (.agg (enc x) :: caps) (· = .val (.bool (p x)))) :
 Spec Tryz.prog 82 [.vec (xs.map enc) fl,.fn g caps] (· = .val (.bool (xs.all p))):=by
 have hcs:pureL [PV.cp [PV.fn g caps]]:=⟨⟨hc,trivial⟩,trivial⟩
 have h1:=Z4n xs enc fl 119 [.cp [.fn g caps]] (fun x => !p x) hl hp hcs fun x hx=>ZbZ enc g caps p hl hp hc x (hg x hx)
 rw [← Z9S]
 refine Z2 ok82 (Nat.le_of_ble_eq_true rfl) fun C hC=>?_
 refine Zk ?_
 refine Z9 ?_
 refine Z4 rfl rfl rfl ?_
 refine gd 7 ⟨?_⟩
 refine Z5 h1 rfl rfl rfl ⟨Zf hp xs,hcs,trivial⟩ rfl ?_
 generalize (xs.any fun x => !p x)=b
 cases b
 all_goals
  refine go ?_
  exact Z6 rfl trivial rfl
theorem Zc0 {α:Type} (enc:α→List PV) (g:Nat) (caps:List PV) (p:α→Bool) (hl:∀ x,(enc x).length=2) (hp:∀ x,pureL (enc x)) (hc:pureL caps) (x:α) (hg:Spec Tryz.prog g (.agg (enc x) :: caps) (· = .val (.bool (p x)))) :
 Spec Tryz.prog 155 [.agg (enc x),.cp [.fn g caps]] (· = .val (.bool (!p x))):=by
 refine Z2 ok155 (Nat.le_of_ble_eq_true rfl) fun C hC=>?_
 refine Zk ?_
 refine Z9 ?_
 refine Z4 (Z9T rfl (by rw [hl]; decide)) rfl rfl ?_
 refine gd 5 ⟨?_⟩
 refine Z3 (Z3q rfl (hl _)) rfl rfl ?_
 refine Z5 hg rfl rfl rfl ⟨hp _,hc⟩ rfl ?_
 generalize p x=b
 cases b
 all_goals
  refine go ?_
  exact Z6 rfl trivial rfl
theorem ZdD {α:Type} (xs:List α) (enc:α→List PV) (fl:Bool) (g:Nat) (caps:List PV) (p:α→Bool) (hl:∀ x,(enc x).length=2) (hp:∀ x,pureL (enc x)) (hc:pureL caps) (hg:∀ x∈xs,Spec Tryz.prog g (.agg (enc x) :: caps) (· = .val (.bool (p x)))) :
 Spec Tryz.prog 112 [.vec (xs.map enc) fl,.fn g caps] (· = .val (.bool (xs.all p))):=by
 have hcs:pureL [PV.cp [PV.fn g caps]]:=⟨⟨hc,trivial⟩,trivial⟩
 have h1:=Z4o xs enc fl 155 [.cp [.fn g caps]] (fun x => !p x) hl hp hcs fun x hx=>Zc0 enc g caps p hl hp hc x (hg x hx)
 rw [← Z9S]
 refine Z2 ok112 (Nat.le_of_ble_eq_true rfl) fun C hC=>?_
 refine Zk ?_
 refine Z9 ?_
 refine Z4 rfl rfl rfl ?_
 refine gd 7 ⟨?_⟩
 refine Z5 h1 rfl rfl rfl ⟨Zf hp xs,hcs,trivial⟩ rfl ?_
 generalize (xs.any fun x => !p x)=b
 cases b
 all_goals
  refine go ?_
  exact Z6 rfl trivial rfl
theorem Zc1 {α:Type} (enc:α→List PV) (g:Nat) (caps:List PV) (p:α→Bool) (hl:∀ x,(enc x).length=2) (hp:∀ x,pureL (enc x)) (hc:pureL caps) (x:α) (hg:Spec Tryz.prog g (.agg (enc x) :: caps) (· = .val (.bool (p x)))) :
 Spec Tryz.prog 157 [.agg (enc x),.cp [.fn g caps]] (· = .val (.bool (!p x))):=by
 refine Z2 ok157 (Nat.le_of_ble_eq_true rfl) fun C hC=>?_
 refine Zk ?_
 refine Z9 ?_
 refine Z4 (Z9T rfl (by rw [hl]; decide)) rfl rfl ?_
 refine gd 5 ⟨?_⟩
 refine Z3 (Z3q rfl (hl _)) rfl rfl ?_
 refine Z5 hg rfl rfl rfl ⟨hp _,hc⟩ rfl ?_
 generalize p x=b
 cases b
 all_goals
  refine go ?_
  exact Z6 rfl trivial rfl
theorem ZdE {α:Type} (xs:List α) (enc:α→List PV) (fl:Bool) (g:Nat) (caps:List PV) (p:α→Bool) (hl:∀ x,(enc x).length=2) (hp:∀ x,pureL (enc x)) (hc:pureL caps) (hg:∀ x∈xs,Spec Tryz.prog g (.agg (enc x) :: caps) (· = .val (.bool (p x)))) :
 Spec Tryz.prog 116 [.vec (xs.map enc) fl,.fn g caps] (· = .val (.bool (xs.all p))):=by
 have hcs:pureL [PV.cp [PV.fn g caps]]:=⟨⟨hc,trivial⟩,trivial⟩
 have h1:=Z1F xs enc fl 157 [.cp [.fn g caps]] (fun x => !p x) hl hp hcs fun x hx=>Zc1 enc g caps p hl hp hc x (hg x hx)
 rw [← Z9S]
 refine Z2 ok116 (Nat.le_of_ble_eq_true rfl) fun C hC=>?_
 refine Zk ?_
 refine Z9 ?_
 refine Z4 rfl rfl rfl ?_
 refine gd 7 ⟨?_⟩
 refine Z5 h1 rfl rfl rfl ⟨Zf hp xs,hcs,trivial⟩ rfl ?_
 generalize (xs.any fun x => !p x)=b
 cases b
 all_goals
  refine go ?_
  exact Z6 rfl trivial rfl
abbrev RI:=Bool×Cu×Int×Int
def ruI (x:RI):List PV := [.val (.bool x.1),.vec (words (digs x.2.1.1)) false,.vec (words (digs x.2.1.2)) false,.val (.int .i64 x.2.2.1),.val (.int .i64 x.2.2.2)]
def toI (r:RU):RI:=(r.rev,r.cu,(r.tg:Int),(r.og:Int))
theorem Z7L (x:RI):pureL (ruI x):=⟨trivial,Z8 _,Z8 _,trivial,trivial,trivial⟩
theorem Z2z (l:List RI):pureLL (l.map ruI):=Zf Z7L l
noncomputable def prbI (n:Int) (l:List Pr) (S:List Nat) (s0:Nat) (rs:List RI) (nv gl:List Cu):List PV := [.val (.int .i64 n),hierP l S,.vec (words (digs s0)) false,.vec (rs.map ruI) false,.vec (nv.map cuC) false,.vec (gl.map cuC) false]
theorem Z3a (n:Int) (l:List Pr) (S:List Nat) (s0:Nat) (rs:List RI) (nv gl:List Cu):pureL (prbI n l S s0 rs nv gl):=⟨trivial,Zs _ _,Z8 _,Z2z _,Z16 _,Z16 _,trivial⟩
theorem Zh0 (t:PB) (S:List Nat):pbP t S=prbI t.n t.l S t.st (t.rs.map toI) t.nv t.gl:=by
 unfold pbP prbI
 rw [List.map_map]; rfl
def cubI (rs:List RI) (nv gl:List Cu):List Cu:=rs.map (·.2.1)++nv++gl
set_option maxHeartbeats 2000000 in
theorem Z6W (n:Int) (l:List Pr) (S:List Nat) (s0:Nat) (rs:List RI) (nv gl:List Cu) (h1:rs.length≤10000) (h2:nv.length≤10000) (h3:gl.length≤10000):Spec Tryz.prog 81 [.agg (prbI n l S s0 rs nv gl)] (· = .vec ((cubI rs nv gl).map cuC) false):=by
 have hpp:=Z3a n l S s0 rs nv gl
 have hrl:(rs.map ruI).length=rs.length:=by simp
 refine Z2 ok81 (Nat.le_of_ble_eq_true rfl) fun C hC=>?_
 refine Zk ?_
 refine Z9 ?_
 refine Z4 rfl rfl rfl ?_
 repeat' (first|refine Za (Zy (k:=3) rfl 2 (by decide)) ?_|(first|refine st ?_|(apply B<;>intro hb<;>try cases hb)))
 refine ZN hC (fun (i:Nat)=>i≤rs.length) (fun i=>rs.length-i) 1 (fun i => [(1,.cp (prbI n l S s0 rs nv gl)),(3,.own 0),(7,.vec (rs.map ruI) false),(8,.val (.int .i64 (rs.length:Int))),(9,.val (.int .i64 (i:Int)))])
  (fun i => [(0,⟨2,((rs.take i).map (·.2.1)).map cuC⟩)]) (Nat.zero_le _) 0 (Nat.zero_le _) (fun i=>i) (fun _ _=>rfl) Zu
  ⟨⟨_,rfl,.pure _ hpp⟩,⟨_,rfl,.own 0 (by decide)⟩,⟨_,rfl,.pure _ (Z2z _)⟩,⟨_,by rw [← hrl]; rfl,.pure _ trivial⟩,⟨_,rfl,.pure _ trivial⟩,trivial⟩ ⟨⟨by decide,_,rfl,.same _ trivial⟩,trivial⟩ ?_
 intro i hi
 have hinc:IntKind.i64.wrap ((i:Int)+1)=((i+1:Nat):Int):=IntWalk.i64_in _ ⟨by omega,by omega⟩
 iterate 2 (first|refine st ?_|(apply B<;>intro hb<;>try cases hb))
 refine Zj rfl rfl rfl (fun hb=>?_) (fun hb=>?_)
 · have hil : i < rs.length := by have := of_decide_eq_true hb; omega
   have htake:=Z1a hil
   clear hb
   refine go ?_
   refine Z3 (Zn (xs:=rs) (g:=ruI) rfl rfl i rfl hil rfl) rfl rfl ?_
   generalize rs[i]=x at htake ⊢
   refine gd 17 ⟨?_⟩
   refine ZA (Zp (k:=0) (m := [cuC x.2.1]) (fl:=true) rfl rfl rfl (fun c hc=>by rw [List.mem_singleton] at hc; subst hc; rfl) rfl (by
    show ((((rs.take i).map (·.2.1)).map cuC).length+1)*48≤_
    rw [List.length_map,List.length_map,List.length_take]
    omega)) rfl rfl ?_
   refine go ?_
   refine⟨i+1,mv 0 2,by omega,by omega,fun i hi=>absurd hi (Nat.not_lt_zero i),ZB rfl,
    ⟨⟨_,rfl,.pure _ hpp⟩,⟨_,rfl,.own 0 (by decide)⟩,⟨_,rfl,.pure _ (Z2z _)⟩,⟨_,rfl,.pure _ trivial⟩,⟨_,by show some _=some _; rw [hinc],.pure _ trivial⟩,trivial⟩,
    ⟨⟨by decide,_,rfl,?_⟩,trivial⟩⟩
   show RenB _ _ ⟨2,((rs.take i).map (·.2.1)).map cuC ++ [cuC x.2.1]⟩ ⟨2,((rs.take (i+1)).map (·.2.1)).map cuC⟩
   rw [htake,List.map_append,List.map_append]
   exact .same _ (by show pureLL (((rs.take i).map (·.2.1)).map cuC ++ [x.2.1].map cuC); rw [← List.map_append]; exact Z0 _)
 · have hil : i = rs.length := by have := of_decide_eq_false hb; omega
   subst hil
   clear hb
   rw [List.take_length]
   repeat' (first|refine Z2E [6] [(0,8)] [255,255,255,247,255,255,255,255] (by kernel_rfl) ?_|refine Z9e 22 ?_|(first|refine st ?_|(apply B<;>intro hb<;>try cases hb)))
   refine At.mk ?_
   refine Zt (Zp (k:=0) (m:=nv.map cuC) (fl:=false) rfl rfl rfl (fun c hc=>by obtain⟨x,_,rfl⟩:=List.mem_map.1 hc; rfl) rfl (by
    show (((rs.map (·.2.1)).map cuC).length+(nv.map cuC).length)*48≤_
    rw [List.length_map,List.length_map,List.length_map];omega)) rfl rfl ?_
   have happ:((rs.map (·.2.1)).map cuC++nv.map cuC)++gl.map cuC=(cubI rs nv gl).map cuC:=by
    unfold cubI
    rw [List.map_append,List.map_append]
   refine gd 25 ⟨?_⟩
   refine Z9a (k:=4) (m:=gl.map cuC) (fl:=false) (b:=⟨2,(rs.map (·.2.1)).map cuC++nv.map cuC⟩) rfl rfl rfl (fun c hc=>by obtain⟨x,_,rfl⟩:=List.mem_map.1 hc; rfl) rfl (by
    show ((((rs.map (·.2.1)).map cuC)++nv.map cuC).length+(gl.map cuC).length)*48≤_
    rw [List.length_append,List.length_map,List.length_map,List.length_map,List.length_map];omega) (by show pureLL (((rs.map (·.2.1)).map cuC++nv.map cuC)++gl.map cuC); rw [happ]; exact Z0 _) rfl rfl ?_
   refine go ?_
   refine Z6 (r:=.vec (((rs.map (·.2.1)).map cuC++nv.map cuC)++gl.map cuC) false) rfl ?_ ?_
   · rw [happ]; exact Z0 _
   · rw [happ]
theorem Z9U (m:Nat) (hm:m<18446744073709551616) (p:Pr):Spec Tryz.prog 114 [.agg (prC p),.cp [.vec (words (digs m)) false]] (· = .val (.bool (m.testBit p.1&&m.testBit p.2))):=by
 refine Z2 ok114 (Nat.le_of_ble_eq_true rfl) fun C hC=>?_
 refine Zk ?_
 refine Z9 ?_
 refine Z4 rfl rfl rfl ?_
 refine gd 7 ⟨?_⟩
 refine Z5 (Z17 m hm p.1) rfl rfl rfl ⟨Z1 _,trivial,trivial⟩ rfl ?_
 generalize m.testBit p.1=b
 cases b
 · refine go ?_
   exact Z6 rfl trivial rfl
 · refine gd 12 ⟨?_⟩
   refine Zq rfl ?_
   refine Z5 (Z17 m hm p.2) rfl rfl rfl ⟨Z1 _,trivial,trivial⟩ rfl ?_
   generalize m.testBit p.2=b
   cases b
   all_goals
    refine go ?_
    exact Z6 rfl trivial rfl
theorem Z9V (m:Nat) (hm:m<18446744073709551616) (x:RI):Spec Tryz.prog 115 [.agg (ruI x),.cp [.vec (words (digs m)) false]] (· = .val (.bool (decide (0≤x.2.2.1)&&m.testBit x.2.2.1.toNat))):=by
 refine Z2 ok115 (Nat.le_of_ble_eq_true rfl) fun C hC=>?_
 refine Zk ?_
 refine Z9 ?_
 refine Z4 rfl rfl rfl ?_
 refine gd 7 ⟨?_⟩
 refine Z5 (Z1p m hm x.2.2.1) rfl rfl rfl ⟨Z1 _,trivial,trivial⟩ rfl ?_
 generalize (decide (0≤x.2.2.1)&&m.testBit x.2.2.1.toNat)=b
 cases b
 all_goals
  refine go ?_
  exact Z6 rfl trivial rfl
theorem Z9W (m:Nat) (hm:m<18446744073709551616) (c:Cu) (hc:Ok64 c):Spec Tryz.prog 117 [.agg (cuC c),.cp [.vec (words (digs m)) false]] (· = .val (.bool (decide (c.1 ||| c.2 ||| m=m)))):=by
 refine Z2 ok117 (Nat.le_of_ble_eq_true rfl) fun C hC=>?_
 refine Zk ?_
 refine Z9 ?_
 refine Z4 rfl rfl rfl ?_
 refine gd 8 ⟨?_⟩
 refine Zz (Z1Q c.1 c.2 hc.1 hc.2) rfl rfl rfl ⟨Z1 _,Z1 _,trivial⟩ ?_
 refine gd 10 ⟨?_⟩
 refine Zz (Z1r (c.1 ||| c.2) m (Z1W hc.1 hc.2) hm) rfl rfl rfl ⟨Z1 _,Z1 _,trivial⟩ ?_
 generalize decide (c.1 ||| c.2 ||| m=m)=b
 cases b
 all_goals
  refine go ?_
  exact Z6 rfl trivial rfl
def knB (m:Nat) (l:List Pr) (s0:Nat) (rs:List RI) (cs:List Cu):Bool:=decide (s0 ||| m=m)&&(l.all (fun p=>m.testBit p.1&&m.testBit p.2)&&(rs.all (fun x=>decide (0≤x.2.2.1)&&m.testBit x.2.2.1.toNat)&&cs.all fun c=>decide (c.1 ||| c.2 ||| m=m)))
structure Fine (l:List Pr) (s0:Nat) (rs:List RI) (nv gl:List Cu):Prop where
 fl:l.length≤10000
 fs:s0<18446744073709551616
 fr:rs.length≤10000
 fv:nv.length≤10000
 fg:gl.length≤10000
 fc:∀ c∈cubI rs nv gl,Ok64 c
set_option maxHeartbeats 2000000 in
theorem Zc2 (n:Nat) (h1:1≤n) (h2:n≤63) (l:List Pr) (S:List Nat) (s0:Nat) (rs:List RI) (nv gl:List Cu) (hf:Fine l s0 rs nv gl):Spec Tryz.prog 80 [.agg (prbI (n:Int) l S s0 rs nv gl)] (· = .val (.bool (knB (mkN n) l s0 rs (cubI rs nv gl)))):=by
 have hp1:2 ^ (n+1)≤2 ^ 64:=Nat.pow_le_pow_right (by decide) (by omega)
 have hp0:=Nat.two_pow_pos (n+1)
 have hmk:=Z3D h2
 have hinc0:IntKind.i64.wrap ((n:Int)+1)=((n+1:Nat):Int):=IntWalk.i64_in _ ⟨by omega,by omega⟩
 have hbw:=Z1D (2 ^ (n+1)-1) (by omega) 0
 rw [Z4k n h2] at hbw
 have hw:=Z1r s0 (mkN n) hf.fs hmk
 have hc1:pureL [PV.vec (words (digs (mkN n))) false]:=⟨Z8 _,trivial⟩
 have hcc:pureL [PV.cp [PV.vec (words (digs (mkN n))) false]]:=⟨hc1,trivial⟩
 have hl:=ZbV l S (by have:=hf.fl;omega)
 have ha1:=ZdD l prC false 114 [.cp [.vec (words (digs (mkN n))) false]] _ (fun _=>rfl) (fun x=>Z3o x) hcc fun p _=>Z9U (mkN n) hmk p
 have ha2:=Z8E rs ruI false 115 [.cp [.vec (words (digs (mkN n))) false]] _ (fun _=>rfl) Z7L hcc fun p _=>Z9V (mkN n) hmk p
 have hcb:=Z6W (n:Int) l S s0 rs nv gl hf.fr hf.fv hf.fg
 have ha3:=ZdE (cubI rs nv gl) cuC false 117 [.cp [.vec (words (digs (mkN n))) false]] _ (fun _=>rfl) Zh hcc fun p hp=>Z9W (mkN n) hmk p (hf.fc p hp)
 have hpp:=Z3a (n:Int) l S s0 rs nv gl
 refine Z2 ok80 (Nat.le_of_ble_eq_true rfl) fun C hC=>?_
 refine Zk ?_
 refine Z9 ?_
 refine Z4 rfl rfl rfl ?_
 refine gd 6 ⟨?_⟩
 refine Zv rfl rfl rfl hinc0 ?_
 refine Z5 (Z4J (n+1) (by omega) (by omega)) rfl rfl rfl ⟨trivial,trivial⟩ rfl ?_
 refine Z5 hbw rfl rfl rfl ⟨Z1 _,trivial,trivial⟩ rfl ?_
 refine gd 9 ⟨?_⟩
 refine Za (Z1o (k:=3) rfl rfl hc1) ?_
 refine gd 12 ⟨?_⟩
 refine Z5 hw rfl rfl rfl ⟨Z1 _,Z1 _,trivial⟩ rfl ?_
 unfold knB
 generalize decide (s0 ||| mkN n=mkN n)=b1
 cases b1
 · refine go ?_
   exact Z6 rfl trivial rfl
 refine gd 16 ⟨?_⟩
 refine Zq rfl ?_
 refine Z5 hl rfl rfl rfl ⟨Zs _ _,trivial⟩ rfl ?_
 refine gd 18 ⟨?_⟩
 refine Zq rfl ?_
 refine Z5 ha1 rfl rfl rfl ⟨Zd l,hcc,trivial⟩ rfl ?_
 generalize (l.all fun p=>(mkN n).testBit p.1&&(mkN n).testBit p.2)=b2
 cases b2
 · refine go ?_
   exact Z6 rfl trivial rfl
 refine gd 24 ⟨?_⟩
 refine Zq rfl ?_
 refine Z5 ha2 rfl rfl rfl ⟨Z2z rs,hcc,trivial⟩ rfl ?_
 generalize (rs.all fun x=>decide (0≤x.2.2.1)&&(mkN n).testBit x.2.2.1.toNat)=b3
 cases b3
 · refine go ?_
   exact Z6 rfl trivial rfl
 refine gd 28 ⟨?_⟩
 refine Zq rfl ?_
 refine Z5 hcb rfl rfl rfl ⟨hpp,trivial⟩ rfl ?_
 refine gd 30 ⟨?_⟩
 refine Zq rfl ?_
 refine Z5 ha3 rfl rfl rfl ⟨Z0 _,hcc,trivial⟩ rfl ?_
 generalize ((cubI rs nv gl).all fun c=>decide (c.1 ||| c.2 ||| mkN n=mkN n))=b4
 cases b4
 all_goals
  refine go ?_
  exact Z6 rfl trivial rfl
def revB (x:RI):Bool := !x.1||(decide (x.2.1.1=0)&&decide (x.2.1.2=0))
theorem Z9X (x:RI) (hc:Ok64 x.2.1):Spec Tryz.prog 78 [.agg (ruI x)] (· = .val (.bool (revB x))):=by
 obtain⟨rv,c,tg,og⟩:=x
 have e1:=Z4C c.1 hc.1
 have e2:=Z4C c.2 hc.2
 unfold revB
 refine Z2 ok78 (Nat.le_of_ble_eq_true rfl) fun C hC=>?_
 refine Zk ?_
 refine Z9 ?_
 refine Z4 rfl rfl rfl ?_
 cases rv
 · refine go ?_
   exact Z6 rfl trivial rfl
 refine gd 10 ⟨?_⟩
 refine Zq rfl ?_
 refine Z5 e1 rfl rfl rfl ⟨Z1 _,trivial⟩ rfl ?_
 dsimp only
 generalize decide (c.1=0)=b1
 cases b1
 · refine go ?_
   exact Z6 rfl trivial rfl
 refine gd 15 ⟨?_⟩
 refine Zq rfl ?_
 refine Z5 e2 rfl rfl rfl ⟨Z1 _,trivial⟩ rfl ?_
 generalize decide (c.2=0)=b2
 cases b2
 all_goals
  refine go ?_
  exact Z6 rfl trivial rfl
set_option maxHeartbeats 1000000 in
theorem Zc3 (n:Int) (l:List Pr) (S:List Nat) (s0:Nat) (rs:List RI) (nv gl:List Cu) (h64:∀ c∈nv,Ok64 c) (s:Nat) (hs:s<18446744073709551616):Spec Tryz.prog 83 [.agg (prbI n l S s0 rs nv gl),setN s] (· = .val (.bool (!soC nv (clo l s)))):=by
 have hc:=Z2l l S s hs
 have hso:=Z1w nv false (clo l s) h64 (Z8o _ _)
 refine Z2 ok83 (Nat.le_of_ble_eq_true rfl) fun C hC=>?_
 refine Zk ?_
 refine Z9 ?_
 refine Z4 rfl rfl rfl ?_
 refine Z4 rfl rfl rfl ?_
 refine gd 14 ⟨?_⟩
 refine Z2t rfl ?_
 refine Zz hc rfl rfl rfl ⟨Zs _ _,Z1 _,trivial⟩ ?_
 refine gd 15 ⟨?_⟩
 refine Z2t rfl ?_
 refine Zz hso rfl rfl rfl ⟨Z16 _,Z1 _,trivial⟩ ?_
 generalize soC nv (clo l s)=b
 cases b
 all_goals
  refine go ?_
  exact Z6 rfl trivial rfl
noncomputable def chkI (n:Int) (l:List Pr) (s0:Nat) (rs:List RI) (nv gl:List Cu):Int :=
 if n<1 ∨ 63<n then 1 else
 if 64<rs.length ∨ 2000<nv.length ∨ 2000<gl.length then 3 else
 if knB (mkN n.toNat) l s0 rs (cubI rs nv gl)=false then 4 else
 if (cubI rs nv gl).any emC=true ∨ rs.all revB=false then 6 else
 if soC nv (clo l s0)=true then 7 else 0
set_option maxHeartbeats 4000000 in
theorem Z3P (n:Int) (l:List Pr) (S:List Nat) (s0:Nat) (rs:List RI) (nv gl:List Cu) (hf:Fine l s0 rs nv gl):Spec Tryz.prog 39 [.agg (prbI n l S s0 rs nv gl)] (· = .val (.int .i64 (chkI n l s0 rs nv gl))):=by
 have hpp:=Z3a n l S s0 rs nv gl
 have hr1:(rs.map ruI).length=rs.length:=by simp
 have hr2:(nv.map cuC).length=nv.length:=by simp
 have hr3:(gl.map cuC).length=gl.length:=by simp
 have hcb:=Z6W n l S s0 rs nv gl hf.fr hf.fv hf.fg
 have hn64:∀ c∈nv,Ok64 c:=fun c hc=>hf.fc c (List.mem_append.2 (.inl (List.mem_append.2 (.inr hc))))
 have hr64:∀ x∈rs,Ok64 x.2.1:=fun x hx=>hf.fc _ (List.mem_append.2 (.inl (List.mem_append.2 (.inl (List.mem_map.2 ⟨x,hx,rfl⟩)))))
 have hce:=Z1F (cubI rs nv gl) cuC false 28 [] emC (fun _=>rfl) Zh trivial fun c hc=>Z12 c (hf.fc c hc)
 have har:=Z8E rs ruI false 78 [] revB (fun _=>rfl) Z7L trivial fun x hx=>Z9X x (hr64 x hx)
 have hgo:=Zc3 n l S s0 rs nv gl hn64 s0 hf.fs
 unfold chkI
 refine Z2 ok39 (Nat.le_of_ble_eq_true rfl) fun C hC=>?_
 refine Zk ?_
 refine Z9 ?_
 refine Z4 rfl rfl rfl ?_
 refine gd 11 ⟨?_⟩
 refine Zq rfl ?_
 by_cases h1:n<1
 · rw [if_pos (.inl h1)]
   refine Z3 (Zb (v:=true) rfl (decide_eq_true h1)) rfl rfl ?_
   refine go ?_
   exact Z6 rfl trivial rfl
 refine Z3 (Zb (v:=false) rfl (decide_eq_false h1)) rfl rfl ?_
 refine gd 16 ⟨?_⟩
 refine Zq rfl ?_
 by_cases h2:63<n
 · rw [if_pos (.inr h2)]
   refine Z3 (Zb (v:=true) rfl (decide_eq_true h2)) rfl rfl ?_
   refine go ?_
   exact Z6 rfl trivial rfl
 refine Z3 (Zb (v:=false) rfl (decide_eq_false h2)) rfl rfl ?_
 rw [if_neg (show ¬ (n<1 ∨ 63<n) by omega)]
 refine gd 22 ⟨?_⟩
 by_cases h3:64<rs.length
 · rw [if_pos (.inl h3)]
   refine Z3 (Zb (v:=true) rfl (decide_eq_true (by rw [hr1];omega))) rfl rfl ?_
   refine go ?_
   exact Z6 rfl trivial rfl
 refine Z3 (Zb (v:=false) rfl (decide_eq_false (by rw [hr1];omega))) rfl rfl ?_
 refine gd 27 ⟨?_⟩
 refine Zq rfl ?_
 by_cases h4:2000<nv.length
 · rw [if_pos (.inr (.inl h4))]
   refine Z3 (Zb (v:=true) rfl (decide_eq_true (by rw [hr2];omega))) rfl rfl ?_
   refine go ?_
   exact Z6 rfl trivial rfl
 refine Z3 (Zb (v:=false) rfl (decide_eq_false (by rw [hr2];omega))) rfl rfl ?_
 refine gd 33 ⟨?_⟩
 refine Zq rfl ?_
 by_cases h5:2000<gl.length
 · rw [if_pos (.inr (.inr h5))]
   refine Z3 (Zb (v:=true) rfl (decide_eq_true (by rw [hr3];omega))) rfl rfl ?_
   refine go ?_
   exact Z6 rfl trivial rfl
 refine Z3 (Zb (v:=false) rfl (decide_eq_false (by rw [hr3];omega))) rfl rfl ?_
 rw [if_neg (show ¬ (64<rs.length ∨ 2000<nv.length ∨ 2000<gl.length) by omega)]
 obtain⟨k,rfl⟩:∃ k:Nat,n=(k:Int):=⟨n.toNat,by omega⟩
 have hkn:=Zc2 k (by omega) (by omega) l S s0 rs nv gl hf
 rw [Int.toNat_natCast]
 refine gd 37 ⟨?_⟩
 refine Z5 hkn rfl rfl rfl ⟨hpp,trivial⟩ rfl ?_
 generalize knB (mkN k) l s0 rs (cubI rs nv gl)=b1
 cases b1
 · rw [if_pos rfl]
   refine go ?_
   exact Z6 rfl trivial rfl
 rw [if_neg (by decide)]
 refine gd 41 ⟨?_⟩
 refine Z5 hcb rfl rfl rfl ⟨hpp,trivial⟩ rfl ?_
 refine Z5 hce rfl rfl rfl ⟨Z0 _,trivial,trivial⟩ rfl ?_
 generalize (cubI rs nv gl).any emC=b2
 cases b2
 case true =>
  rw [if_pos (.inl rfl)]
  refine go ?_
  exact Z6 rfl trivial rfl
 refine gd 47 ⟨?_⟩
 refine Zq rfl ?_
 refine Z5 har rfl rfl rfl ⟨Z2z rs,trivial,trivial⟩ rfl ?_
 generalize rs.all revB=b3
 cases b3
 · rw [if_pos (.inr rfl)]
   refine go ?_
   exact Z6 rfl trivial rfl
 rw [if_neg (by simp)]
 refine gd 54 ⟨?_⟩
 refine Z5 hgo rfl rfl rfl ⟨hpp,Z1 _,trivial⟩ rfl ?_
 generalize soC nv (clo l s0)=b4
 cases b4
 · rw [if_neg (by decide)]
   refine go ?_
   exact Z6 rfl trivial rfl
 · rw [if_pos rfl]
   refine go ?_
   exact Z6 rfl trivial rfl
theorem ZdF {t:PB} (h:PbOk t):Fine t.l t.st (t.rs.map toI) t.nv t.gl:=by
 have h1:=h.rl
 have h2:=h.nl
 have h3:=h.gk
 refine⟨Nat.le_trans (Z7K h.good) (by decide),?_,by rw [List.length_map]; omega,by omega,by omega,fun c hc=>?_⟩
 · have h1 : t.st ≤ mkN t.n := by rw [← h.st]; exact Nat.left_le_or
   have:=Z3D h.n.2
   omega
 · unfold cubI at hc
   rw [List.mem_append,List.mem_append,List.map_map,List.mem_map] at hc
   rcases hc with (⟨x,hx,rfl⟩|hc)|hc
   · exact (h.rs x hx).cu.lt h.n.2
   · exact h.nv64 c hc
   · exact h.gl64 c hc
theorem ZgH {n:Nat} {c:Cu} (h:InC n c):c.1 ||| c.2 ||| mkN n=mkN n:=by rw [Nat.or_assoc,h.n,h.y]
theorem Zb3 {t:PB} (h:PbOk t):∀ c∈cubI (t.rs.map toI) t.nv t.gl,InC t.n c:=fun c hc=>by
 unfold cubI at hc
 rw [List.mem_append,List.mem_append,List.map_map,List.mem_map] at hc
 rcases hc with (⟨x,hx,rfl⟩|hc)|hc
 · exact (h.rs x hx).cu
 · exact (h.nv c hc).1
 · exact (h.gl c hc).1
theorem ZgI {t:PB} (h:PbOk t):chkI t.n t.l t.st (t.rs.map toI) t.nv t.gl=0:=by
 have hn:=h.n
 have h1:=h.rl
 have h2:=h.nl
 have h3:=h.gk
 unfold chkI
 rw [if_neg (by omega),if_neg (by rw [List.length_map];omega),Int.toNat_natCast]
 have hk:knB (mkN t.n) t.l t.st (t.rs.map toI) (cubI (t.rs.map toI) t.nv t.gl)=true:=by
  unfold knB
  rw [decide_eq_true h.st,Bool.true_and,Bool.and_eq_true,Bool.and_eq_true,List.all_eq_true,List.all_eq_true,List.all_eq_true]
  refine⟨fun p hp=>?_,fun x hx=>?_,fun c hc=>decide_eq_true (ZgH (Zb3 h c hc))⟩
  · have ha := h.lk p hp
    have hb:=h.good.role p hp
    rw [Z1I,Z1I,decide_eq_true (show 1≤p.1 by omega),decide_eq_true ha.1,decide_eq_true (show 1≤p.2 by omega),decide_eq_true ha.2.1]; rfl
  · obtain ⟨r, hr, rfl⟩ := List.mem_map.1 hx
    have ht:=(h.rs r hr).tg
    show (decide (0≤(r.tg:Int))&&(mkN t.n).testBit (r.tg:Int).toNat)=true
    rw [Int.toNat_natCast,decide_eq_true (Int.natCast_nonneg _),Z1I,decide_eq_true ht.1,decide_eq_true ht.2.1]; rfl
 rw [hk,if_neg (by decide)]
 have he:(cubI (t.rs.map toI) t.nv t.gl).any emC=false:=Bool.eq_false_iff.2 fun h0=>by
  obtain⟨c,hc,h1⟩:=List.any_eq_true.1 h0
  rw [(Zb3 h c hc).e] at h1; cases h1
 have hr:(t.rs.map toI).all revB=true:=by
  rw [List.all_eq_true]
  intro x hx
  obtain⟨r,hr,rfl⟩:=List.mem_map.1 hx
  unfold revB
  show (!r.rev||(decide (r.cu.1=0)&&decide (r.cu.2=0)))=true
  cases hv:r.rev with
  | false=>rfl
  | true=>rw [(h.rs r hr).rv hv]; rfl
 rw [he,hr,if_neg (by simp),h.sg,if_neg (by decide)]
theorem Z7M {t:PB} (h:PbOk t) (S:List Nat):Spec Tryz.prog 39 [.agg (pbP t S)] (· = .val (.int .i64 0)):=by
 have:=Z3P t.n t.l S t.st (t.rs.map toI) t.nv t.gl (ZdF h)
 rwa [ZgI h,← Zh0] at this
noncomputable def expAll (t:PB) (l:List Cu):List Cu:=l.flatMap (exL t.l t.n)
def splAll (bad l:List Cu):List Cu:=l.flatMap (splL bad)
theorem Z4p {α:Type} {f:α→List Cu} {k:Nat}:∀ {l:List α},(∀ x∈l,(f x).length≤k)→(l.flatMap f).length≤k*l.length
 | [],_=>by simp
 | x :: l, h => by
   rw [List.flatMap_cons,List.length_append,List.length_cons,Nat.mul_succ]
   have h1:=h x (List.mem_cons_self ..)
   have h2:=Z4p (l:=l) fun y hy=>h y (List.mem_cons_of_mem _ hy)
   omega
theorem Z4K {t:PB} (h:PbOk t) (l:List Cu) (hl:∀ c∈l,InC t.n c∧InM 62 c):(expAll t l).length≤64*l.length:=Z4p fun c hc=>(Z6V h (hl c hc).2).2.2.1
theorem Z9Y {l:List Cu} {c:Cu} (hl:∀ b∈l,InM 62 b) (hc:InM 62 c):Dis (splL l c)∧(∀ c'∈splL l c,InM 62 c')∧(splL l c).length≤64:=by
 have h1:=ZdA (m:=62) (by decide) hl hc l.length
 have he:splT l c l.length=splL l c:=by unfold splT splL; rw [List.take_length]
 rw [he] at h1
 exact⟨h1.1,h1.2,Z9L h1.1 h1.2 (by decide)⟩
theorem Z4L {bad:List Cu} (hb:∀ b∈bad,InM 62 b) (l:List Cu) (hl:∀ c∈l,InM 62 c):(splAll bad l).length≤64*l.length:=Z4p fun c hc=>(Z9Y hb (hl c hc)).2.2
set_option maxHeartbeats 2000000 in
theorem Z4X {t:PB} (h:PbOk t) (S:List Nat) (l:List Cu) (fl:Bool) (hl:∀ c∈l,InC t.n c∧InM 62 c) (hlen:l.length≤10000):Spec Tryz.prog 48 [.agg (pbP t S),.vec (l.map cuC) fl] (· = .tup [.vec ((expAll t l).map cuC) false,.val (.int .i64 0)]):=by
 have hnl:(l.map cuC).length=l.length:=by simp
 have hpp:=Z1e t S
 refine Z2 ok48 (Nat.le_of_ble_eq_true rfl) fun C hC=>?_
 refine Zk ?_
 refine Z9 ?_
 refine Z4 rfl rfl rfl ?_
 repeat' (first|refine Za (Zy (k:=6) rfl 2 (by decide)) ?_|(first|refine st ?_|(apply B<;>intro hb<;>try cases hb)))
 refine ZN hC (fun (i:Nat)=>i≤l.length) (fun i=>l.length-i) 1 (fun i => [(2,.cp (pbP t S)),(6,.own 0),(11,.vec (l.map cuC) fl),(12,.val (.int .i64 (l.length:Int))),(13,.val (.int .i64 (i:Int)))])
  (fun i => [(0,⟨2,(expAll t (l.take i)).map cuC⟩)]) (Nat.zero_le _) 0 (Nat.zero_le _) (fun i=>i) (fun _ _=>rfl) Zu
  ⟨⟨_,rfl,.pure _ hpp⟩,⟨_,rfl,.own 0 (by decide)⟩,⟨_,rfl,.pure _ (Z0 _)⟩,⟨_,by rw [← hnl]; rfl,.pure _ trivial⟩,⟨_,rfl,.pure _ trivial⟩,trivial⟩ ⟨⟨by decide,_,rfl,.same _ trivial⟩,trivial⟩ ?_
 intro i hi
 have hinc:IntKind.i64.wrap ((i:Int)+1)=((i+1:Nat):Int):=IntWalk.i64_in _ ⟨by omega,by omega⟩
 iterate 2 (first|refine st ?_|(apply B<;>intro hb<;>try cases hb))
 refine Zj rfl rfl rfl (fun hb=>?_) (fun hb=>?_)
 · have hil : i < l.length := by have := of_decide_eq_true hb; omega
   have htake:=Z1a hil
   clear hb
   have hci:=hl _ (List.getElem_mem hil)
   have hacc:=Z4K h (l.take i) (fun c hc=>hl c (List.mem_of_mem_take hc))
   rw [List.length_take] at hacc
   refine go ?_
   refine Z3 (Zn (xs:=l) (g:=cuC) rfl rfl i rfl hil rfl) rfl rfl ?_
   generalize l[i]=x at htake hci ⊢
   have hone:=(Z6V h hci.2).2.2.1
   have hsn:expAll t (l.take (i+1))=expAll t (l.take i)++exL t.l t.n x:=by rw [htake]; unfold expAll; rw [List.flatMap_append]; simp
   generalize expAll t (l.take i)=acc at hacc hsn ⊢
   refine gd 20 ⟨?_⟩
   refine Z5 (Z4l h S x hci.1 hci.2) rfl rfl rfl ⟨hpp,Zm _,trivial⟩ rfl ?_
   refine gd 28 ⟨?_⟩
   refine ZA (Zp (k:=0) (m:=(exL t.l t.n x).map cuC) (fl:=false) rfl rfl rfl (fun c hc=>by obtain⟨y,_,rfl⟩:=List.mem_map.1 hc; rfl) rfl (by
    show ((acc.map cuC).length+((exL t.l t.n x).map cuC).length)*48≤_
    rw [List.length_map,List.length_map]
    omega)) rfl rfl ?_
   refine go ?_
   refine⟨i+1,mv 0 2,by omega,by omega,fun i hi=>absurd hi (Nat.not_lt_zero i),ZB rfl,
    ⟨⟨_,rfl,.pure _ hpp⟩,⟨_,rfl,.own 0 (by decide)⟩,⟨_,rfl,.pure _ (Z0 _)⟩,⟨_,rfl,.pure _ trivial⟩,⟨_,by show some _=some _; rw [hinc],.pure _ trivial⟩,trivial⟩,
    ⟨⟨by decide,_,rfl,?_⟩,trivial⟩⟩
   show RenB _ _ ⟨2,acc.map cuC++(exL t.l t.n x).map cuC⟩ ⟨2,(expAll t (l.take (i+1))).map cuC⟩
   rw [hsn,List.map_append]
   exact .same _ (by rw [← List.map_append]; exact Z0 _)
 · have hil : i = l.length := by have := of_decide_eq_false hb; omega
   subst hil
   clear hb
   rw [List.take_length]
   repeat' (first|refine Za (Zo (k:=6) rfl rfl (Z0 _)) ?_|(first|refine st ?_|(apply B<;>intro hb<;>try cases hb)))
   exact Z6 rfl ⟨Z0 _,trivial,trivial⟩ rfl
set_option maxHeartbeats 2000000 in
theorem Z64 (bad l:List Cu) (f2 fl:Bool) (hb0:∀ b∈bad,InM 62 b) (hbl:bad.length≤100000) (hl:∀ c∈l,InM 62 c) (hlen:l.length≤10000):Spec Tryz.prog 56 [.vec (l.map cuC) fl,.vec (bad.map cuC) f2] (· = .tup [.vec ((splAll bad l).map cuC) false,.val (.int .i64 0)]):=by
 have hnl:(l.map cuC).length=l.length:=by simp
 refine Z2 ok56 (Nat.le_of_ble_eq_true rfl) fun C hC=>?_
 repeat' (first|refine Za (Zy (k:=6) rfl 2 (by decide)) ?_|(first|refine st ?_|(apply B<;>intro hb<;>try cases hb)))
 refine ZN hC (fun (i:Nat)=>i≤l.length) (fun i=>l.length-i) 1 (fun i => [(1,.vec (bad.map cuC) f2),(6,.own 0),(11,.vec (l.map cuC) fl),(12,.val (.int .i64 (l.length:Int))),(13,.val (.int .i64 (i:Int)))])
  (fun i => [(0,⟨2,(splAll bad (l.take i)).map cuC⟩)]) (Nat.zero_le _) 0 (Nat.zero_le _) (fun i=>i) (fun _ _=>rfl) Zu
  ⟨⟨_,rfl,.pure _ (Z0 _)⟩,⟨_,rfl,.own 0 (by decide)⟩,⟨_,rfl,.pure _ (Z0 _)⟩,⟨_,by rw [← hnl]; rfl,.pure _ trivial⟩,⟨_,rfl,.pure _ trivial⟩,trivial⟩ ⟨⟨by decide,_,rfl,.same _ trivial⟩,trivial⟩ ?_
 intro i hi
 have hinc:IntKind.i64.wrap ((i:Int)+1)=((i+1:Nat):Int):=IntWalk.i64_in _ ⟨by omega,by omega⟩
 iterate 2 (first|refine st ?_|(apply B<;>intro hb<;>try cases hb))
 refine Zj rfl rfl rfl (fun hb=>?_) (fun hb=>?_)
 · have hil : i < l.length := by have := of_decide_eq_true hb; omega
   have htake:=Z1a hil
   clear hb
   have hci:=hl _ (List.getElem_mem hil)
   have hacc:=Z4L hb0 (l.take i) (fun c hc=>hl c (List.mem_of_mem_take hc))
   rw [List.length_take] at hacc
   refine go ?_
   refine Z3 (Zn (xs:=l) (g:=cuC) rfl rfl i rfl hil rfl) rfl rfl ?_
   generalize l[i]=x at htake hci ⊢
   have hone:=(Z9Y hb0 hci).2.2
   have hsn:splAll bad (l.take (i+1))=splAll bad (l.take i)++splL bad x:=by rw [htake]; unfold splAll; rw [List.flatMap_append]; simp
   generalize splAll bad (l.take i)=acc at hacc hsn ⊢
   refine gd 20 ⟨?_⟩
   refine Z5 (ZbX bad f2 x 62 (by decide) hb0 hci hbl) rfl rfl rfl ⟨Zm _,Z0 _,trivial⟩ rfl ?_
   refine gd 28 ⟨?_⟩
   refine ZA (Zp (k:=0) (m:=(splL bad x).map cuC) (fl:=false) rfl rfl rfl (fun c hc=>by obtain⟨y,_,rfl⟩:=List.mem_map.1 hc; rfl) rfl (by
    show ((acc.map cuC).length+((splL bad x).map cuC).length)*48≤_
    rw [List.length_map,List.length_map]
    omega)) rfl rfl ?_
   refine go ?_
   refine⟨i+1,mv 0 2,by omega,by omega,fun i hi=>absurd hi (Nat.not_lt_zero i),ZB rfl,
    ⟨⟨_,rfl,.pure _ (Z0 _)⟩,⟨_,rfl,.own 0 (by decide)⟩,⟨_,rfl,.pure _ (Z0 _)⟩,⟨_,rfl,.pure _ trivial⟩,⟨_,by show some _=some _; rw [hinc],.pure _ trivial⟩,trivial⟩,
    ⟨⟨by decide,_,rfl,?_⟩,trivial⟩⟩
   show RenB _ _ ⟨2,acc.map cuC++(splL bad x).map cuC⟩ ⟨2,(splAll bad (l.take (i+1))).map cuC⟩
   rw [hsn,List.map_append]
   exact .same _ (by rw [← List.map_append]; exact Z0 _)
 · have hil : i = l.length := by have := of_decide_eq_false hb; omega
   subst hil
   clear hb
   rw [List.take_length]
   repeat' (first|refine Za (Zo (k:=6) rfl rfl (Z0 _)) ?_|(first|refine st ?_|(apply B<;>intro hb<;>try cases hb)))
   exact Z6 rfl ⟨Z0 _,trivial,trivial⟩ rfl
theorem even62 {a:Nat} (h:a ||| 62=62):a % 2=0∧a≤62:=by
 have h1:a≤62:=by rw [← h]; exact Nat.left_le_or
 refine⟨?_,h1⟩
 have h2:a.testBit 0=false:=Bool.eq_false_iff.2 fun h0=>by
  have:=orSub.1 h 0 h0
  cases this
 rw [Nat.testBit_zero] at h2
 have:=Nat.mod_lt a (show 0<2 by decide)
 have h3:¬ a % 2=1:=of_decide_eq_false h2
 omega
theorem Zfa {l:List Cu} (hn:l.Nodup) (hl:∀ c∈l,InM 62 c):l.length≤1024:=by
 have hnd:(l.map fun c=>c.1 / 2*32+c.2 / 2).Nodup:=by
  rw [List.nodup_iff_pairwise_ne,List.pairwise_map]
  refine List.Pairwise.imp_of_mem (fun {a b} ha hb hab e=>hab ?_) (List.nodup_iff_pairwise_ne.1 hn)
  have a1:=even62 (hl a ha).1
  have a2:=even62 (hl a ha).2
  have b1:=even62 (hl b hb).1
  have b2:=even62 (hl b hb).2
  exact Prod.ext (by omega) (by omega)
 have:=Z2g 1024 _ hnd fun x hx=>by
  obtain⟨c,hc,rfl⟩:=List.mem_map.1 hx
  have a1:=even62 (hl c hc).1
  have a2:=even62 (hl c hc).2
  show c.1 / 2*32+c.2 / 2<1024
  omega
 rwa [List.length_map] at this
theorem Z2Q {l:List Cu} (hl:∀ c∈l,InM 62 c):∀ c∈l,Ok64 c:=fun c hc=>(hl c hc).lt (by decide)
theorem sim62 {l:List Cu} (hl:∀ c∈l,InM 62 c):(∀ c∈simL l,InM 62 c)∧(simL l).length≤1024:=by
 have h1:∀ c∈simL l,InM 62 c:=fun c hc=>hl c (Z1H hc).1
 exact⟨h1,Zfa (Z3u (Z2Q hl)) h1⟩
theorem Z3b (l:List Cu) (fl:Bool) (hl:∀ c∈l,InM 62 c) (hlen:l.length≤1000000):Spec Tryz.prog 49 [.vec (l.map cuC) fl] (· = .tup [.vec ((simL l).map cuC) false,.val (.int .i64 0)]):=by
 have h1:=(sim62 hl).2
 refine Z2 ok49 (Nat.le_of_ble_eq_true rfl) fun C hC=>?_
 refine gd 5 ⟨?_⟩
 refine Z5 (Z5X l fl (Z2Q hl) hlen) rfl rfl rfl ⟨Z0 _,trivial⟩ rfl ?_
 refine gd 8 ⟨?_⟩
 refine Z3 (Zb (v:=false) rfl (by simp;omega)) rfl rfl ?_
 refine go ?_
 exact Z6 rfl ⟨Z0 _,trivial,trivial⟩ rfl
noncomputable def badL (t:PB):List Cu:=simL (expAll t t.nv)
noncomputable def tgtL (t:PB):List Cu:=simL (splAll (badL t) (expAll t t.gl))
theorem Z1V {t:PB} (h:PbOk t) {l:List Cu} (hl:∀ c∈l,InC t.n c∧InM 62 c):∀ c∈expAll t l,InM 62 c:=fun c hc=>by
 obtain⟨x,hx,hc⟩:=List.mem_flatMap.1 hc
 exact (Z6V h (hl x hx).2).2.2.2 c hc
theorem Z2A {bad l:List Cu} (hb:∀ b∈bad,InM 62 b) (hl:∀ c∈l,InM 62 c):∀ c∈splAll bad l,InM 62 c:=fun c hc=>by
 obtain⟨x,hx,hc⟩:=List.mem_flatMap.1 hc
 exact (Z9Y hb (hl x hx)).2.1 c hc
theorem Z65 {t:PB} (h:PbOk t):(∀ c∈badL t,InM 62 c)∧(badL t).length≤1024:=sim62 (Z1V h h.nv)
theorem ZgJ {t:PB} (h:PbOk t):(∀ c∈tgtL t,InM 62 c)∧(tgtL t).length≤1024:=sim62 (Z2A (Z65 h).1 (Z1V h h.gl))
theorem Z7N {α:Type} (f:α→List Cu) (l:List α) (S:Nat):soC (l.flatMap f) S=l.any fun x=>soC (f x) S:=by unfold soC; exact List.any_flatMap
theorem Z8F {t:PB} (h:PbOk t) {l:List Cu} (hl:∀ c∈l,InC t.n c∧InM 62 c) {S:Nat} (hS:InS t S):soC (expAll t l) S=soC l (clo t.l S):=by
 unfold expAll
 rw [Z7N]
 unfold soC
 rw [Bool.eq_iff_iff,List.any_eq_true,List.any_eq_true]
 exact exists_congr fun c=>and_congr_right fun hc=>by rw [← Zfz h.good.small h.n.2 (hl c hc).1 hS]; rfl
theorem Z8G {bad:List Cu} (hb:∀ b∈bad,InM 62 b) (l:List Cu) (S:Nat):soC (splAll bad l) S=(soC l S && !soC bad S):=by
 unfold splAll
 rw [Z7N]
 induction l with
 | nil=>rfl
 | cons c l ih =>
   rw [List.any_cons,ih,Zga (Z2Q hb),Z2N]
   cases hoC c S<;>cases soC bad S<;>cases soC l S<;>rfl
theorem ZdG {t:PB} (h:PbOk t) {S:Nat} (hS:InS t S):soC (badL t) S = !goodB t S:=by
 unfold badL goodB
 rw [Z5Y (Z2Q (Z1V h h.nv)),Z8F h h.nv hS,Bool.not_not]
theorem ZgK {t:PB} (h:PbOk t) {S:Nat} (hS:InS t S):soC (tgtL t) S=(goodB t S&&reachB t S):=by
 unfold tgtL
 rw [Z5Y (Z2Q (Z2A (Z65 h).1 (Z1V h h.gl))),Z8G (Z65 h).1,Z8F h h.gl hS,ZdG h hS,Bool.not_not,Bool.and_comm]
 rfl
theorem Zb4 {t:PB} (h:PbOk t) (S:List Nat):Spec Tryz.prog 15 [.agg (pbP t S)] (· = .tup [.vec ((badL t).map cuC) false,.val (.int .i64 0)]):=by
 have hpp:=Z1e t S
 have hl:=Z4K h t.nv h.nv
 have hnl:=h.nl
 refine Z2 ok15 (Nat.le_of_ble_eq_true rfl) fun C hC=>?_
 refine Zk ?_
 refine Z9 ?_
 refine Z4 rfl rfl rfl ?_
 refine gd 8 ⟨?_⟩
 refine Z5 (Z7M h S) rfl rfl rfl ⟨hpp,trivial⟩ rfl ?_
 refine gd 16 ⟨?_⟩
 refine Z5 (Z4X h S t.nv false h.nv (by omega)) rfl rfl rfl ⟨hpp,Z0 _,trivial⟩ rfl ?_
 refine gd 23 ⟨?_⟩
 refine Z5 (Z3b (expAll t t.nv) false (Z1V h h.nv) (by omega)) rfl rfl rfl ⟨Z0 _,trivial⟩ rfl ?_
 refine go ?_
 exact Z6 rfl ⟨Z0 _,trivial,trivial⟩ rfl
theorem Z4Y {t:PB} (h:PbOk t) (S:List Nat):Spec Tryz.prog 20 [.agg (pbP t S)] (· = .tup [.vec ((tgtL t).map cuC) false,.val (.int .i64 0)]):=by
 have hpp:=Z1e t S
 have hl:=Z4K h t.gl h.gl
 have hnl:=h.gk
 have hbi:=Z65 h
 have hl2:=Z4L hbi.1 (expAll t t.gl) (Z1V h h.gl)
 refine Z2 ok20 (Nat.le_of_ble_eq_true rfl) fun C hC=>?_
 refine Zk ?_
 refine Z9 ?_
 refine Z4 rfl rfl rfl ?_
 refine gd 9 ⟨?_⟩
 refine Z5 (Zb4 h S) rfl rfl rfl ⟨hpp,trivial⟩ rfl ?_
 refine gd 19 ⟨?_⟩
 refine Z5 (Z4X h S t.gl false h.gl (by omega)) rfl rfl rfl ⟨hpp,Z0 _,trivial⟩ rfl ?_
 refine gd 28 ⟨?_⟩
 refine Z5 (Z64 (badL t) (expAll t t.gl) false false hbi.1 (by omega) (Z1V h h.gl) (by omega)) rfl rfl rfl ⟨Z0 _,Z0 _,trivial⟩ rfl ?_
 refine gd 35 ⟨?_⟩
 refine Z5 (Z3b (splAll (badL t) (expAll t t.gl)) false (Z2A hbi.1 (Z1V h h.gl)) (by omega)) rfl rfl rfl ⟨Z0 _,trivial⟩ rfl ?_
 refine go ?_
 exact Z6 rfl ⟨Z0 _,trivial,trivial⟩ rfl
theorem Z2R {N:Nat} (hN:N<18446744073709551616) {i:Nat} (hi:i<64):withoutN N (i:Int)=minusN N (2 ^ i):=by
 refine Nat.eq_of_testBit_eq fun j=>?_
 rw [Z2U hN,Zx hN (ZM hi),Nat.testBit_two_pow]
 by_cases h:j=i
 · subst h; simp
 · rw [decide_eq_true h,decide_eq_false fun h'=>h h'.symm]; rfl
set_option maxHeartbeats 1000000 in
theorem Z4Z (c:Cu) (hc:Ok64 c) (tg:Nat) (ht:tg<64) (rev:Bool):Spec Tryz.prog 109 [cuP c,.val (.int .i64 (tg:Int)),.val (.bool rev)] (· = .tup [cuP (befC c tg rev),.val (.bool (befB c tg rev))]):=by
 have hw1:=Z1D c.1 hc.1 (tg:Int)
 have hw2:=Z1D c.2 hc.2 (tg:Int)
 rw [Z2R hc.1 ht] at hw1
 rw [Z2R hc.2 ht] at hw2
 have hh1:=Z17 c.1 hc.1 tg
 have hh2:=Z17 c.2 hc.2 tg
 refine Z2 ok109 (Nat.le_of_ble_eq_true rfl) fun C hC=>?_
 refine Zk ?_
 refine Z9 ?_
 refine Z4 rfl rfl rfl ?_
 cases rev
 · refine gd 24 ⟨?_⟩
   refine Zz hw1 rfl rfl rfl ⟨Z1 _,trivial,trivial⟩ ?_
   refine gd 31 ⟨?_⟩
   refine Zz hh2 rfl rfl rfl ⟨Z1 _,trivial,trivial⟩ ?_
   unfold befB
   rw [if_neg (by decide)]
   generalize c.2.testBit tg=b
   cases b
   all_goals
    refine go ?_
    exact Z6 (r:=.tup [cuP (befC c tg false),.val (.bool _)]) rfl ⟨Zm _,trivial,trivial⟩ rfl
 · refine gd 14 ⟨?_⟩
   refine Zz hw2 rfl rfl rfl ⟨Z1 _,trivial,trivial⟩ ?_
   refine gd 19 ⟨?_⟩
   refine Zz hh1 rfl rfl rfl ⟨Z1 _,trivial,trivial⟩ ?_
   unfold befB
   rw [if_pos rfl]
   generalize c.1.testBit tg=b
   cases b
   all_goals
    refine go ?_
    exact Z6 (r:=.tup [cuP (befC c tg true),.val (.bool _)]) rfl ⟨Zm _,trivial,trivial⟩ rfl
def befO (tg:Nat) (rev:Bool) (b:Cu):List Cu:=if befB b tg rev then [befC b tg rev] else []
def aftT (bad:List Cu) (tg:Nat) (rev:Bool) (i:Nat):List Cu:=bad++(bad.take i).flatMap (befO tg rev)
theorem ZdH (bad:List Cu) (tg:Nat) (rev:Bool) {i:Nat} (hi:i<bad.length):aftT bad tg rev (i+1)=aftT bad tg rev i++befO tg rev bad[i]:=by
 unfold aftT
 rw [Z1a hi,List.flatMap_append,← List.append_assoc]
 simp
theorem Zfb (tg:Nat) (rev:Bool) (b:Cu):(befO tg rev b).length≤1:=by unfold befO; split<;>simp
theorem Zb5 (bad:List Cu) (tg:Nat) (rev:Bool) (i:Nat):(aftT bad tg rev i).length≤2*bad.length:=by
 unfold aftT
 rw [List.length_append]
 have:=Z4p (l:=bad.take i) (f:=befO tg rev) (k:=1) fun x _=>Zfb tg rev x
 rw [List.length_take] at this
 omega
noncomputable def aftL (t:PB) (r:RU):List Cu:=aftT (badL t) r.tg r.rev (badL t).length
noncomputable def ifR (t:PB) (r:RU):List PV := [.vec ((exL t.l t.n r.cu).map cuC) false]
noncomputable def afR (t:PB) (r:RU):List PV := [.vec ((aftL t r).map cuC) false]
theorem Z3w (t:PB) (r:RU):pureL (ifR t r):=⟨Z0 _,trivial⟩
theorem Z3x (t:PB) (r:RU):pureL (afR t r):=⟨Z0 _,trivial⟩
noncomputable def srC (t:PB) (S:List Nat):List PV := [.val (.int .i64 (t.n:Int)),hierP t.l S,.vec (words (digs t.st)) false,.vec (t.rs.map ruP) false,.vec (t.nv.map cuC) false,.vec (t.gl.map cuC) false,.vec ((badL t).map cuC) false,.vec (t.rs.map (ifR t)) false,.vec (t.rs.map (afR t)) false]
theorem Z3y (t:PB) (S:List Nat):pureL (srC t S):=⟨trivial,Zs _ _,Z8 _,ZD _,Z0 _,Z0 _,Z0 _,Zf (Z3w t) _,Zf (Z3x t) _,trivial⟩
set_option maxRecDepth 100000 in
set_option maxHeartbeats 8000000 in
theorem Z50 {t:PB} (h:PbOk t) (S:List Nat):Spec Tryz.prog 67 [.agg (pbP t S)] (· = .tup [.cp (srC t S),.val (.int .i64 0)]):=by
 have hpp:=Z1e t S
 have hbi:=Z65 h
 have hrl:=h.rl
 have hnr:(t.rs.map ruP).length=t.rs.length:=by simp
 have hnb:((badL t).map cuC).length=(badL t).length:=by simp
 refine Z2 ok67 (Nat.le_of_ble_eq_true rfl) fun C hC=>?_
 refine Zk ?_
 refine Z9 ?_
 refine Z4 rfl rfl rfl ?_
 refine gd 18 ⟨?_⟩
 refine Z5 (Zb4 h S) rfl rfl rfl ⟨hpp,trivial⟩ rfl ?_
 refine gd 28 ⟨?_⟩
 refine Za (ZK (id:=0) (i0:=0) (j0:=7) rfl (Nat.le_of_ble_eq_true rfl) (Nat.le_of_ble_eq_true rfl) rfl 1 (by decide) (by decide)) ?_
 refine Za (ZK (id:=0) (i0:=0) (j0:=8) rfl (Nat.le_of_ble_eq_true rfl) (Nat.le_of_ble_eq_true rfl) rfl 1 (by decide) (by decide)) ?_
 refine go ?_
 refine ZN hC (fun (i:Nat)=>i≤t.rs.length) (fun i=>t.rs.length-i) 3 (fun i => [(1,.cp (pbP t S)),(4,.vec ((badL t).map cuC) false),(6,.ptr 0 0 0),(29,.vec (t.rs.map ruP) false),(30,.val (.int .i64 (t.rs.length:Int))),(31,.val (.int .i64 (i:Int)))])
  (fun i => [(0,⟨9,[[.val (.int .i64 (t.n:Int)),hierP t.l S,.vec (words (digs t.st)) false,.vec (t.rs.map ruP) false,.vec (t.nv.map cuC) false,.vec (t.gl.map cuC) false,.vec ((badL t).map cuC) false,.own 1,.own 2]]⟩),(1,⟨1,(t.rs.take i).map (ifR t)⟩),(2,⟨1,(t.rs.take i).map (afR t)⟩)]) (Nat.zero_le _) 0 (Nat.zero_le _) (fun i=>i) (fun _ _=>rfl) Zu
  ⟨⟨_,rfl,.pure _ hpp⟩,⟨_,rfl,.pure _ (Z0 _)⟩,⟨_,rfl,.ptr (ρ:=fun i=>i) 0 0 0 (by decide)⟩,⟨_,rfl,.pure _ (ZD _)⟩,⟨_,by rw [← hnr]; rfl,.pure _ trivial⟩,⟨_,rfl,.pure _ trivial⟩,trivial⟩
  ⟨⟨by decide,_,rfl,RenB.single ⟨.pure _ trivial,.pure _ (Zs _ _),.pure _ (Z8 _),.pure _ (ZD _),.pure _ (Z0 _),.pure _ (Z0 _),.pure _ (Z0 _),.own (ρ:=fun i=>i) 1 (by decide),.own (ρ:=fun i=>i) 2 (by decide),trivial⟩ rfl⟩,⟨by decide,_,rfl,.same _ trivial⟩,⟨by decide,_,rfl,.same _ trivial⟩,trivial⟩ ?_
 intro i hi
 have hinc:IntKind.i64.wrap ((i:Int)+1)=((i+1:Nat):Int):=IntWalk.i64_in _ ⟨by omega,by omega⟩
 refine gd 32 ⟨?_⟩
 by_cases hil:i<t.rs.length
 · have htk := Z1a hil
   have hro:=h.rs _ (List.getElem_mem hil)
   have htl:(t.rs.take i).length≤64:=by rw [List.length_take]; omega
   refine Z3 (Zb (v:=true) rfl (decide_eq_true (Int.ofNat_lt.2 hil))) rfl rfl ?_
   refine go ?_
   refine Z3 (Zn (xs:=t.rs) (g:=ruP) rfl rfl i rfl hil rfl) rfl rfl ?_
   generalize t.rs[i]=x at htk hro ⊢
   have hxt:=hro.tg
   generalize t.rs.take i=tk at htk htl ⊢
   refine gd 39 ⟨?_⟩
   refine Z5 (Z4l h S x.cu hro.cu hro.m) rfl rfl rfl ⟨hpp,Zm _,trivial⟩ rfl ?_
   refine gd 45 ⟨?_⟩
   refine Z5s rfl rfl rfl ?_
   iterate 1 (first|refine st ?_|(apply B<;>intro hb<;>try cases hb))
   refine ZA (Zp (k:=4) (m:=(badL t).map cuC) (fl:=false) rfl rfl rfl (fun q hq=>by obtain⟨y,_,rfl⟩:=List.mem_map.1 hq; rfl) rfl (by
    show (0+((badL t).map cuC).length)*48≤_
    rw [List.length_map];omega)) rfl rfl ?_
   refine go ?_
   refine ZN hC (fun (j:Nat)=>j≤(badL t).length) (fun j=>(badL t).length-j) 6 (fun j => [(1,.cp (pbP t S)),(4,.vec ((badL t).map cuC) false),(6,.ptr 0 0 0),(8,.ptr 3 0 0),(9,.vec ((exL t.l t.n x.cu).map cuC) false),(11,.own 5),(29,.vec (t.rs.map ruP) false),(30,.val (.int .i64 (t.rs.length:Int))),(31,.val (.int .i64 (i:Int))),(48,.vec ((badL t).map cuC) false),(49,.val (.int .i64 ((badL t).length:Int))),(50,.val (.int .i64 (j:Int)))])
    (fun j => [(0,⟨9,[[.val (.int .i64 (t.n:Int)),hierP t.l S,.vec (words (digs t.st)) false,.vec (t.rs.map ruP) false,.vec (t.nv.map cuC) false,.vec (t.gl.map cuC) false,.vec ((badL t).map cuC) false,.own 1,.own 2]]⟩),(1,⟨1,tk.map (ifR t)⟩),(2,⟨1,tk.map (afR t)⟩),(3,⟨5,[ruP x]⟩),(5,⟨2,(aftT (badL t) x.tg x.rev j).map cuC⟩)]) (Nat.zero_le _) 0 (Nat.zero_le _) (fun i=>i) (fun _ _=>rfl) Zu
    ⟨⟨_,rfl,.pure _ hpp⟩,⟨_,rfl,.pure _ (Z0 _)⟩,⟨_,rfl,.ptr (ρ:=fun i=>i) 0 0 0 (by decide)⟩,⟨_,rfl,.ptr (ρ:=fun i=>i) 3 0 0 (by decide)⟩,⟨_,rfl,.pure _ (Z0 _)⟩,⟨_,rfl,.own (ρ:=fun i=>i) 5 (by decide)⟩,⟨_,rfl,.pure _ (ZD _)⟩,⟨_,rfl,.pure _ trivial⟩,⟨_,rfl,.pure _ trivial⟩,⟨_,rfl,.pure _ (Z0 _)⟩,⟨_,by rw [← hnb]; rfl,.pure _ trivial⟩,⟨_,rfl,.pure _ trivial⟩,trivial⟩
    ⟨⟨by decide,_,rfl,RenB.single ⟨.pure _ trivial,.pure _ (Zs _ _),.pure _ (Z8 _),.pure _ (ZD _),.pure _ (Z0 _),.pure _ (Z0 _),.pure _ (Z0 _),.own (ρ:=fun i=>i) 1 (by decide),.own (ρ:=fun i=>i) 2 (by decide),trivial⟩ rfl⟩,⟨by decide,_,rfl,.same _ (Zf (Z3w t) _)⟩,⟨by decide,_,rfl,.same _ (Zf (Z3x t) _)⟩,⟨by decide,_,rfl,.same _ ⟨Z5l x,trivial⟩⟩,⟨by decide,_,rfl,by unfold aftT; rw [List.take_zero,List.flatMap_nil,List.append_nil]; exact .same _ (Z0 _)⟩,trivial⟩ ?_
   intro j hj
   have hjnc:IntKind.i64.wrap ((j:Int)+1)=((j+1:Nat):Int):=IntWalk.i64_in _ ⟨by omega,by omega⟩
   have hal:=Zb5 (badL t) x.tg x.rev j
   refine gd 51 ⟨?_⟩
   by_cases hjl:j<(badL t).length
   · have hsn := ZdH (badL t) x.tg x.rev hjl
     have hb64:=Z2Q hbi.1 _ (List.getElem_mem hjl)
     refine Z3 (Zb (v:=true) rfl (decide_eq_true (Int.ofNat_lt.2 hjl))) rfl rfl ?_
     refine go ?_
     refine Z3 (Zn (xs:=badL t) (g:=cuC) rfl rfl j rfl hjl rfl) rfl rfl ?_
     generalize (badL t)[j]=y at hsn hb64 ⊢
     generalize aftT (badL t) x.tg x.rev j=acc at hsn hal ⊢
     refine gd 59 ⟨?_⟩
     refine Z3 rfl rfl rfl ?_
     refine Z5 (Z4Z y hb64 x.tg (by omega) x.rev) rfl rfl rfl ⟨Zm _,trivial,trivial,trivial⟩ rfl ?_
     unfold befO at hsn
     generalize befC y x.tg x.rev=bc at hsn ⊢
     generalize befB y x.tg x.rev=bb at hsn ⊢
     cases bb
     · rw [if_neg (by decide), List.append_nil] at hsn
       refine go ?_
       refine⟨j+1,fun i=>i,hjl,by show (badL t).length-(j+1)<(badL t).length-j; omega,fun _ _=>rfl,Zu,
        ⟨⟨_,rfl,.pure _ hpp⟩,⟨_,rfl,.pure _ (Z0 _)⟩,⟨_,rfl,.ptr (ρ:=fun i=>i) 0 0 0 (by decide)⟩,⟨_,rfl,.ptr (ρ:=fun i=>i) 3 0 0 (by decide)⟩,⟨_,rfl,.pure _ (Z0 _)⟩,⟨_,rfl,.own (ρ:=fun i=>i) 5 (by decide)⟩,⟨_,rfl,.pure _ (ZD _)⟩,⟨_,rfl,.pure _ trivial⟩,⟨_,rfl,.pure _ trivial⟩,⟨_,rfl,.pure _ (Z0 _)⟩,⟨_,rfl,.pure _ trivial⟩,⟨_,by show some _=some _; rw [hjnc],.pure _ trivial⟩,trivial⟩,
        ⟨⟨by decide,_,rfl,RenB.single ⟨.pure _ trivial,.pure _ (Zs _ _),.pure _ (Z8 _),.pure _ (ZD _),.pure _ (Z0 _),.pure _ (Z0 _),.pure _ (Z0 _),.own (ρ:=fun i=>i) 1 (by decide),.own (ρ:=fun i=>i) 2 (by decide),trivial⟩ rfl⟩,⟨by decide,_,rfl,.same _ (Zf (Z3w t) _)⟩,⟨by decide,_,rfl,.same _ (Zf (Z3x t) _)⟩,⟨by decide,_,rfl,.same _ ⟨Z5l x,trivial⟩⟩,⟨by decide,_,rfl,?_⟩,trivial⟩⟩
       rw [hsn]
       exact .same _ (Z0 _)
     · rw [if_pos rfl] at hsn
       refine gd 67 ⟨?_⟩
       refine ZA (Zp (k:=5) (m := [cuC bc]) (fl:=true) rfl rfl rfl (fun q hq=>by rw [List.mem_singleton] at hq; subst hq; rfl) rfl (by
        show ((acc.map cuC).length+1)*48≤_
        rw [List.length_map];omega)) rfl rfl ?_
       refine go ?_
       refine⟨j+1,mv 5 8,hjl,by show (badL t).length-(j+1)<(badL t).length-j; omega,fun i hi=>absurd hi (Nat.not_lt_zero i),ZB rfl,
        ⟨⟨_,rfl,.pure _ hpp⟩,⟨_,rfl,.pure _ (Z0 _)⟩,⟨_,rfl,.ptr (ρ:=mv 5 8) 0 0 0 (by decide)⟩,⟨_,rfl,.ptr (ρ:=mv 5 8) 3 0 0 (by decide)⟩,⟨_,rfl,.pure _ (Z0 _)⟩,⟨_,rfl,.own (ρ:=mv 5 8) 5 (by decide)⟩,⟨_,rfl,.pure _ (ZD _)⟩,⟨_,rfl,.pure _ trivial⟩,⟨_,rfl,.pure _ trivial⟩,⟨_,rfl,.pure _ (Z0 _)⟩,⟨_,rfl,.pure _ trivial⟩,⟨_,by show some _=some _; rw [hjnc],.pure _ trivial⟩,trivial⟩,
        ⟨⟨by decide,_,rfl,RenB.single ⟨.pure _ trivial,.pure _ (Zs _ _),.pure _ (Z8 _),.pure _ (ZD _),.pure _ (Z0 _),.pure _ (Z0 _),.pure _ (Z0 _),.own (ρ:=mv 5 8) 1 (by decide),.own (ρ:=mv 5 8) 2 (by decide),trivial⟩ rfl⟩,⟨by decide,_,rfl,.same _ (Zf (Z3w t) _)⟩,⟨by decide,_,rfl,.same _ (Zf (Z3x t) _)⟩,⟨by decide,_,rfl,.same _ ⟨Z5l x,trivial⟩⟩,⟨by decide,_,rfl,?_⟩,trivial⟩⟩
       show RenB _ _ ⟨2,acc.map cuC ++ [cuC bc]⟩ ⟨2,(aftT (badL t) x.tg x.rev (j+1)).map cuC⟩
       rw [hsn,List.map_append]
       exact .same _ (by show pureLL (acc.map cuC ++ [bc].map cuC); rw [← List.map_append]; exact Z0 _)
   · have hjl : j = (badL t).length := by omega
     subst hjl
     refine Za (Zo (k:=11) rfl rfl (Z0 _)) ?_
     refine Z3 (Zb (v:=false) rfl (decide_eq_false (Int.lt_irrefl _))) rfl rfl ?_
     repeat' (first|refine Z2E [] [(1,256)] [4194303,4194303,4194303,4194303,4194303,4194303,4194303,4194303,4194047,4194303,4194303,4194303,4194303,4194303,4194303,4194303,4194303,4194303,4194303,4194303,4194303,4194303] (by kernel_rfl) ?_|refine Z9e 77 ?_|(first|refine st ?_|(apply B<;>intro hb<;>try cases hb)))
     refine At.mk ?_
     refine Zt (Zp (k:=1) (m := [ifR t x]) (fl:=true) rfl rfl rfl (fun q hq=>by rw [List.mem_singleton] at hq; subst hq; rfl) rfl (by
      show ((tk.map (ifR t)).length+1)*24≤_
      rw [List.length_map];omega)) rfl rfl ?_
     refine gd 84 ⟨?_⟩
     refine Zt (Zp (k:=2) (m := [afR t x]) (fl:=true) rfl rfl rfl (fun q hq=>by rw [List.mem_singleton] at hq; subst hq; rfl) rfl (by
      show ((tk.map (afR t)).length+1)*24≤_
      rw [List.length_map];omega)) rfl rfl ?_
     refine go ?_
     refine⟨i+1,fun i=>mv 1 14 (mv 2 21 i),hil,by show t.rs.length-(i+1)<t.rs.length-i; omega,fun i hi=>absurd hi (Nat.not_lt_zero i),ZB rfl,
      ⟨⟨_,rfl,.pure _ hpp⟩,⟨_,rfl,.pure _ (Z0 _)⟩,⟨_,rfl,.ptr (ρ:=fun i=>mv 1 14 (mv 2 21 i)) 0 0 0 (by decide)⟩,⟨_,rfl,.pure _ (ZD _)⟩,⟨_,rfl,.pure _ trivial⟩,⟨_,by show some _=some _; rw [hinc],.pure _ trivial⟩,trivial⟩,
      ⟨⟨by decide,_,rfl,RenB.single ⟨.pure _ trivial,.pure _ (Zs _ _),.pure _ (Z8 _),.pure _ (ZD _),.pure _ (Z0 _),.pure _ (Z0 _),.pure _ (Z0 _),.own (ρ:=fun i=>mv 1 14 (mv 2 21 i)) 1 (by decide),.own (ρ:=fun i=>mv 1 14 (mv 2 21 i)) 2 (by decide),trivial⟩ rfl⟩,⟨by decide,_,rfl,?_⟩,⟨by decide,_,rfl,?_⟩,trivial⟩⟩
     · show RenB _ _ ⟨1, tk.map (ifR t) ++ [ifR t x]⟩ ⟨1, (t.rs.take (i + 1)).map (ifR t)⟩
       rw [htk,List.map_append]
       exact .same _ (by rw [← List.map_singleton,← List.map_append]; exact Zf (Z3w t) _)
     · show RenB _ _ ⟨1, tk.map (afR t) ++ [afR t x]⟩ ⟨1, (t.rs.take (i + 1)).map (afR t)⟩
       rw [htk,List.map_append]
       exact .same _ (by rw [← List.map_singleton,← List.map_append]; exact Zf (Z3x t) _)
 · have hil : i = t.rs.length := by omega
   subst hil
   rw [List.take_length]
   refine Za (Zl (ob:=0) (id:=1) (i0:=0) (j0:=7) rfl rfl (by decide) (Zf (Z3w t) _) (Nat.le_of_ble_eq_true rfl) (Nat.le_of_ble_eq_true rfl) rfl) ?_
   refine Za (Zl (ob:=0) (id:=2) (i0:=0) (j0:=8) rfl rfl (by decide) (Zf (Z3x t) _) (Nat.le_of_ble_eq_true rfl) (Nat.le_of_ble_eq_true rfl) rfl) ?_
   refine Za (Z1o (k:=6) (l:=srC t S) rfl rfl (Z3y t S)) ?_
   refine Z3 (Zb (v:=false) rfl (decide_eq_false (Int.lt_irrefl _))) rfl rfl ?_
   refine go ?_
   exact Z6 rfl ⟨Z3y t S,trivial,trivial⟩ rfl
theorem Z5n {m a b:Nat} (ha:a<18446744073709551616) (hb:b<18446744073709551616) (h:a ||| m=m):minusN a b ||| m=m:=orSub.2 fun i hi=>by
 rw [Zx ha hb,Bool.and_eq_true] at hi
 exact orSub.1 h i hi.1
theorem Z9Z {c:Cu} (h:InM 62 c) {tg:Nat} (ht:tg<64) (rev:Bool):InM 62 (befC c tg rev):=by
 have h64:=h.lt (by decide)
 have hp:=ZM ht
 unfold befC
 split
 · exact⟨h.1,Z5n h64.2 hp h.2⟩
 · exact⟨Z5n h64.1 hp h.1,h.2⟩
theorem Za0 {c:Cu} (h:InM 62 c) {tg:Nat} (ht:1≤tg∧tg≤5) (rev:Bool):InM 62 (befD c tg rev):=by
 have h1:=Z9Z h (show tg<64 by omega) rev
 have hb:=bit62 ht.1 ht.2
 unfold befD
 split
 · exact Z7I h1 hb
 · exact ZaW h1 hb
theorem ZdI {t:PB} (h:PbOk t) {r:RU} (hr:RuOk t.n r):(∀ c∈aftL t r,InM 62 c)∧(aftL t r).length≤2048:=by
 have hb:=Z65 h
 have ht:=hr.tg
 refine⟨fun c hc=>?_,by have:=Zb5 (badL t) r.tg r.rev (badL t).length; unfold aftL; omega⟩
 unfold aftL aftT at hc
 rcases List.mem_append.1 hc with hc|hc
 · exact hb.1 c hc
 · obtain ⟨x, hx, hc⟩ := List.mem_flatMap.1 hc
   unfold befO at hc
   split at hc
   · rw [List.mem_singleton] at hc; subst hc
     exact Z9Z (hb.1 x (List.mem_of_mem_take hx)) (by omega) _
   · cases hc
def metO (y i:Cu):List Cu:=if (meC y i).2 then [(meC y i).1] else []
def metL (y:Cu) (l:List Cu):List Cu:=l.flatMap (metO y)
theorem ZdJ {a b:Cu} {m:Nat} (ha:InM m a) (hb:InM m b):InM m (bothC a b):=⟨orSub.2 fun i hi=>by
 rw [show (bothC a b).1=a.1 ||| b.1 from rfl,Nat.testBit_or,Bool.or_eq_true] at hi
 exact hi.elim (orSub.1 ha.1 i) (orSub.1 hb.1 i),orSub.2 fun i hi=>by
 rw [show (bothC a b).2=a.2 ||| b.2 from rfl,Nat.testBit_or,Bool.or_eq_true] at hi
 exact hi.elim (orSub.1 ha.2 i) (orSub.1 hb.2 i)⟩
theorem Zgd {y i:Cu} (hy:InM 62 y) (hi:InM 62 i):∀ c∈metO y i,InM 62 c:=fun c hc=>by
 unfold metO meC at hc
 by_cases h:emC (bothC y i)=true
 · rw [if_pos h,if_neg (by decide)] at hc; cases hc
 · rw [if_neg h,if_pos rfl,List.mem_singleton] at hc; subst hc; exact ZdJ hy hi
theorem Zfc (y i:Cu):(metO y i).length≤1:=by unfold metO; split<;>simp
theorem Za1 {y:Cu} (hy:InM 62 y) {l:List Cu} (hl:∀ i∈l,InM 62 i):∀ c∈metL y l,InM 62 c:=fun c hc=>by
 obtain⟨i,hi,hc⟩:=List.mem_flatMap.1 hc
 exact Zgd hy (hl i hi) c hc
theorem Zfd (y:Cu) (l:List Cu):(metL y l).length≤l.length:=by
 have:=Z4p (l:=l) (f:=metO y) (k:=1) fun x _=>Zfc y x
 unfold metL; omega
theorem ZdK (y:Cu) {l:List Cu} {j:Nat} (hj:j<l.length):metL y (l.take (j+1))=metL y (l.take j)++metO y l[j]:=by
 unfold metL
 rw [Z1a hj,List.flatMap_append]; simp
noncomputable def bfL (t:PB) (r:RU) (c:Cu):List Cu:=if befB c r.tg r.rev then simL (splAll (aftL t r) (metL (befD c r.tg r.rev) (exL t.l t.n r.cu))) else []
set_option maxRecDepth 100000 in
set_option maxHeartbeats 8000000 in
theorem Z51 {t:PB} (h:PbOk t) (S:List Nat) (c:Cu) (hc:InM 62 c) (k:Nat) (hk:k<t.rs.length):Spec Tryz.prog 68 [.cp (srC t S),cuP c,.val (.int .i64 (k:Int))] (· = .tup [.vec ((bfL t t.rs[k] c).map cuC) false,.val (.int .i64 0)]):=by
 have hsr:=Z3y t S
 have hro:=h.rs _ (List.getElem_mem hk)
 have hc64:=hc.lt (by decide)
 refine Z2 ok68 (Nat.le_of_ble_eq_true rfl) fun C hC=>?_
 refine Zk ?_
 refine Z9 ?_
 refine Z4 rfl rfl rfl ?_
 refine gd 23 ⟨?_⟩
 refine Z3 (Zn (xs:=t.rs) (g:=ruP) rfl rfl k rfl hk rfl) rfl rfl ?_
 generalize hx:t.rs[k]=x at hro ⊢
 have hxt:=hro.tg
 refine gd 30 ⟨?_⟩
 refine Z3 rfl rfl rfl ?_
 refine Z5 (Z4Z c hc64 x.tg (by omega) x.rev) rfl rfl rfl ⟨Zm _,trivial,trivial,trivial⟩ rfl ?_
 unfold bfL
 cases hbb:befB c x.tg x.rev
 · rw [if_neg (by decide)]
   refine go ?_
   exact Z1b rfl ⟨trivial,trivial,trivial⟩ rfl
 rw [if_pos rfl]
 have hbc:=(Z9Z hc (show x.tg<64 by omega) x.rev).lt (by decide)
 refine gd 34 ⟨?_⟩
 refine Z3 rfl rfl rfl ?_
 iterate 4 (first|refine st ?_|(apply B<;>intro hb<;>try cases hb))
 refine ZcI hC True 2 [(0,.cp (srC t S)),(2,.val (.int .i64 (k:Int))),(9,.ptr 1 0 0)] [(1,⟨2,[cuC (befD c x.tg x.rev)]⟩)] (Nat.zero_le _) ?_ fun _=>?_
 · have hbd : befD c x.tg x.rev = if x.rev then ((befC c x.tg x.rev).1 ||| 2 ^ x.tg, (befC c x.tg x.rev).2) else ((befC c x.tg x.rev).1, (befC c x.tg x.rev).2 ||| 2 ^ x.tg) := rfl
   rw [hbd]
   generalize befC c x.tg x.rev=bc at hbc ⊢
   refine gd 37 ⟨?_⟩
   cases hv:x.rev
   · rw [if_neg (by decide)]
     refine Z3 (Zb (v:=false) rfl hv) rfl rfl ?_
     refine gd 48 ⟨?_⟩
     refine Z5 (Z1x _ hbc.2 x.tg (by omega)) rfl rfl rfl ⟨Z1 _,trivial,trivial⟩ rfl ?_
     refine go ?_
     exact⟨trivial,⟨⟨rfl,Z1f (fun _ h=>h.elim) _ hsr⟩,⟨rfl,trivial⟩,⟨rfl,show (1:Nat)<2 by decide⟩,trivial⟩,⟨by decide,rfl,⟨Zg _ _,Zg _ _,trivial⟩,trivial⟩,trivial⟩
   · rw [if_pos rfl]
     refine Z3 (Zb (v:=true) rfl hv) rfl rfl ?_
     refine gd 42 ⟨?_⟩
     refine Z5 (Z1x _ hbc.1 x.tg (by omega)) rfl rfl rfl ⟨Z1 _,trivial,trivial⟩ rfl ?_
     refine go ?_
     exact⟨trivial,⟨⟨rfl,Z1f (fun _ h=>h.elim) _ hsr⟩,⟨rfl,trivial⟩,⟨rfl,show (1:Nat)<2 by decide⟩,trivial⟩,⟨by decide,rfl,⟨Zg _ _,Zg _ _,trivial⟩,trivial⟩,trivial⟩
 have hy:=Za0 hc ⟨hxt.1,hxt.2.2⟩ x.rev
 generalize befD c x.tg x.rev=y at hy ⊢
 have hy64:=hy.lt (by decide)
 obtain⟨-,-,hel,hei⟩:=Z6V h hro.m
 have haf:=ZdI h hro
 repeat' (first|refine Za (Zy (k:=11) rfl 2 (by decide)) ?_|(first|refine st ?_|(apply B<;>intro hb<;>try cases hb)))
 refine Z3 (Zn (xs:=t.rs) (g:=ifR t) rfl rfl k rfl hk rfl) rfl rfl ?_
 rw [hx]
 refine go ?_
 have hnl:((exL t.l t.n x.cu).map cuC).length=(exL t.l t.n x.cu).length:=by simp
 refine ZN hC (fun (j:Nat)=>j≤(exL t.l t.n x.cu).length) (fun j=>(exL t.l t.n x.cu).length-j) 3 (fun j => [(0,.cp (srC t S)),(2,.val (.int .i64 (k:Int))),(9,.ptr 1 0 0),(11,.own 2),(56,.vec ((exL t.l t.n x.cu).map cuC) false),(57,.val (.int .i64 ((exL t.l t.n x.cu).length:Int))),(58,.val (.int .i64 (j:Int)))])
  (fun j => [(1,⟨2,[cuC y]⟩),(2,⟨2,(metL y ((exL t.l t.n x.cu).take j)).map cuC⟩)]) (Nat.zero_le _) 0 (Nat.zero_le _) (fun i=>i) (fun _ _=>rfl) Zu
  ⟨⟨_,rfl,.pure _ hsr⟩,⟨_,rfl,.pure _ trivial⟩,⟨_,rfl,.ptr (ρ:=fun i=>i) 1 0 0 (by decide)⟩,⟨_,rfl,.own (ρ:=fun i=>i) 2 (by decide)⟩,⟨_,rfl,.pure _ (Z0 _)⟩,⟨_,by rw [← hnl]; rfl,.pure _ trivial⟩,⟨_,rfl,.pure _ trivial⟩,trivial⟩ ⟨⟨by decide,_,rfl,.same _ ⟨Zh y,trivial⟩⟩,⟨by decide,_,rfl,.same _ trivial⟩,trivial⟩ ?_
 intro j hj
 have hinc:IntKind.i64.wrap ((j:Int)+1)=((j+1:Nat):Int):=IntWalk.i64_in _ ⟨by omega,by omega⟩
 have hml:=Zfd y ((exL t.l t.n x.cu).take j)
 rw [List.length_take] at hml
 refine gd 59 ⟨?_⟩
 by_cases hjl:j<(exL t.l t.n x.cu).length
 · have hsn := ZdK y hjl
   have hz:=(hei _ (List.getElem_mem hjl)).lt (by decide)
   refine Z3 (Zb (v:=true) rfl (decide_eq_true (Int.ofNat_lt.2 hjl))) rfl rfl ?_
   refine go ?_
   refine Z3 (Zn (xs:=exL t.l t.n x.cu) (g:=cuC) rfl rfl j rfl hjl rfl) rfl rfl ?_
   generalize (exL t.l t.n x.cu)[j]=z at hsn hz ⊢
   generalize metL y ((exL t.l t.n x.cu).take j)=acc at hsn hml ⊢
   refine gd 65 ⟨?_⟩
   refine Z5 (Z6K y z hy64 hz) rfl rfl rfl ⟨Zm _,Zm _,trivial⟩ rfl ?_
   unfold metO at hsn
   generalize meC y z=mz at hsn ⊢
   obtain⟨mc,mb⟩:=mz
   cases mb
   · have hsn : metL y ((exL t.l t.n x.cu).take (j + 1)) = acc ++ [] := hsn
     rw [List.append_nil] at hsn
     refine go ?_
     refine⟨j+1,fun i=>i,hjl,by show (exL t.l t.n x.cu).length-(j+1)<(exL t.l t.n x.cu).length-j; omega,fun _ _=>rfl,Zu,
      ⟨⟨_,rfl,.pure _ hsr⟩,⟨_,rfl,.pure _ trivial⟩,⟨_,rfl,.ptr (ρ:=fun i=>i) 1 0 0 (by decide)⟩,⟨_,rfl,.own (ρ:=fun i=>i) 2 (by decide)⟩,⟨_,rfl,.pure _ (Z0 _)⟩,⟨_,rfl,.pure _ trivial⟩,⟨_,by show some _=some _; rw [hinc],.pure _ trivial⟩,trivial⟩,⟨⟨by decide,_,rfl,.same _ ⟨Zh y,trivial⟩⟩,⟨by decide,_,rfl,?_⟩,trivial⟩⟩
     rw [hsn]
     exact .same _ (Z0 _)
   · have hsn : metL y ((exL t.l t.n x.cu).take (j + 1)) = acc ++ [mc] := hsn
     refine gd 72 ⟨?_⟩
     refine ZA (Zp (k:=2) (m := [cuC mc]) (fl:=true) rfl rfl rfl (fun q hq=>by rw [List.mem_singleton] at hq; subst hq; rfl) rfl (by
      show ((acc.map cuC).length+1)*48≤_
      rw [List.length_map];omega)) rfl rfl ?_
     refine go ?_
     refine⟨j+1,mv 2 5,hjl,by show (exL t.l t.n x.cu).length-(j+1)<(exL t.l t.n x.cu).length-j; omega,fun i hi=>absurd hi (Nat.not_lt_zero i),ZB rfl,
      ⟨⟨_,rfl,.pure _ hsr⟩,⟨_,rfl,.pure _ trivial⟩,⟨_,rfl,.ptr (ρ:=mv 2 5) 1 0 0 (by decide)⟩,⟨_,rfl,.own (ρ:=mv 2 5) 2 (by decide)⟩,⟨_,rfl,.pure _ (Z0 _)⟩,⟨_,rfl,.pure _ trivial⟩,⟨_,by show some _=some _; rw [hinc],.pure _ trivial⟩,trivial⟩,⟨⟨by decide,_,rfl,.same _ ⟨Zh y,trivial⟩⟩,⟨by decide,_,rfl,?_⟩,trivial⟩⟩
     show RenB _ _ ⟨2,acc.map cuC ++ [cuC mc]⟩ ⟨2,(metL y ((exL t.l t.n x.cu).take (j+1))).map cuC⟩
     rw [hsn,List.map_append]
     exact .same _ (by show pureLL (acc.map cuC ++ [mc].map cuC); rw [← List.map_append]; exact Z0 _)
 · have hjl : j = (exL t.l t.n x.cu).length := by omega
   subst hjl
   rw [List.take_length] at hml ⊢
   have hmi:=Za1 hy hei
   have hsl:=Z4L haf.1 _ hmi
   refine Za (Zo (k:=11) rfl rfl (Z0 _)) ?_
   refine Z3 (Zb (v:=false) rfl (decide_eq_false (Int.lt_irrefl _))) rfl rfl ?_
   refine gd 81 ⟨?_⟩
   refine Z3 (Zn (xs:=t.rs) (g:=afR t) rfl rfl k rfl hk rfl) rfl rfl ?_
   rw [hx]
   refine gd 83 ⟨?_⟩
   refine Z5 (Z64 (aftL t x) _ false false haf.1 (by omega) hmi (by omega)) rfl rfl rfl ⟨Z0 _,Z0 _,trivial⟩ rfl ?_
   refine gd 90 ⟨?_⟩
   refine Z5 (Z3b _ false (Z2A haf.1 hmi) (by omega)) rfl rfl rfl ⟨Z0 _,trivial⟩ rfl ?_
   refine go ?_
   exact Z6 rfl ⟨Z0 _,trivial,trivial⟩ rfl
theorem Zfe (S:Nat):hoC (0,0) S=true:=(Z10 _ _).2 ⟨fun i hi=>by simp at hi,fun i hi=>by simp at hi⟩
theorem Zge (y:Cu) (l:List Cu) (S:Nat):soC (metL y l) S=(hoC y S&&soC l S):=by
 unfold metL
 rw [Z7N]
 induction l with
 | nil=>simp [soC]
 | cons i l ih =>
   rw [List.any_cons,ih,Z2N]
   have e:soC (metO y i) S=(hoC y S&&hoC i S):=by
    unfold metO meC
    by_cases h:emC (bothC y i)=true
    · rw [if_pos h,if_neg (by decide),← Z4G,Z2e h]; rfl
    · rw [if_neg h,if_pos rfl,Z3M,Z4G]
   rw [e]
   cases hoC y S<;>cases hoC i S<;>cases soC l S<;>rfl
theorem ZgL {t:PB} (h:PbOk t) {r:RU} (hr:RuOk t.n r) {S:Nat} (hS:InS t S):soC (aftL t r) S=(!goodB t S || !goodB t (nextR r S)):=by
 have hb:=Z65 h
 have ht:=hr.tg
 have hn:=ZaY ht.1 ht.2.1 h.n.2 hS
 rw [← ZdG h hS,← ZdG h hn]
 unfold aftL aftT
 rw [List.take_length]
 have e:soC (badL t++(badL t).flatMap (befO r.tg r.rev)) S=(soC (badL t) S||soC ((badL t).flatMap (befO r.tg r.rev)) S):=List.any_append
 rw [e,Z7N]
 congr 1
 unfold soC
 rw [Bool.eq_iff_iff,List.any_eq_true,List.any_eq_true]
 refine exists_congr fun b=>and_congr_right fun hbm=>?_
 rw [Zdt (Z2Q hb.1 b hbm) (show r.tg<64 by omega) (hS.lt h.n.2)]
 unfold befO
 cases befB b r.tg r.rev with
 | true=>rw [if_pos rfl,Bool.true_and]; simp [soC]
 | false=>rw [if_neg (by decide),Bool.false_and]; simp [soC]
theorem ZgM {t:PB} (h:PbOk t) {r:RU} (hr:RuOk t.n r) {c:Cu} (hc:InM 62 c) {S:Nat} (hS:InS t S):soC (bfL t r c) S=(goodB t S&&(stepR t r S&&hoC c (nextR r S))):=by
 have ht:=hr.tg
 have hc64:=hc.lt (by decide)
 have hbd:=Zf5 hc64 (show r.tg<64 by omega) (hS.lt h.n.2)
 have hex:=Zfz h.good.small h.n.2 hr.cu hS
 obtain⟨-,-,hel,hei⟩:=Z6V h hr.m
 have haf:=ZdI h hr
 have hrv:(r.rev||hoC r.cu (clo t.l S))=hoC r.cu (clo t.l S):=by
  cases hv:r.rev with
  | false=>rfl
  | true=>rw [hr.rv hv,Zfe]; rfl
 unfold stepR
 rw [hrv]
 unfold bfL
 cases hbb:befB c r.tg r.rev with
 | false =>
   rw [if_neg (by decide)]
   rw [hbb,Bool.false_and] at hbd
   show false=_
   generalize goodB t S=g1
   generalize goodB t (nextR r S)=g2
   generalize hoC r.cu (clo t.l S)=g3
   generalize decide (nextR r S≠S)=g4 at hbd ⊢
   generalize hoC c (nextR r S)=g5 at hbd ⊢
   revert hbd
   cases g1<;>cases g2<;>cases g3<;>cases g4<;>cases g5<;>decide
 | true =>
   rw [if_pos rfl]
   rw [hbb,Bool.true_and] at hbd
   have hyi:=Za0 hc ⟨ht.1,ht.2.2⟩ r.rev
   rw [Z5Y (Z2Q (Z2A haf.1 (Za1 hyi hei))),Z8G haf.1,Zge,hex,ZgL h hr hS,hbd]
   generalize goodB t S=g1
   generalize goodB t (nextR r S)=g2
   generalize hoC r.cu (clo t.l S)=g3
   generalize decide (nextR r S≠S)=g4
   generalize hoC c (nextR r S)=g5
   cases g1<;>cases g2<;>cases g3<;>cases g4<;>cases g5<;>decide
theorem ZgN {t:PB} (h:PbOk t) {r:RU} (hr:RuOk t.n r) {c:Cu} (hc:InM 62 c):(∀ c'∈bfL t r c,InM 62 c'∧emC c'=false)∧(bfL t r c).length≤1024:=by
 have ht:=hr.tg
 obtain⟨-,-,hel,hei⟩:=Z6V h hr.m
 have haf:=ZdI h hr
 have hyi:=Za0 hc ⟨ht.1,ht.2.2⟩ r.rev
 have h2:=sim62 (Z2A haf.1 (Za1 hyi hei))
 unfold bfL
 split
 · exact⟨fun c' hc'=>⟨h2.1 c' hc',(Z1H hc').2⟩,h2.2⟩
 · exact⟨(fun c' hc'=>by cases hc'),by simp⟩
noncomputable def bfV (t:PB) (c:Cu) (k:Int):PV :=
 if h : 0≤k∧k.toNat < t.rs.length then (if (c.1 ||| c.2) < 2 ^ (t.n + 1) then .tup [.vec ((bfL t (t.rs[k.toNat]'h.2) c).map cuC) false,.val (.int .i64 0)] else .tup [.vec [] false,.val (.int .i64 4)]) else .tup [.vec [] false,.val (.int .i64 1)]
theorem Z8H {m k:Nat}:m<2 ^ k↔m ||| (2 ^ k-1)=2 ^ k-1:=by
 constructor
 · intro h
   refine orSub.2 fun i hi=>?_
   rw [Nat.testBit_two_pow_sub_one]
   refine decide_eq_true (Nat.lt_of_not_le fun hk=>?_)
   rw [Nat.testBit_lt_two_pow (Nat.lt_of_lt_of_le h (Nat.pow_le_pow_right (by decide) hk))] at hi
   cases hi
 · intro h
   have:m≤2 ^ k-1:=by rw [← h]; exact Nat.left_le_or
   have:=Nat.two_pow_pos k
   omega
set_option maxRecDepth 100000 in
set_option maxHeartbeats 4000000 in
theorem Z8I {t:PB} (h:PbOk t) (S:List Nat) (c:Cu) (hc:Ok64 c) (h0:(c.1 ||| c.2).testBit 0=false) (h62:(c.1 ||| c.2)<2 ^ (t.n+1)→InM 62 c) (k:Int):Spec Tryz.prog 26 [.agg (pbP t S),cuP c,.val (.int .i64 k)] (· = bfV t c k):=by
 have hpp:=Z1e t S
 have hn:=h.n
 have hrl:(t.rs.map ruP).length=t.rs.length:=by simp
 have hrb:=h.rl
 have hp1:2 ^ (t.n+1)≤2 ^ 64:=Nat.pow_le_pow_right (by decide) (by omega)
 have hp0:=Nat.two_pow_pos (t.n+1)
 have hinc0:IntKind.i64.wrap ((t.n:Int)+1)=((t.n+1:Nat):Int):=IntWalk.i64_in _ ⟨by omega,by omega⟩
 have hm64:=Z1W hc.1 hc.2
 unfold bfV
 refine Z2 ok26 (Nat.le_of_ble_eq_true rfl) fun C hC=>?_
 refine Zk ?_
 refine Z9 ?_
 refine Z4 rfl rfl rfl ?_
 refine Z4 rfl rfl rfl ?_
 refine gd 13 ⟨?_⟩
 refine Z5 (Z7M h S) rfl rfl rfl ⟨hpp,trivial⟩ rfl ?_
 refine gd 18 ⟨?_⟩
 by_cases hk:k<0
 · rw [dif_neg (by omega)]
   refine Z3 (Zb (v:=true) rfl (decide_eq_true hk)) rfl rfl ?_
   refine go ?_
   exact Z1b rfl ⟨trivial,trivial,trivial⟩ rfl
 refine Z3 (Zb (v:=false) rfl (decide_eq_false hk)) rfl rfl ?_
 obtain⟨j,rfl⟩:∃ j:Nat,k=(j:Int):=⟨k.toNat,by omega⟩
 simp only [Int.toNat_natCast]
 refine gd 24 ⟨?_⟩
 refine Zq rfl ?_
 by_cases hj:j<t.rs.length
 case neg =>
  rw [dif_neg (by omega)]
  refine Z3 (Zb (v:=true) rfl (decide_eq_true (by rw [hrl];omega))) rfl rfl ?_
  refine go ?_
  exact Z1b rfl ⟨trivial,trivial,trivial⟩ rfl
 rw [dif_pos ⟨by omega,hj⟩]
 refine Z3 (Zb (v:=false) rfl (decide_eq_false (by rw [hrl];omega))) rfl rfl ?_
 refine gd 30 ⟨?_⟩
 refine Z5 (Z1Q c.1 c.2 hc.1 hc.2) rfl rfl rfl ⟨Z1 _,Z1 _,trivial⟩ rfl ?_
 have hha:=Z1p (c.1 ||| c.2) hm64 0
 rw [show (0:Int).toNat=0 from rfl,h0,Bool.and_false] at hha
 refine gd 32 ⟨?_⟩
 refine Zz hha rfl rfl rfl ⟨Z1 _,trivial,trivial⟩ ?_
 refine gd 37 ⟨?_⟩
 refine Z2t rfl ?_
 refine Zt (Z40 rfl hinc0) rfl rfl ?_
 refine Z2t rfl ?_
 refine Zz (Z4J (t.n+1) (by omega) (by omega)) rfl rfl rfl ⟨trivial,trivial⟩ ?_
 refine Z2t rfl ?_
 refine Zz (Z1r (c.1 ||| c.2) (2 ^ (t.n+1)-1) hm64 (by omega)) rfl rfl rfl ⟨Z1 _,Z1 _,trivial⟩ ?_
 by_cases hw:(c.1 ||| c.2)<2 ^ (t.n+1)
 case neg =>
  rw [if_neg hw,decide_eq_false (fun h=>hw (Z8H.2 h))]
  refine go ?_
  exact Z1b rfl ⟨trivial,trivial,trivial⟩ rfl
 rw [if_pos hw,decide_eq_true (Z8H.1 hw)]
 refine gd 44 ⟨?_⟩
 refine Z5 (Z50 h S) rfl rfl rfl ⟨hpp,trivial⟩ rfl ?_
 refine gd 53 ⟨?_⟩
 refine Z5 (Z51 h S c (h62 hw) j hj) rfl rfl rfl ⟨Z3y t S,Zm _,trivial,trivial⟩ rfl ?_
 refine go ?_
 exact Z6 rfl ⟨Z0 _,trivial,trivial⟩ rfl
end Go.Proofs.YthgklpbcmbmmcaaGreatDoor
namespace Go.Proofs.YthgklpbcmbmmcaaGreatDoor
open Go.RowKit
theorem ZfC {l:List Pr} {n N:Nat}:∀ (rs:List Nat) (x:List Cu),(∀ c∈x,c.1 ||| mkN n=mkN n∧c.2=N)→∀ c∈exF l n rs x,c.1 ||| mkN n=mkN n∧c.2=N
 | [],x,h=>h
 | r :: rs, x, h => ZfC rs _ fun c hc => by
   obtain⟨y,hy,hc⟩:=List.mem_flatMap.1 (Z1H hc).1
   obtain⟨a,ha,rfl⟩:=List.mem_map.1 hc
   refine⟨orSub.2 fun i hi=>?_,(h y hy).2⟩
   rw [Nat.testBit_or,Bool.or_eq_true,Nat.testBit_two_pow,decide_eq_true_eq] at hi
   rcases hi with hi|rfl
   · exact orSub.1 (h y hy).1 i hi
   · have := (List.mem_filter.1 ha).2
     rw [Nat.testBit_and,Bool.and_eq_true] at this
     exact this.2
theorem ZgO {t:PB} (c:Cu):∀ c'∈exL t.l t.n c,InM (mkN t.n) c':=fun c' hc'=>by
 have h1:=ZfC (l:=t.l) (n:=t.n) (mem c.1) [(0,exN t.l t.n (mem c.2))] (fun c hc=>by rw [List.mem_singleton] at hc; subst hc; exact⟨Nat.zero_or _,rfl⟩) c' hc'
 refine⟨h1.1,?_⟩
 rw [h1.2]
 refine orSub.2 fun i hi=>?_
 rcases (Z60 t.l t.n i (mem c.2) 0).1 hi with h2|⟨r,hr',h2,h3⟩
 · simp at h2
 · exact h3
theorem Za2 {m:Nat} {l:List Cu} (hl:∀ c∈l,InM m c):∀ c∈simL l,InM m c:=fun c hc=>hl c (Z1H hc).1
theorem Zgf {m:Nat} {l:List Cu} {c:Cu} (hl:∀ b∈l,InM m b) (hc:InM m c):∀ c'∈splL l c,InM m c':=by
 have main:∀ (l:List Cu),(∀ b∈l,InM m b)→∀ out:List Cu,(∀ c∈out,InM m c)→∀ c∈l.foldl splS out,InM m c:=by
  intro l
  induction l with
  | nil=>exact fun _ out h=>h
  | cons b l ih=>exact fun hl out h=>ih (fun x hx=>hl x (List.mem_cons_of_mem _ hx)) _ (Z9K h (hl b (List.mem_cons_self ..)))
 refine main l hl _ fun c' hc'=>?_
 split at hc'
 · cases hc'
 · rw [List.mem_singleton] at hc'; subst hc'; exact hc
theorem Zb6 {m:Nat} {bad l:List Cu} (hb:∀ b∈bad,InM m b) (hl:∀ c∈l,InM m c):∀ c∈splAll bad l,InM m c:=fun c hc=>by
 obtain⟨x,hx,hc⟩:=List.mem_flatMap.1 hc
 exact Zgf hb (hl x hx) c hc
theorem Zb7 (t:PB) (l:List Cu):∀ c∈expAll t l,InM (mkN t.n) c:=fun c hc=>by
 obtain⟨x,hx,hc⟩:=List.mem_flatMap.1 hc
 exact ZgO x c hc
theorem Zgg (t:PB):∀ c∈badL t,InM (mkN t.n) c:=Za2 (Zb7 t t.nv)
theorem Zh1 (t:PB):∀ c∈tgtL t,InM (mkN t.n) c:=Za2 (Zb6 (Zgg t) (Zb7 t t.gl))
theorem ZfD {m:Nat} {c:Cu} (h:InM m c) (hm:m<18446744073709551616) {tg:Nat} (ht:tg<64) (rev:Bool):InM m (befC c tg rev):=by
 have h64:=h.lt hm
 have hp:=ZM ht
 unfold befC
 split
 · exact⟨h.1,Z5n h64.2 hp h.2⟩
 · exact⟨Z5n h64.1 hp h.1,h.2⟩
theorem Zh4 {t:PB} (h:PbOk t) {r:RU} (hr:RuOk t.n r) {c:Cu} (hc:InM (mkN t.n) c):∀ c'∈bfL t r c,InM (mkN t.n) c':=by
 have ht:=hr.tg
 have hm:=Z3D h.n.2
 have hbit:(mkN t.n).testBit r.tg=true:=by rw [Z1I,decide_eq_true ht.1,decide_eq_true ht.2.1]; rfl
 have h1:=ZfD hc hm (show r.tg<64 by omega) r.rev
 have hy:InM (mkN t.n) (befD c r.tg r.rev):=by
  unfold befD
  split
  · exact Z7I h1 hbit
  · exact ZaW h1 hbit
 have ha:∀ c∈aftL t r,InM (mkN t.n) c:=fun c hc=>by
  unfold aftL aftT at hc
  rcases List.mem_append.1 hc with hc|hc
  · exact Zgg t c hc
  · obtain ⟨x, hx, hc⟩ := List.mem_flatMap.1 hc
    unfold befO at hc
    split at hc
    · rw [List.mem_singleton] at hc; subst hc
      exact ZfD (Zgg t x (List.mem_of_mem_take hx)) hm (by omega) _
    · cases hc
 have hml:∀ c'∈metL (befD c r.tg r.rev) (exL t.l t.n r.cu),InM (mkN t.n) c':=fun c' hc'=>by
  obtain⟨i,hi,hc'⟩:=List.mem_flatMap.1 hc'
  have hi:=ZgO r.cu i hi
  unfold metO meC at hc'
  by_cases h:emC (bothC (befD c r.tg r.rev) i)=true
  · rw [if_pos h,if_neg (by decide)] at hc'; cases hc'
  · rw [if_neg h,if_pos rfl,List.mem_singleton] at hc'; subst hc'; exact ZdJ hy hi
 unfold bfL
 split
 · exact Za2 (Zb6 ha hml)
 · exact fun c' hc'=>by cases hc'
theorem ZdL {m:Nat} {c:Cu} (h:InM m c) (S:Nat):hoC c (S &&& m)=hoC c S:=by
 rw [Bool.eq_iff_iff,Z10,Z10]
 refine and_congr (forall_congr' fun i=>imp_congr_right fun hi=>?_) (forall_congr' fun i=>imp_congr_right fun hi=>?_)
 · rw [Nat.testBit_and,orSub.1 h.1 i hi,Bool.and_true]
 · rw [Nat.testBit_and,orSub.1 h.2 i hi,Bool.and_true]
theorem Zgh {m:Nat} {l:List Cu} (h:∀ c∈l,InM m c) (S:Nat):soC l (S &&& m)=soC l S:=by
 unfold soC
 rw [Bool.eq_iff_iff,List.any_eq_true,List.any_eq_true]
 exact exists_congr fun c=>and_congr_right fun hc=>by rw [ZdL (h c hc)]
theorem Zff (t:PB) (S:Nat):InS t (S &&& mkN t.n):=orSub.2 fun i hi=>by
 rw [Nat.testBit_and,Bool.and_eq_true] at hi
 exact hi.2
abbrev KE:=Cu×Int×Nat
def kcs (ks:List KE):List Cu:=ks.map (·.1)
structure KInv (t:PB) (ks:List KE):Prop where
 mem:∀ e∈ks,InM 62 e.1∧InM (mkN t.n) e.1∧emC e.1=false
 how:∀ i e,ks[i]?=some e→(e.2.1 = -1∧∀ S,InS t S→hoC e.1 S=true→goodB t S=true∧reachB t S=true) ∨
  ∃ (r to:Nat) (x:RU) (e':KE),e.2=((r:Int),to)∧t.rs[r]?=some x∧to<i∧ks[to]?=some e'∧∀ S,InS t S→hoC e.1 S=true→goodB t S=true∧stepR t x S=true∧hoC e'.1 (nextR x S)=true
 ws:∃ ws:List Nat,ws.length=ks.length∧ws.Nodup∧∀ w∈ws,InS t w∧soC (kcs ks) w=true
theorem KInv.nil (t:PB):KInv t []:=⟨fun e he=>(by cases he),fun i e he=>(by simp at he),⟨[],rfl,List.nodup_nil,fun w hw=>(by cases hw)⟩⟩
theorem Z7O {t:PB} {w:Nat} (h:InS t w):w % 2=0∧w / 2<2 ^ t.n:=by
 have h0:w.testBit 0=false:=Bool.eq_false_iff.2 fun h0=>by
  have:=orSub.1 h 0 h0
  rw [Z1I] at this; cases this
 rw [Nat.testBit_zero] at h0
 have h1:¬ w % 2=1:=of_decide_eq_false h0
 have h2:w≤mkN t.n:=by rw [← h]; exact Nat.left_le_or
 unfold mkN at h2
 have:=Nat.two_pow_pos t.n
 omega
theorem KInv.len {t:PB} {ks:List KE} (h:KInv t ks):ks.length≤2 ^ t.n:=by
 obtain⟨ws,h1,h2,h3⟩:=h.ws
 have hnd:(ws.map (· / 2)).Nodup:=by
  rw [List.nodup_iff_pairwise_ne,List.pairwise_map]
  refine List.Pairwise.imp_of_mem (fun {a b} ha hb hab e=>hab ?_) (List.nodup_iff_pairwise_ne.1 h2)
  have x1:=Z7O (h3 a ha).1
  have x2:=Z7O (h3 b hb).1
  omega
 have:=Z2g (2 ^ t.n) _ hnd fun x hx=>by
  obtain⟨w,hw,rfl⟩:=List.mem_map.1 hx
  exact (Z7O (h3 w hw).1).2
 rw [List.length_map] at this
 omega
theorem KInv.c64 {t:PB} {ks:List KE} (h:KInv t ks):∀ c∈kcs ks,Ok64 c:=fun c hc=>by
 obtain⟨e,he,rfl⟩:=List.mem_map.1 hc
 exact (h.mem e he).1.lt (by decide)
theorem Z7P (ks:List KE) (e:KE):kcs (ks ++ [e])=kcs ks ++ [e.1]:=by simp [kcs]
theorem ZdM {a b:List Cu} {S:Nat} (h:soC a S=true):soC (a++b) S=true:=by
 have e:soC (a++b) S=(soC a S||soC b S):=List.any_append
 rw [e,h,Bool.true_or]
theorem KInv.add {t:PB} {ks:List KE} (h:KInv t ks) {e:KE} (hm:InM 62 e.1∧InM (mkN t.n) e.1∧emC e.1=false) (hcov:covL (kcs ks) e.1=false)
 (hh : (e.2.1 = -1 ∧ ∀ S, InS t S → hoC e.1 S = true → goodB t S = true ∧ reachB t S = true) ∨
   ∃ (r to:Nat) (x:RU) (e':KE),e.2=((r:Int),to)∧t.rs[r]?=some x∧ks[to]?=some e'∧∀ S,InS t S→hoC e.1 S=true→goodB t S=true∧stepR t x S=true∧hoC e'.1 (nextR x S)=true):KInv t (ks ++ [e]):=by
 obtain⟨ws,h1,h2,h3⟩:=h.ws
 refine⟨fun x hx=>(List.mem_append.1 hx).elim (h.mem x) fun hx=>by rw [List.mem_singleton] at hx; subst hx; exact hm,fun i x hx=>?_,?_⟩
 · by_cases hi : i < ks.length
   · rw [List.getElem?_append_left hi] at hx
     rcases h.how i x hx with h4|⟨r,to,y,e',h4,h5,h6,h7,h8⟩
     · exact .inl h4
     · exact .inr ⟨r,to,y,e',h4,h5,h6,by rw [List.getElem?_append_left (by omega)]; exact h7,h8⟩
   · have hi2 : i = ks.length := by
      have:=(List.getElem?_eq_some_iff.1 hx).1
      rw [List.length_append,List.length_singleton] at this
      omega
     subst hi2
     rw [List.getElem?_append_right (Nat.le_refl _),Nat.sub_self] at hx
     cases hx
     rcases hh with h4|⟨r,to,y,e',h4,h5,h7,h8⟩
     · exact .inl h4
     · have hlt := (List.getElem?_eq_some_iff.1 h7).1
       exact .inr ⟨r,to,y,e',h4,h5,hlt,by rw [List.getElem?_append_left hlt]; exact h7,h8⟩
 · obtain ⟨S, hS1, hS2⟩ : ∃ S, hoC e.1 S = true ∧ soC (kcs ks) S = false := by
    apply Classical.byContradiction
    intro hn
    have:covL (kcs ks) e.1=true:=(Z7F _ h.c64 _).2 fun S hS=>by
     cases hso:soC (kcs ks) S with
     | true=>rfl
     | false=>exact absurd ⟨S,hS,hso⟩ hn
    rw [hcov] at this; cases this
   have hn:∀ c∈kcs ks,InM (mkN t.n) c:=fun c hc=>by
    obtain⟨e,he,rfl⟩:=List.mem_map.1 hc
    exact (h.mem e he).2.1
   refine⟨ws ++ [S &&& mkN t.n],by rw [List.length_append,List.length_append,h1]; rfl,?_,fun w hw=>?_⟩
   · rw [List.nodup_append]
     refine⟨h2,by simp,fun a ha b hb hab=>?_⟩
     rw [List.mem_singleton] at hb
     subst hb
     subst hab
     have:=(h3 _ ha).2
     rw [Zgh hn,hS2] at this; cases this
   · rw [Z7P]
     rcases List.mem_append.1 hw with hw|hw
     · exact⟨(h3 w hw).1,ZdM (h3 w hw).2⟩
     · rw [List.mem_singleton] at hw; subst hw
       refine⟨Zff t S,?_⟩
       rw [Z5j,ZdL hm.2.1,hS1,Bool.or_true]
inductive Able (t:PB):Nat→Prop
 | base {S:Nat} (hS:InS t S) (hg:goodB t S=true) (hr:reachB t S=true):Able t S
 | step {S:Nat} {x:RU} (hS:InS t S) (hg:goodB t S=true) (hx:x∈t.rs) (hs:stepR t x S=true) (h:Able t (nextR x S)):Able t S
def RunOk (t:PB):Nat→List Nat→Nat→Prop
 | S,[],E=>E=S
 | S,k :: p,E=>∃ x,t.rs[k]?=some x∧stepR t x S=true∧RunOk t (nextR x S) p E
theorem Zc4 {t:PB} {x:RU} {S:Nat} (h:stepR t x S=true):goodB t (nextR x S)=true:=by
 unfold stepR at h
 rw [Bool.and_eq_true,Bool.and_eq_true] at h
 exact h.2.1
theorem Z4q {t:PB} (h:PbOk t) {x:RU} (hx:x∈t.rs) {S:Nat} (hS:InS t S):InS t (nextR x S):=ZaY (h.rs x hx).tg.1 (h.rs x hx).tg.2.1 h.n.2 hS
theorem Z7Q {t:PB} (h:PbOk t):∀ (p:List Nat) {S E:Nat},InS t S→goodB t S=true→RunOk t S p E→reachB t E=true→Able t S
 | [],S,E,hS,hg,hr,he=>by cases hr; exact .base hS hg he
 | k :: p, S, E, hS, hg, ⟨x, hx, hs, hr⟩, he => by
   have hxm:=List.mem_of_getElem? hx
   exact .step hS hg hxm hs (Z7Q h p (Z4q h hxm hS) (Zc4 hs) hr he)
inductive PathK (ks:List KE):Nat→List Nat→Prop
 | stop {i:Nat} {e:KE} (h:ks[i]?=some e) (hr:e.2.1<0):PathK ks i []
 | step {i r to:Nat} {e:KE} {p:List Nat} (h:ks[i]?=some e) (hr:e.2=((r:Int),to)) (hp:PathK ks to p):PathK ks i (r :: p)
theorem Zb8 {t:PB} (h:PbOk t) {ks:List KE} (hk:KInv t ks) {i:Nat} {p:List Nat} (hp:PathK ks i p):∀ {e:KE},ks[i]?=some e→∀ {S:Nat},InS t S→hoC e.1 S=true→goodB t S=true∧∃ E,RunOk t S p E∧reachB t E=true:=by
 induction hp with
 | stop he hr =>
   rename_i i e0
   intro e he' S hS hho
   rw [he] at he'; cases he'
   rcases hk.how _ _ he with h4|⟨r,to,x,e',h4,_⟩
   · exact⟨(h4.2 S hS hho).1,S,rfl,(h4.2 S hS hho).2⟩
   · rw [h4] at hr; simp only at hr; omega
 | step he hr hp ih =>
   rename_i i r to e0 p
   intro e he' S hS hho
   rw [he] at he'; cases he'
   rcases hk.how _ _ he with h4|⟨r',to',x,e',h4,h5,h6,h7,h8⟩
   · rw [hr] at h4; simp only at h4; omega
   · rw [hr] at h4
     obtain⟨h41,h42⟩:=Prod.mk.inj h4
     obtain rfl:r=r':=Int.ofNat.inj h41
     subst h42
     obtain⟨a1,a2,a3⟩:=h8 S hS hho
     have hxm:=List.mem_of_getElem? h5
     obtain⟨b1,E,b2,b3⟩:=ih h7 (Z4q h hxm hS) a3
     exact⟨a1,E,⟨x,h5,a2,b2⟩,b3⟩
theorem KInv.path {t:PB} {ks:List KE} (hk:KInv t ks):∀ (m i:Nat),i<m→i<ks.length→∃ p,PathK ks i p
 | 0,i,h,_=>absurd h (by omega)
 | m + 1, i, h, hi => by
   have he:=List.getElem?_eq_getElem hi
   rcases hk.how i _ he with h4|⟨r,to,x,e',h4,h5,h6,h7,h8⟩
   · exact⟨[],.stop he (by rw [h4.1]; decide)⟩
   · obtain ⟨p, hp⟩ := hk.path m to (by omega) (List.getElem?_eq_some_iff.1 h7).1
     exact⟨r :: p,.step he h4 hp⟩
theorem KInv.able {t:PB} (h:PbOk t) {ks:List KE} (hk:KInv t ks) {S:Nat} (hS:InS t S) (hso:soC (kcs ks) S=true):Able t S:=by
 obtain⟨c,hc,hho⟩:=List.any_eq_true.1 hso
 obtain⟨e,he,rfl⟩:=List.mem_map.1 hc
 obtain⟨i,hi,rfl⟩:=List.mem_iff_getElem.1 he
 obtain⟨p,hp⟩:=hk.path (i+1) i (Nat.lt_succ_self _) hi
 obtain⟨hg,E,h1,h2⟩:=Zb8 h hk hp (List.getElem?_eq_getElem hi) hS hho
 exact Z7Q h p hS hg h1 h2
def Exp1 (t:PB) (c:Cu) (x:RU) (ks:List KE):Prop:=∀ S,InS t S→goodB t S=true→stepR t x S=true→hoC c (nextR x S)=true→soC (kcs ks) S=true
def ExpA (t:PB) (c:Cu) (ks:List KE):Prop:=∀ x∈t.rs,Exp1 t c x ks
def TgtIn (t:PB) (ks:List KE):Prop:=∀ S,InS t S→goodB t S=true→reachB t S=true→soC (kcs ks) S=true
theorem Z7R {ks ks':List KE} (h:ks <+: ks') {S:Nat} (hs:soC (kcs ks) S=true):soC (kcs ks') S=true:=by
 obtain⟨u,rfl⟩:=h
 have:kcs (ks++u)=kcs ks++kcs u:=by simp [kcs]
 rw [this]
 exact ZdM hs
theorem Exp1.pre {t:PB} {c:Cu} {x:RU} {ks ks':List KE} (h:Exp1 t c x ks) (hp:ks <+: ks'):Exp1 t c x ks':=fun S a b d e=>Z7R hp (h S a b d e)
theorem ExpA.pre {t:PB} {c:Cu} {ks ks':List KE} (h:ExpA t c ks) (hp:ks <+: ks'):ExpA t c ks':=fun x hx=>(h x hx).pre hp
theorem TgtIn.pre {t:PB} {ks ks':List KE} (h:TgtIn t ks) (hp:ks <+: ks'):TgtIn t ks':=fun S a b c=>Z7R hp (h S a b c)
theorem Z8J {t:PB} (h:PbOk t) {ks:List KE} (ht:TgtIn t ks) (he:∀ e∈ks,ExpA t e.1 ks) {S:Nat} (ha:Able t S):soC (kcs ks) S=true:=by
 induction ha with
 | base hS hg hr=>exact ht _ hS hg hr
 | step hS hg hx hs _ ih =>
   obtain⟨c,hc,hho⟩:=List.any_eq_true.1 ih
   obtain⟨e,hem,rfl⟩:=List.mem_map.1 hc
   exact he e hem _ hx _ hS hg hs hho
theorem ZgP {t:PB} {ks:List KE} (hk:KInv t ks) {c:Cu} (h:covL (kcs ks) c=true) {S:Nat} (hs:hoC c S=true):soC (kcs ks) S=true:=(Z7F _ hk.c64 _).1 h S hs
inductive Rch (t:PB):Nat→Prop
 | base:Rch t t.st
 | step {S:Nat} {x:RU} (h:Rch t S) (hx:x∈t.rs) (hs:stepR t x S=true):Rch t (nextR x S)
theorem Rch.inS {t:PB} (h:PbOk t) {S:Nat} (hr:Rch t S):InS t S:=by
 induction hr with
 | base=>exact h.st
 | step _ hx _ ih=>exact Z4q h hx ih
theorem PbOk.sgood {t:PB} (h:PbOk t):goodB t t.st=true:=by unfold goodB; rw [h.sg]; rfl
theorem ZdN {t:PB}:∀ (p:List Nat) {S E:Nat},Rch t S→RunOk t S p E→Rch t E
 | [],S,E,h,hr=>by cases hr; exact h
 | k :: p,S,E,h,⟨x,hx,hs,hr⟩=>ZdN p (.step h (List.mem_of_getElem? hx) hs) hr
structure NotFound (t:PB) (ks:List KE):Prop where
 inv:KInv t ks
 tgt:TgtIn t ks
 exp:∀ e∈ks,ExpA t e.1 ks
 no:soC (kcs ks) t.st=false
theorem NotFound.not_able {t:PB} (h:PbOk t) {ks:List KE} (hn:NotFound t ks):¬ Able t t.st:=fun ha=>by
 have:=Z8J h hn.tgt hn.exp ha
 rw [hn.no] at this; cases this
theorem NotFound.able_iff {t:PB} (h:PbOk t) {ks:List KE} (hn:NotFound t ks) {S:Nat} (hS:InS t S):soC (kcs ks) S=true↔Able t S:=⟨hn.inv.able h hS,Z8J h hn.tgt hn.exp⟩
def PlanOk (t:PB) (p:List Nat):Prop:=∃ E,RunOk t t.st p E∧reachB t E=true
theorem PlanOk.able {t:PB} (h:PbOk t) {p:List Nat} (hp:PlanOk t p):Able t t.st:=by
 obtain⟨E,h1,h2⟩:=hp
 exact Z7Q h p h.st h.sgood h1 h2
theorem KInv.plan {t:PB} (h:PbOk t) {ks:List KE} (hk:KInv t ks) {i:Nat} {e:KE} (he:ks[i]?=some e) (hs:hoC e.1 t.st=true) {p:List Nat} (hp:PathK ks i p):PlanOk t p:=by
 obtain⟨_,E,h1,h2⟩:=Zb8 h hk hp he h.st hs
 exact⟨E,h1,h2⟩
theorem Za3 {t:PB} {S E:Nat} (h:RunOk t S [] E):E=S:=h
def inC1 (k:Nat):List PV := [.val (.int .i64 (k:Int))]
def inL (l:List Nat):List (List PV):=l.map inC1
theorem Z2S (l:List Nat):pureLL (inL l):=Zf (enc:=inC1) (fun _=>⟨trivial,trivial⟩) l
theorem Za4 (l:List Nat):(inL l).length=l.length:=by simp [inL]
theorem Zfg (l:List Nat) (k:Nat):inL l ++ [inC1 k]=inL (l ++ [k]):=by simp [inL]
theorem Za5 {α:Type} {out out':List α} (h:out <+: out') {i:Nat} {S:α} (hs:out[i]?=some S):out'[i]?=some S:=by
 obtain⟨u,rfl⟩:=h
 rw [List.getElem?_append_left (List.getElem?_eq_some_iff.1 hs).1]; exact hs
theorem pre_get' {α:Type} {out out':List α} (h:out <+: out') {i:Nat} {S:α} (hs:out'[i]?=some S) (hi:i<out.length):out[i]?=some S:=by
 obtain⟨u,rfl⟩:=h
 rwa [List.getElem?_append_left hi] at hs
end Go.Proofs.YthgklpbcmbmmcaaGreatDoor
namespace Go.Proofs.YthgklpbcmbmmcaaGreatDoor
open Go.RowKit
attribute [local irreducible] aw opsK dK
theorem Zc5 {α:Type} (p:α→Bool) {l:List α} {i:Nat} (hi:i<l.length):(l.take (i+1)).all p=((l.take i).all p&&p l[i]):=by
 rw [List.take_add_one,List.getElem?_eq_getElem hi,List.all_append]
 simp
theorem Za6 {α:Type} (p:α→Bool) {l:List α} {i:Nat} (h:(l.take i).all p=false):l.all p=false:=by
 apply tb2
 intro h2
 rw [List.all_eq_true] at h2
 rw [List.all_eq_false] at h
 obtain⟨x,hx,h3⟩:=h
 exact h3 (h2 x (List.mem_of_mem_take hx))
theorem ZdO {b c:Cu} {l:List Cu} (h1:emC c=false) (h2:emC (bothC c b)=true):covL (b :: l) c=covL l c:=by
 rw [covL,h1,Bool.false_or,if_pos h2]
theorem ZdP {b c:Cu} {l:List Cu} (h1:emC c=false) (h2:emC (bothC c b)=false):covL (b :: l) c=(minC c b).all fun x=>covL l x:=by
 rw [covL,h1,Bool.false_or,if_neg (by rw [h2]; decide)]
set_option maxHeartbeats 4000000 in
theorem Zc6:∀ (m:Nat) (l:List Cu),l.length<m→l.length≤1000000→(∀ c∈l,Ok64 c)→∀ (c:Cu) (fl:Bool),Ok64 c→Spec Tryz.prog 36 [cuP c,.vec (l.map cuC) fl] (· = .val (.bool (covL l c))):=by
 intro m
 induction m with
 | zero=>intro l hm; omega
 | succ m ih =>
   intro l hm hlen hl c fl hc
   have hlp:∀ (l:List Cu) D,innLL D (l.map cuC):=fun i D=>Zi (fun _ h=>h.elim) _ (Zf Zh _)
   refine Z2 ok36 (Nat.le_of_ble_eq_true rfl) fun C hC=>?_
   refine Zk ?_
   refine Z9 ?_
   refine Z4 rfl rfl rfl ?_
   refine go ?_
   refine Z5 (Z12 c hc) rfl rfl rfl ⟨Zm c,trivial⟩ rfl ?_
   cases hec:emC c
   case true =>
    refine go ?_
    have h1:covL l c=true:=by cases l<;>(unfold covL; rw [hec]; try rfl)
    exact Z6 rfl trivial (by rw [h1])
   refine go ?_
   refine ZH hC (fun (x:Nat×Bool)=>x.1≤l.length∧covL l c=covL (l.drop x.1) c) (fun x=>l.length-x.1) 0 (fun x => [(1,.vec ((l.drop x.1).map cuC) x.2),(2,.cp (cuC c))]) (fun _=>[]) (Nat.le_refl _) (0,fl) ⟨Nat.zero_le _,rfl⟩
    ⟨⟨rfl,hlp _ _⟩,⟨rfl,Zg _ _,Zg _ _,trivial⟩,trivial⟩ trivial ?_
   rintro⟨i,fl2⟩ ⟨hi,hcov⟩
   dsimp only at hi hcov ⊢
   have hrest:l.drop (i+1)=(l.drop i).drop 1:=by rw [List.drop_drop]
   have hdl:(l.drop i).length=l.length-i:=List.length_drop
   have hmem:∀ x∈l.drop i,Ok64 x:=fun x hx=>hl x (List.mem_of_mem_drop hx)
   generalize l.drop i=lr at hcov hrest hdl hmem ⊢
   cases lr with
   | nil =>
     refine go ?_
     exact Z6 rfl trivial (by rw [hcov,covL,hec])
   | cons b rest =>
     have hb0:Ok64 b:=hmem b (List.mem_cons_self ..)
     have hro:∀ x∈rest,Ok64 x:=fun x hx=>hmem x (List.mem_cons_of_mem _ hx)
     rw [List.length_cons] at hdl
     rw [List.drop_succ_cons,List.drop_zero] at hrest
     have htd:((b :: rest).take (rest.length+1)).drop 1=rest:=by simp
     iterate 5 (first|refine st ?_|(apply B<;>intro hb<;>try cases hb))
     refine Zt (Zb (v:=true) rfl (by simp; try omega)) rfl rfl ?_
     refine go ?_
     refine Zt (Zn (xs:=b :: rest) (g:=cuC) rfl rfl 0 rfl (Nat.zero_lt_succ _) rfl) rfl rfl ?_
     rw [show (b :: rest)[0]=b from rfl]
     refine go ?_
     refine Zz (Z6J c b hc hb0) rfl rfl rfl ⟨Zm c,Zm b,trivial⟩ ?_
     refine go ?_
     refine Zz (Z12 (bothC c b) (ZaN hc hb0)) rfl rfl rfl ⟨Zm _,trivial⟩ ?_
     cases hm2:emC (bothC c b)
     case true =>
      refine go ?_
      refine Z3 (Zen (xs:=b :: rest) (g:=cuC) rfl 1 (rest.length+1) rfl (by show some _=some _; simp) (by omega) (by simp) (fun _=>rfl)) rfl rfl ?_
      rw [htd]
      refine go ?_
      exact⟨(i+1,false),⟨by show i+1≤_; omega,by show _=covL (l.drop (i+1)) c; rw [hcov,hrest,ZdO hec hm2]⟩,by show _-(i+1)<_-i; omega,⟨⟨by show _=some (PV.vec ((l.drop (i+1)).map cuC) false); rw [hrest]; rfl,hlp _ _⟩,⟨rfl,Zg _ _,Zg _ _,trivial⟩,trivial⟩,trivial⟩
     have hst:=ZdP (l:=rest) hec hm2
     rw [← hcov] at hst
     iterate 14 (first|refine st ?_|(apply B<;>intro hb<;>try cases hb))
     refine go ?_
     refine Zt (Zn (xs:=b :: rest) (g:=cuC) rfl rfl 0 rfl (Nat.zero_lt_succ _) rfl) rfl rfl ?_
     rw [show (b :: rest)[0]=b from rfl]
     refine go ?_
     refine Zz (Z6U c b hc hb0) rfl rfl rfl ⟨Zm c,Zm b,trivial⟩ ?_
     have hml:=ZaS c b hc
     have hmo:=Zg5 (b:=b) hc
     generalize minC c b=ms at hst hml hmo ⊢
     have hmll:(ms.map cuC).length=ms.length:=by simp
     refine go ?_
     refine ZH hC (fun j=>j≤ms.length∧((ms.take j).all fun x=>covL rest x)=true) (fun j=>ms.length-j) 0 (fun j => [(1,.vec ((b :: rest).map cuC) fl2),(29,.vec (ms.map cuC) false),(30,.val (.int .i64 ms.length)),(31,.val (.int .i64 (j:Int)))]) (fun _=>[]) (Nat.zero_le _) 0 ⟨Nat.zero_le _,rfl⟩
      ⟨⟨rfl,hlp _ _⟩,⟨rfl,hlp _ _⟩,⟨by rw [← hmll]; rfl,trivial⟩,⟨rfl,trivial⟩,trivial⟩ trivial ?_
     rintro j ⟨hj,hall⟩
     have hinc:IntKind.i64.wrap ((j:Int)+1)=((j+1:Nat):Int):=IntWalk.i64_in _ ⟨by omega,by omega⟩
     iterate 2 (first|refine st ?_|(apply B<;>intro hb<;>try cases hb))
     refine Zj rfl rfl rfl (fun hb=>?_) (fun hb=>?_)
     · have hjl : j < ms.length := by have := of_decide_eq_true hb; omega
       have hxo:=hmo _ (List.getElem_mem hjl)
       have hsx:=Zc5 (fun x=>covL rest x) hjl
       rw [hall,Bool.true_and] at hsx
       clear hb
       refine go ?_
       refine Z3 (Zn (xs:=ms) (g:=cuC) rfl rfl j rfl hjl rfl) rfl rfl ?_
       refine go ?_
       refine Zt (Zen (xs:=b :: rest) (g:=cuC) rfl 1 (rest.length+1) rfl (by show some _=some _; simp) (by omega) (by simp) (fun _=>rfl)) rfl rfl ?_
       rw [htd]
       refine go ?_
       refine Zz (ih rest (by omega) (by omega) hro ms[j] false hxo) rfl rfl rfl ⟨Zm _,Zf Zh _,trivial⟩ ?_
       generalize covL rest ms[j]=v at hsx
       cases v
       · refine go ?_
         exact Z6 rfl trivial (by rw [hst,Za6 _ hsx])
       · refine go ?_
         exact⟨j+1,⟨by omega,hsx⟩,by omega,⟨⟨rfl,hlp _ _⟩,⟨rfl,hlp _ _⟩,⟨rfl,trivial⟩,⟨by show some _=some _; rw [hinc],trivial⟩,trivial⟩,trivial⟩
     · have hjl : j = ms.length := by have := of_decide_eq_false hb; omega
       subst hjl
       rw [List.take_length] at hall
       clear hb
       refine go ?_
       exact Z6 rfl trivial (by rw [hst,hall])
end Go.Proofs.YthgklpbcmbmmcaaGreatDoor
namespace Go.Proofs.YthgklpbcmbmmcaaGreatDoor
open Go.RowKit
def kidB (q:List PV) (i j:Nat):Bx:=⟨q.length+2,[.own i :: .own j :: q]⟩
section
variable {P:Program} {C:Ctx} {Fr:Nat→Prop} {e:Env} {h:Heap} {n:Nat} {F:Froz} {φ:Locs} {a:Act} {w:World}
theorem Z8K {φ':Locs} {v:Value} {i i':Nat} (hi:φ i=φ' i') (hr:Rep F φ v (.own i)):Rep F φ' v (.own i'):=Z27 F φ φ' v i i' hi hr
theorem ObAt.kid {φ':Locs} {loc:Loc} {q:List PV} {i j i' j':Nat} (h2:ObAt F φ w loc (kidB q i j)) (hi:φ i=φ' i') (hj:φ j=φ' j') (hq:pureL q):ObAt F φ' w loc (kidB q i' j'):=by
 have h2:=h2.cellsB (show 0<q.length+2 by omega)
 refine .inl ⟨h2.esz,h2.pos,h2.len,h2.cap,h2.max,fun c hc=>?_,fun hc=>?_⟩
 · have hc : c ∈ [PV.own i' :: .own j' :: q] := hc
   rw [List.mem_singleton] at hc
   subst hc
   rw [← h2.esz]; rfl
 · obtain ⟨x, hx, hs, cells, t, hg, hsz, hrep⟩ := h2.room hc
   refine⟨x,hx,hs,cells,t,hg,hsz,fun a b ha hb=>⟨(hrep a b ha hb).1,?_⟩⟩
   have hr:=(hrep a b ha hb).2
   have hl:loc.len=1:=by rw [← h2.len]; rfl
   obtain rfl:a=0:=by omega
   match b,hr with
   | 0,hr=>exact Z8K hi hr
   | 1,hr=>exact Z8K hj hr
   | b+2,hr=>exact Rep.pure (p:=q.getD b pvu) hr (ZE hq b)
def K2Spec (P:Program) (f:FuncId) (pre post q:List PV) (b1 b2:Bx) (R:PV→Bx→Bx→Prop):Prop :=
 ISpec P f 3 (pre++.ptr 0 0 0 :: post) (heapL [(0,kidB q 1 2),(1,b1),(2,b2)]) fun n' r h'=>∃ j1 j2 b1' b2',j1≠j2∧j1≠0∧j2≠0∧h' 0=some (kidB q j1 j2)∧h' j1=some b1'∧h' j2=some b2'∧r.pure∧pureLL b1'.elems∧pureLL b2'.elems∧R r b1' b2'
theorem Zc7 {F:Froz} {φ φ':Locs} {vs:Array Value} {pre post:List PV} {p p':PV} (hpre:pureL pre) (hpost:pureL post) (hp:∀ v,Rep F φ v p→Rep F φ' v p') (hv:RepL F φ vs (pre++p :: post)):RepL F φ' vs (pre++p' :: post):=by
 refine⟨by rw [hv.1]; simp,fun i hi=>?_⟩
 have hr:=hv.2 i (by simp at hi ⊢; exact hi)
 by_cases h1:i<pre.length
 · have e1 : (pre ++ p :: post).getD i pvu = pre.getD i pvu := by simp [List.getD_eq_getElem?_getD, List.getElem?_append_left h1]
   have e2:(pre++p' :: post).getD i pvu=pre.getD i pvu:=by simp [List.getD_eq_getElem?_getD,List.getElem?_append_left h1]
   rw [e1] at hr; rw [e2]
   exact hr.pure (ZE hpre i)
 · have e1 : (pre ++ p :: post).getD i pvu = (p :: post).getD (i - pre.length) pvu := by simp [List.getD_eq_getElem?_getD, List.getElem?_append_right (Nat.le_of_not_lt h1)]
   have e2:(pre++p' :: post).getD i pvu=(p' :: post).getD (i-pre.length) pvu:=by simp [List.getD_eq_getElem?_getD,List.getElem?_append_right (Nat.le_of_not_lt h1)]
   rw [e1] at hr; rw [e2]
   match hk:i-pre.length,hr with
   | 0,hr=>exact hp _ hr
   | k+1,hr=>exact Rep.pure (p:=post.getD k pvu) hr (ZE hpost k)
theorem K2Spec.run {f:FuncId} {pre post q:List PV} {b1 b2:Bx} {R:PV→Bx→Bx→Prop} (hs:K2Spec P f pre post q b1 b2 R) (hpre:pureL pre) (hpost:pureL post) (hq:pureL q) (hp1:pureLL b1.elems) (hp2:pureLL b2.elems) {k i j n:Nat} (hn:Fr n) (hn1:Fr (n+1)) (hk:h k=some (kidB q i j)) (hi:h i=some b1) (hj:h j=some b2) (hij:i≠j) (hik:i≠k) (hjk:j≠k)
 (s:St' C Fr e h F φ a w) {vs:Array Value} (hv:RepL F φ vs (pre++.ptr k 0 0 :: post)) :
 Calls P f vs w fun en w'=>∃ v r b1' b2' F' φ',en=.returned v∧(r.pure∧pureLL b1'.elems∧pureLL b2'.elems∧R r b1' b2')∧Rep F' φ' v r∧St' C (fun x=>Fr x∧x≠n∧x≠n+1) e (((((h.del i).del j).upd k (kidB q n (n+1))).upd n b1').upd (n+1) b2') F' φ' a w':=by
 obtain⟨lk,hlk,hbk,hhk⟩:=s.live k _ hk
 obtain⟨li,hli,hbi,hhi⟩:=s.live i _ hi
 obtain⟨lj,hlj,hbj,hhj⟩:=s.live j _ hj
 let φ1:Locs:=fun x=>if x=0 then some lk else if x=1 then some li else if x=2 then some lj else none
 let C1:Ctx:=⟨w,fun g=>lk.has g ∨ li.has g ∨ lj.has g,F,C.nt,φ1⟩
 have hφn:φ n=none:=s.free n hn
 have hφn1:φ (n+1)=none:=s.free _ hn1
 have hnone:∀ {x:Nat} {bx:Bx},h x=some bx→x≠n∧x≠n+1:=by
  intro x bx hx
  obtain⟨loc,h1,_⟩:=s.live x bx hx
  exact⟨fun e=>(by rw [e,hφn] at h1; cases h1),fun e=>(by rw [e,hφn1] at h1; cases h1)⟩
 have hG:∀ g,C1.G g→C.w0.heap.size≤g ∨ C.G g:=fun g hg=>hg.elim (fun h=>(hhk g h).1) fun hg=>hg.elim (fun h=>(hhi g h).1) fun h=>(hhj g h).1
 have hth:∀ {loc:Loc} {b:Bx} {g:Nat},ObAt F φ w loc b→loc.has g→∀ o:Obj,w.heap[g]?=some o→¬ o=.deferred (some []):=by
  rintro loc b g hb hg o ho rfl
  rcases hb.there hg with⟨cells,t,hg⟩|⟨es,t,hg⟩
  · rw [hg] at ho; cases ho
  · rw [hg] at ho; cases ho
 have hcells:∀ g,C1.G g→∀ o:Obj,w.heap[g]?=some o→¬ o=.deferred (some []):=fun g hg=>hg.elim (hth hbk) fun hg=>hg.elim (hth hbi) (hth hbj)
 have h0:∀ {x:Nat} {b0:Bx},(heapL [(0,kidB q 1 2),(1,b1),(2,b2)]) x=some b0→(x=0∧b0=kidB q 1 2) ∨ (x=1∧b0=b1) ∨ (x=2∧b0=b2):=by
  intro x b0 hx
  have:=Z1v hx
  simp only [List.mem_cons,Prod.mk.injEq,List.not_mem_nil,or_false] at this
  exact this
 have s1:St' C1 (fun x=>3≤x) (fun _=>none) (heapL [(0,kidB q 1 2),(1,b1),(2,b2)]) F φ1 { a with defers := [] } w:=by
  refine { nt:=s.nt,glob:=s.glob,marks:=Marks.nil rfl,loc0:=fun i x hx=>hx,free:=fun i hi=>?_,env:=fun j p hp=>(by cases hp),froz:=s.froz,ext:=fun _ _ h=>h,old:=fun _ _ _=>rfl,os:=rfl,tape:=rfl,output:=rfl,size:=Nat.le_refl _,kept:=fun _ _ _=>rfl,live:=fun x b0 hx=>?_,sep:=fun x y bx bY lx ly g hx hy hlx hly hgx hgy=>?_ }
  · simp only [φ1]; rw [if_neg (by omega),if_neg (by omega),if_neg (by omega)]
  · rcases h0 hx with ⟨rfl, rfl⟩ | ⟨rfl, rfl⟩ | ⟨rfl, rfl⟩
    · exact⟨lk,rfl,hbk.kid (by rw [hli]; rfl) (by rw [hlj]; rfl) hq,fun g hg=>⟨.inr (.inl hg),(hhk g hg).2⟩⟩
    · exact⟨li,rfl,hbi.names hp1,fun g hg=>⟨.inr (.inr (.inl hg)),(hhi g hg).2⟩⟩
    · exact⟨lj,rfl,hbj.names hp2,fun g hg=>⟨.inr (.inr (.inr hg)),(hhj g hg).2⟩⟩
  · rcases h0 hx with ⟨rfl, rfl⟩ | ⟨rfl, rfl⟩ | ⟨rfl, rfl⟩ <;> rcases h0 hy with ⟨rfl, rfl⟩ | ⟨rfl, rfl⟩ | ⟨rfl, rfl⟩ <;> first | rfl | skip
    all_goals
     obtain rfl:=Option.some.inj hlx
     obtain rfl:=Option.some.inj hly
     exfalso
    · exact hik (s.sep k i _ _ _ _ g hk hi hlk hli hgx hgy).symm
    · exact hjk (s.sep k j _ _ _ _ g hk hj hlk hlj hgx hgy).symm
    · exact hik (s.sep i k _ _ _ _ g hi hk hli hlk hgx hgy)
    · exact hij (s.sep i j _ _ _ _ g hi hj hli hlj hgx hgy)
    · exact hjk (s.sep j k _ _ _ _ g hj hk hlj hlk hgx hgy)
    · exact hij (s.sep j i _ _ _ _ g hj hi hlj hli hgx hgy).symm
 have hv1:RepL F φ1 vs (pre++.ptr 0 0 0 :: post):=Zc7 hpre hpost (fun v hr=>by
  obtain⟨loc',x,g1,gz,g2,g3,g4⟩:=hr.ptr_inv
  obtain rfl:loc'=lk:=by rw [hlk] at g1; simpa using g1.symm
  rw [g4]
  exact .ptr 0 0 0 loc' x rfl gz g2 g3) hv
 refine (hs.2 C1 _ F φ1 { a with defers := [] } w vs s1 hv1).mono ?_
 rintro en w' ⟨v,r,n',h',F',φ',rfl,⟨j1,j2,b1',b2',hj12,hj10,hj20,hh0,hh1,hh2,hrp,hp1',hp2',hR⟩,hvr,s'⟩
 obtain⟨l0,m01,m02,m03⟩:=s'.live 0 _ hh0
 obtain⟨l1,m11,m12,m13⟩:=s'.live j1 _ hh1
 obtain⟨l2,m21,m22,m23⟩:=s'.live j2 _ hh2
 obtain rfl:l0=lk:=by
  have:=s'.loc0 0 lk rfl
  rw [m01] at this; exact Option.some.inj this
 let φ2:Locs:=fun x=>if x=n then some l1 else if x=n+1 then some l2 else φ x
 have hφ2:φ2 n=some l1:=by simp [φ2]
 have hφ21:φ2 (n+1)=some l2:=by show (if n+1=n then some l1 else if n+1=n+1 then some l2 else φ (n+1))=some l2; rw [if_neg (by omega),if_pos rfl]
 have hφ3:∀ {x:Nat},x≠n→x≠n+1→φ2 x=φ x:=fun {x} h1 h2=>by simp only [φ2]; rw [if_neg h1,if_neg h2]
 have hφ4:∀ x y,φ x=some y→φ2 x=some y:=fun x y hx=>by
  rw [hφ3 (fun e=>by rw [e,hφn] at hx; cases hx) fun e=>by rw [e,hφn1] at hx; cases hx]; exact hx
 have hkn:=hnone hk
 have src:∀ {x:Nat} {bx:Bx},(((((h.del i).del j).upd k (kidB q n (n+1))).upd n b1').upd (n+1) b2') x=some bx →
  (x=n+1∧bx=b2') ∨ (x=n∧bx=b1') ∨ (x=k∧bx=kidB q n (n+1)) ∨ (x≠k∧x≠i∧x≠j∧h x=some bx):=by
  intro x bx hx
  by_cases e1:x=n+1
  · subst e1; rw [Heap.upd_same] at hx; exact .inl ⟨rfl,(Option.some.inj hx).symm⟩
  rw [Heap.upd_ne _ _ e1] at hx
  by_cases e2:x=n
  · subst e2; rw [Heap.upd_same] at hx; exact .inr (.inl ⟨rfl,(Option.some.inj hx).symm⟩)
  rw [Heap.upd_ne _ _ e2] at hx
  by_cases e3:x=k
  · subst e3; rw [Heap.upd_same] at hx; exact .inr (.inr (.inl ⟨rfl,(Option.some.inj hx).symm⟩))
  rw [Heap.upd_ne _ _ e3] at hx
  obtain⟨e4,hx⟩:=Heap.del_some hx
  obtain⟨e5,hx⟩:=Heap.del_some hx
  exact .inr (.inr (.inr ⟨e3,e5,e4,hx⟩))
 have hold:∀ {x:Nat} {bx:Bx} {lx:Loc} {g:Nat},x≠k→x≠i→x≠j→h x=some bx→φ x=some lx→lx.has g→¬ C1.G g:=by
  intro x bx lx g h1 h2 h3 hx hlx hg hG
  rcases hG with hg' | hg' | hg'
  · exact h1 (s.sep x k _ _ _ _ g hx hk hlx hlk hg hg')
  · exact h2 (s.sep x i _ _ _ _ g hx hi hlx hli hg hg')
  · exact h3 (s.sep x j _ _ _ _ g hx hj hlx hlj hg hg')
 have hnew:∀ {lx:Loc} {g:Nat},(w.heap.size≤g ∨ C1.G g)→C.w0.heap.size≤g ∨ C.G g:=fun {lx g} h1=>h1.elim (fun h1=>.inl (Nat.le_trans s.size h1)) (hG g)
 refine⟨v,r,b1',b2',F',φ2,rfl,⟨hrp,hp1',hp2',hR⟩,hvr.pure hrp,?_⟩
 refine { nt := s.nt, glob := s'.glob, marks := s.marks.mono (fun g hg => by rw [s'.kept g (Array.getElem?_eq_some_iff.1 hg).1 (fun hg' => hcells g hg' _ hg rfl)]; exact hg), loc0 := fun i x hx => hφ4 i x (s.loc0 i x hx), free := fun x hx => by rw [hφ3 hx.2.1 hx.2.2]; exact s.free x hx.1, env := fun j p hp => ⟨(s.env j p hp).1, (s.env j p hp).2.mono s'.ext hφ4⟩, froz := s'.froz, ext := fun x v hx => s'.ext _ _ (s.ext x v hx),
          old:=fun x hx hg=>?_,os:=s'.os.trans s.os,tape:=s'.tape.trans s.tape,output:=s'.output.trans s.output,size:=Nat.le_trans s.size s'.size,kept:=fun g hk hg=>?_,live:=fun x bx hx=>?_,sep:=fun x y bx bY lx ly g hx hy hlx hly hgx hgy=>?_ }
 · have hx2 : x.block < w.heap.size := Nat.lt_of_lt_of_le hx s.size
   rw [s'.old x hx2 fun hg'=>(hG _ hg').elim (fun h1=>absurd hx (Nat.not_lt.2 h1)) hg]
   exact s.old x hx hg
 · rw [s'.kept g (Nat.lt_of_lt_of_le hk s.size) fun hg' => (hG _ hg').elim (fun h1 => absurd hk (Nat.not_lt.2 h1)) hg]
   exact s.kept g hk hg
 · rcases src hx with ⟨rfl, rfl⟩ | ⟨rfl, rfl⟩ | ⟨rfl, rfl⟩ | ⟨h1, h2, h3, hx⟩
   · exact⟨l2,hφ21,m22.names hp2',fun g hg=>⟨hnew (lx:=l2) (m23 g hg).1,(m23 g hg).2⟩⟩
   · exact⟨l1,hφ2,m12.names hp1',fun g hg=>⟨hnew (lx:=l1) (m13 g hg).1,(m13 g hg).2⟩⟩
   · exact⟨l0,hφ4 _ _ hlk,m02.kid (by rw [m11,hφ2]) (by rw [m21,hφ21]) hq,fun g hg=>⟨(hhk g hg).1,(m03 g hg).2⟩⟩
   · obtain ⟨lx, g1, g2, g3⟩ := s.live x bx hx
     have hout:∀ g,lx.has g→¬ C1.G g:=fun g hg=>hold h1 h2 h3 hx g1 hg
     have hblk:∀ g,lx.has g→w'.heap[g]?=w.heap[g]?:=fun g hg=>s'.kept g (s.has_lt hx g1 hg) (hout g hg)
     have hne:=hnone hx
     refine⟨lx,by rw [hφ3 hne.1 hne.2]; exact g1,g2.mono s'.ext hφ4 hblk,fun g hg=>⟨(g3 g hg).1,fun z hz=>?_⟩⟩
     rw [s'.old z (by rw [hz]; exact s.has_lt hx g1 hg) (by rw [hz]; exact hout g hg)]
     exact (g3 g hg).2 z hz
 · have cls : ∀ {x : Nat} {bx : Bx} {lx : Loc} {g : Nat}, (((((h.del i).del j).upd k (kidB q n (n + 1))).upd n b1').upd (n + 1) b2') x = some bx → φ2 x = some lx → lx.has g →
    (h x=some bx∧φ x=some lx∧g<w.heap.size∧¬ C1.G g) ∨ ((w.heap.size≤g ∨ C1.G g)∧∃ y b',h' y=some b'∧φ' y=some lx∧((x=n+1∧y=j2) ∨ (x=n∧y=j1) ∨ (x=k∧y=0))):=by
    intro x bx lx g hx hlx hg
    rcases src hx with⟨rfl,rfl⟩|⟨rfl,rfl⟩|⟨rfl,rfl⟩|⟨h1,h2,h3,hx⟩
    · rw [hφ21] at hlx; cases hlx
      exact .inr ⟨(m23 g hg).1,j2,_,hh2,m21,.inl ⟨rfl,rfl⟩⟩
    · rw [hφ2] at hlx; cases hlx
      exact .inr ⟨(m13 g hg).1,j1,_,hh1,m11,.inr (.inl ⟨rfl,rfl⟩)⟩
    · rw [hφ4 _ _ hlk] at hlx; cases hlx
      exact .inr ⟨(m03 g hg).1,0,_,hh0,m01,.inr (.inr ⟨rfl,rfl⟩)⟩
    · have hne := hnone hx
      rw [hφ3 hne.1 hne.2] at hlx
      exact .inl ⟨hx,hlx,s.has_lt hx hlx hg,hold h1 h2 h3 hx hlx hg⟩
   rcases cls hx hlx hgx with⟨a1,a2,a3,a4⟩|⟨a1,y1,c1,a2,a3,a4⟩<;>rcases cls hy hly hgy with⟨d1,d2,d3,d4⟩|⟨d1,y2,c2,d2,d3,d4⟩
   · exact s.sep x y bx bY lx ly g a1 d1 a2 d2 hgx hgy
   · rcases d1 with d1 | d1
     · omega
     · exact absurd d1 a4
   · rcases a1 with a1 | a1
     · omega
     · exact absurd a1 d4
   · have := s'.sep y1 y2 c1 c2 lx ly g a2 d2 a3 d3 hgx hgy
     subst this
     rcases a4 with⟨rfl,rfl⟩|⟨rfl,rfl⟩|⟨rfl,rfl⟩<;>rcases d4 with⟨rfl,e⟩|⟨rfl,e⟩|⟨rfl,e⟩<;>first|rfl|omega
theorem K2Spec.frame {f:FuncId} {pre post q:List PV} {b1 b2:Bx} {R:PV→Bx→Bx→Prop} (hs:K2Spec P f pre post q b1 b2 R) (hpre:pureL pre) (hpost:pureL post) (hq:pureL q) (hp1:pureLL b1.elems) (hp2:pureLL b2.elems) {k i j n:Nat} (hk:h k=some (kidB q i j)) (hi:h i=some b1) (hj:h j=some b2) (hij:i≠j) (hik:i≠k) (hjk:j≠k) :
 ISpec P f n (pre++.ptr k 0 0 :: post) h fun n' r h'=>∃ b1' b2',n'=n+2∧h'=((((h.del i).del j).upd k (kidB q n (n+1))).upd n b1').upd (n+1) b2'∧r.pure∧pureLL b1'.elems∧pureLL b2'.elems∧R r b1' b2':=by
 refine⟨hs.1,fun C e F φ a w vs s hv=>(hs.run hpre hpost hq hp1 hp2 (n:=n) (Nat.le_refl n) (Nat.le_succ n) hk hi hj hij hik hjk s hv).mono ?_⟩
 rintro en w' ⟨v,r,b1',b2',F',φ',rfl,⟨h1,h2,h3,h4⟩,hr,s'⟩
 exact⟨v,r,n+2,_,F',φ',rfl,⟨b1',b2',rfl,rfl,h1,h2,h3,h4⟩,hr,{ s' with free:=fun i hi=>s'.free i ⟨by omega,by omega,by omega⟩ }⟩
theorem Za7 {f:Operand} {args:List Operand} {g:FuncId} {caps as0 pre post q:List PV} {b1 b2:Bx} {k i j:Nat} {R:PV→Bx→Bx→Prop} {d:Option Nat} {os:List AOper} {n:Nat} {K:Nat→Env→Heap→Prop} (hs:K2Spec P g pre post q b1 b2 R) (hf:ev e f=some (.fn g caps)) (ha:evs e args=some as0) (hr:as0++caps=pre++.ptr k 0 0 :: post) (hk:h k=some (kidB q i j)) (hi:h i=some b1) (hj:h j=some b2) (hij:i≠j) (hik:i≠k) (hjk:j≠k) (hpre:pureL pre) (hpost:pureL post) (hq:pureL q) (hp1:pureLL b1.elems) (hp2:pureLL b2.elems)
 (hK:∀ r b1' b2',r.pure→pureLL b1'.elems→pureLL b2'.elems→R r b1' b2'→opsK P os (n+2) (updO e d r) (((((h.del i).del j).upd k (kidB q n (n+1))).upd n b1').upd (n+1) b2') K):opsK P (⟨d,.call f args,none⟩ :: os) n e h K:=by
 refine Z28 hf ha (R:=fun n' r h'=>∃ b1' b2',n'=n+2∧h'=((((h.del i).del j).upd k (kidB q n (n+1))).upd n b1').upd (n+1) b2'∧r.pure∧pureLL b1'.elems∧pureLL b2'.elems∧R r b1' b2') (by rw [hr]; exact hs.frame hpre hpost hq hp1 hp2 hk hi hj hij hik hjk) ?_
 rintro n' r h' ⟨b1',b2',rfl,rfl,h1,h2,h3,h4⟩
 exact hK r b1' b2' h1 h2 h3 h4
theorem Zb9 {f nt:Nat} {ac:ACode} {rs:List ARes} (hf:FnOk P f nt ac rs) {pre post q:List PV} {b1 b2:Bx} {R:PV→Bx→Bx→Prop} (hn:(pre++.ptr 0 0 0 :: post).length≤nt)
 (hk:∀ C:Ctx,C.dom 3→aw P C ac (retI rs fun n' r h'=>∃ j1 j2 b1' b2',j1≠j2∧j1≠0∧j2≠0∧h' 0=some (kidB q j1 j2)∧h' j1=some b1'∧h' j2=some b2'∧r.pure∧pureLL b1'.elems∧pureLL b2'.elems∧R r b1' b2') 3 (argEnv (pre++.ptr 0 0 0 :: post)) (heapL [(0,kidB q 1 2),(1,b1),(2,b2)])):K2Spec P f pre post q b1 b2 R :=
 Z2F hf hn hk
end
end Go.Proofs.YthgklpbcmbmmcaaGreatDoor
namespace Go.Proofs.YthgklpbcmbmmcaaGreatDoor
open Go.RowKit
attribute [local irreducible] aw opsK dK
def hwC (e:KE):List PV := [.val (.int .i64 e.2.1),.val (.int .i64 (e.2.2:Int))]
theorem Zfh (e:KE):pureL (hwC e):=⟨trivial,trivial,trivial⟩
theorem ZX (l:List KE):pureLL (l.map hwC):=Zf Zfh l
def AddR (ks:List KE) (e:KE) (L:Int) (ks':List KE) (v:PV):Prop:=(covL (kcs ks) e.1=true∧ks'=ks∧v=.val (.int .i64 0)) ∨ (covL (kcs ks) e.1=false∧ks'=ks ++ [e]∧v=.val (.int .i64 (if L<((ks.length+1:Nat):Int) then 3 else 0)))
set_option maxRecDepth 100000 in
set_option maxHeartbeats 4000000 in
theorem Zba (ks:List KE) (h64:∀ c∈kcs ks,Ok64 c) (hl:ks.length≤1000) (e:KE) (he:Ok64 e.1) (L:Int):K2Spec Tryz.prog 70 [] [cuP e.1,.agg (hwC e)] [.val (.int .i64 L)] ⟨2,(kcs ks).map cuC⟩ ⟨2,ks.map hwC⟩ fun v b1 b2=>∃ ks',b1=⟨2,(kcs ks').map cuC⟩∧b2=⟨2,ks'.map hwC⟩∧AddR ks e L ks' v:=by
 have hkl:(kcs ks).length=ks.length:=by simp [kcs]
 have hcs:=Zc6 ((kcs ks).length+1) (kcs ks) (Nat.lt_succ_self _) (by omega) h64 e.1 false he
 refine Zb9 ok70 (Nat.le_of_ble_eq_true rfl) fun C hC=>?_
 refine Zk ?_
 refine Z9 ?_
 refine Z4 rfl rfl rfl ?_
 refine Z4 rfl rfl rfl ?_
 iterate 4 (first|refine st ?_|(apply B<;>intro hb<;>try cases hb))
 refine Zej [] 1 (by decide) ?_
 refine gd 12 ⟨?_⟩
 refine ZgT hcs rfl rfl (j:=1) rfl rfl rfl (Z0 _) ⟨Zm _,Z0 _,trivial⟩ ?_
 cases hcov:covL (kcs ks) e.1
 case true =>
  refine go ?_
  exact⟨_,_,rfl,.inl rfl,1,2,_,_,by decide,by decide,by decide,rfl,rfl,rfl,trivial,Z0 _,ZX _,ks,rfl,rfl,.inl ⟨hcov,rfl,rfl⟩⟩
 repeat' (first|refine Z2E [] [(1,256)] [4194303,4194303,4194303,4194303,4194303,4194303,4194303,4194303,4194047,4194303,4194303,4194303,4194303,4194303,4194303,4194303,4194303,4194303,4194303,4194303,4194303,4194303] (by kernel_rfl) ?_|refine Z9e 21 ?_|(first|refine st ?_|(apply B<;>intro hb<;>try cases hb)))
 refine At.mk ?_
 refine Zt (Zp (k:=1) (m := [cuC e.1]) (fl:=true) rfl rfl rfl (fun q hq=>by rw [List.mem_singleton] at hq; subst hq; rfl) rfl (by
  show (((kcs ks).map cuC).length+1)*48≤_
  rw [List.length_map];omega)) rfl rfl ?_
 refine gd 28 ⟨?_⟩
 refine Zt (Zp (k:=2) (m := [hwC e]) (fl:=true) rfl rfl rfl (fun q hq=>by rw [List.mem_singleton] at hq; subst hq; rfl) rfl (by
  show ((ks.map hwC).length+1)*16≤_
  rw [List.length_map];omega)) rfl rfl ?_
 have hp1:pureLL ((kcs ks).map cuC ++ [cuC e.1]):=by rw [← List.map_singleton,← List.map_append]; exact Z0 _
 have hp2:pureLL (ks.map hwC ++ [hwC e]):=by rw [← List.map_singleton,← List.map_append]; exact ZX _
 have e1:(kcs ks).map cuC ++ [cuC e.1]=(kcs (ks ++ [e])).map cuC:=by rw [Z7P,List.map_append]; rfl
 have e2:ks.map hwC ++ [hwC e]=(ks ++ [e]).map hwC:=by rw [List.map_append]; rfl
 have hlen:(((kcs ks).map cuC ++ [cuC e.1]).length:Int)=((ks.length+1:Nat):Int):=by simp [hkl]
 rw [e1] at hp1 hlen ⊢
 rw [e2] at hp2 ⊢
 refine gd 42 ⟨?_⟩
 by_cases hL:L<((ks.length+1:Nat):Int)
 · refine Zt (Zb (v := true) rfl (decide_eq_true (by rw [hlen]; exact hL))) rfl rfl ?_
   refine go ?_
   exact⟨_,_,rfl,.inl rfl,17,24,_,_,by decide,by decide,by decide,rfl,rfl,rfl,trivial,hp1,hp2,ks ++ [e],rfl,rfl,.inr ⟨hcov,rfl,by rw [if_pos hL]; rfl⟩⟩
 · refine Zt (Zb (v := false) rfl (decide_eq_false (by rw [hlen]; exact hL))) rfl rfl ?_
   refine gd 49 ⟨?_⟩
   refine Z2t rfl ?_
   refine Zt (Zb (v:=false) rfl (decide_eq_false (by rw [hlen];omega))) rfl rfl ?_
   refine go ?_
   exact⟨_,_,rfl,.inl rfl,17,24,_,_,by decide,by decide,by decide,rfl,rfl,rfl,trivial,hp1,hp2,ks ++ [e],rfl,rfl,.inr ⟨hcov,rfl,by rw [if_neg hL]; rfl⟩⟩
theorem PathK.len {t:PB} {ks:List KE} (hk:KInv t ks) {i:Nat} {p:List Nat} (hp:PathK ks i p):p.length≤i:=by
 induction hp with
 | stop _ _=>exact Nat.zero_le _
 | step he hr _ ih =>
   rcases hk.how _ _ he with h4|⟨r',to',x,e',h4,h5,h6,h7,h8⟩
   · rw [hr] at h4; simp only at h4; omega
   · rw [hr] at h4
     obtain⟨h41,h42⟩:=Prod.mk.inj h4
     subst h42
     rw [List.length_cons]; omega
def kpC (ks:List KE) (L:Int):List PV := [.vec ((kcs ks).map cuC) false,.vec (ks.map hwC) false,.val (.int .i64 L)]
theorem Z7S (ks:List KE) (L:Int):pureL (kpC ks L):=⟨Z0 _,ZX _,trivial,trivial⟩
set_option maxRecDepth 100000 in
set_option maxHeartbeats 4000000 in
theorem ZdQ {t:PB} (hn:t.n≤5) {ks:List KE} (hk:KInv t ks) (L:Int) {i:Nat} {p:List Nat} (hp:PathK ks i p):Spec Tryz.prog 71 [.cp (kpC ks L),.val (.int .i64 (i:Int))] (· = .vec (inL p) false):=by
 have hkp:=Z7S ks L
 have hkl:=hk.len
 have h32:2 ^ t.n≤32:=Nat.pow_le_pow_right (n:=2) (by decide) hn
 have hpl:p.length≤i:=hp.len hk
 have hil:i<ks.length:=by cases hp<;>exact (List.getElem?_eq_some_iff.1 (by assumption)).1
 refine Z2 ok71 (Nat.le_of_ble_eq_true rfl) fun C hC=>?_
 refine go ?_
 refine Z2s (Z6p (k:=5) rfl 1 (by decide)) ?_
 refine ZN hC (fun (z:Nat×List Nat×List Nat)=>PathK ks z.1 z.2.2∧p=z.2.1++z.2.2) (fun z=>z.2.2.length) 1 (fun z => [(0,.cp (kpC ks L)),(1,.val (.int .i64 (z.1:Int))),(5,.own 0)]) (fun z => [(0,⟨1,inL z.2.1⟩)]) (Nat.zero_le _) (i,[],p) ⟨hp,rfl⟩ (fun i=>i) (fun _ _=>rfl) Zu
  ⟨⟨_,rfl,.pure _ hkp⟩,⟨_,rfl,.pure _ trivial⟩,⟨_,rfl,.own 0 (by decide)⟩,trivial⟩ ⟨⟨by decide,_,rfl,.same _ trivial⟩,trivial⟩ ?_
 rintro⟨j,out,q⟩ ⟨hq,hpq⟩
 dsimp only at hq hpq ⊢
 have hol:out.length≤32:=by rw [hpq,List.length_append] at hpl; omega
 cases hq with
 | stop he hr =>
   rename_i e
   obtain⟨hjl,hje⟩:=List.getElem?_eq_some_iff.1 he
   refine gd 11 ⟨?_⟩
   refine Z3 (Zn (xs:=ks) (g:=hwC) rfl rfl j rfl hjl rfl) rfl rfl ?_
   rw [hje]
   refine gd 14 ⟨?_⟩
   refine Z3 (Zb (v:=false) rfl (decide_eq_false (by omega))) rfl rfl ?_
   repeat' (first|refine Za (Zo (k:=5) rfl rfl (Z2S _)) ?_|(first|refine st ?_|(apply B<;>intro hb<;>try cases hb)))
   rw [List.append_nil] at hpq
   exact Z6 rfl (Z2S _) (by rw [hpq])
 | step he hr hq =>
   rename_i r to e q
   obtain⟨hjl,hje⟩:=List.getElem?_eq_some_iff.1 he
   have h1:hwC e = [.val (.int .i64 (r:Int)),.val (.int .i64 (to:Int))]:=by unfold hwC; rw [hr]
   refine gd 11 ⟨?_⟩
   refine Z3 (Zn (xs:=ks) (g:=hwC) rfl rfl j rfl hjl rfl) rfl rfl ?_
   rw [hje,h1]
   refine gd 14 ⟨?_⟩
   refine Z3 (Zb (v:=true) rfl (decide_eq_true (by omega))) rfl rfl ?_
   refine gd 21 ⟨?_⟩
   refine Z3 (Zn (xs:=ks) (g:=hwC) rfl rfl j rfl hjl rfl) rfl rfl ?_
   rw [hje,h1]
   refine gd 25 ⟨?_⟩
   refine ZA (Zp (k:=0) (m := [inC1 r]) (fl:=true) rfl rfl rfl (fun q hq=>by rw [List.mem_singleton] at hq; subst hq; rfl) rfl (by
    show ((inL out).length+1)*8≤_
    rw [Za4];omega)) rfl rfl ?_
   refine gd 31 ⟨?_⟩
   refine Z3 (Zn (xs:=ks) (g:=hwC) rfl rfl j rfl hjl rfl) rfl rfl ?_
   rw [hje,h1]
   refine go ?_
   refine⟨(to,out ++ [r],q),mv 0 1,⟨hq,by rw [hpq,List.append_assoc]; rfl⟩,by show q.length<q.length+1; omega,fun i hi=>absurd hi (Nat.not_lt_zero i),ZB rfl,
    ⟨⟨_,rfl,.pure _ hkp⟩,⟨_,rfl,.pure _ trivial⟩,⟨_,rfl,.own 0 (by decide)⟩,trivial⟩,⟨⟨by decide,_,rfl,?_⟩,trivial⟩⟩
   show RenB _ _ ⟨1,inL out ++ [inC1 r]⟩ ⟨1,inL (out ++ [r])⟩
   rw [Zfg]
   exact .same _ (Z2S _)
theorem ZdR {ks:List KE} {i:Nat} {e:KE} (he:ks[i]?=some e):((kcs ks).map cuC).getD i []=cuC e.1∧i<((kcs ks).map cuC).length:=by
 obtain⟨h1,rfl⟩:=List.getElem?_eq_some_iff.1 he
 refine⟨?_,by simp [kcs,h1]⟩
 simp [kcs,List.getD_eq_getElem?_getD,h1]
def ExpR (t:PB) (ks:List KE) (e:KE) (L:Int) (ks':List KE) (v:PV):Prop:=ks <+: ks'∧KInv t ks'∧((v=.val (.int .i64 0)∧ExpA t e.1 ks') ∨ (v=.val (.int .i64 3)∧L<(ks'.length:Int)))
def CovAll (l:List Cu) (ks:List KE):Prop:=∀ c∈l,∀ S,hoC c S=true→soC (kcs ks) S=true
theorem AddR.keep {t:PB} {ks ks':List KE} {e:KE} {L:Int} {v:PV} (ha:AddR ks e L ks' v) (hk:KInv t ks) (hm:InM 62 e.1∧InM (mkN t.n) e.1∧emC e.1=false)
 (hh : (e.2.1 = -1 ∧ ∀ S, InS t S → hoC e.1 S = true → goodB t S = true ∧ reachB t S = true) ∨
   ∃ (r to:Nat) (x:RU) (e':KE),e.2=((r:Int),to)∧t.rs[r]?=some x∧ks[to]?=some e'∧∀ S,InS t S→hoC e.1 S=true→goodB t S=true∧stepR t x S=true∧hoC e'.1 (nextR x S)=true) :
 ks <+: ks'∧KInv t ks'∧(∀ S,hoC e.1 S=true→soC (kcs ks') S=true)∧(v=.val (.int .i64 0) ∨ (v=.val (.int .i64 3)∧L<(ks'.length:Int))):=by
 rcases ha with⟨h1,rfl,rfl⟩|⟨h1,rfl,rfl⟩
 · exact⟨List.prefix_refl _,hk,fun S hS=>ZgP hk h1 hS,.inl rfl⟩
 · refine ⟨List.prefix_append _ _, hk.add hm h1 hh, fun S hS => by rw [Z7P, Z5j, hS, Bool.or_true], ?_⟩
   by_cases hL:L<((ks.length+1:Nat):Int)
   · exact .inr ⟨by rw [if_pos hL],by rw [List.length_append]; exact hL⟩
   · exact .inl (by rw [if_neg hL])
theorem low3 {a b i:Nat} (hi:i<3):mv 3 a (mv 4 b i)=i:=by
 rw [Z5A (m:=3) (by decide) i hi,Z5A (m:=3) (Nat.le_refl 3) i hi]
set_option maxRecDepth 100000 in
set_option maxHeartbeats 8000000 in
theorem Za8 {t:PB} (h:PbOk t) (hn:t.n≤5) (S:List Nat) {ks:List KE} (hk:KInv t ks) (i:Nat) (e:KE) (he:ks[i]?=some e) (L:Int):K2Spec Tryz.prog 72 [.cp (srC t S)] [.val (.int .i64 (i:Int))] [.val (.int .i64 L)] ⟨2,(kcs ks).map cuC⟩ ⟨2,ks.map hwC⟩ fun v b1 b2=>∃ ks',b1=⟨2,(kcs ks').map cuC⟩∧b2=⟨2,ks'.map hwC⟩∧ExpR t ks e L ks' v:=by
 have hsr:=Z3y t S
 have hrb:=h.rl
 have hrl:(t.rs.map ruP).length=t.rs.length:=by simp
 have h32:2 ^ t.n≤32:=Nat.pow_le_pow_right (n:=2) (by decide) hn
 refine Zb9 ok72 (Nat.le_of_ble_eq_true rfl) fun C hC=>?_
 refine go ?_
 refine ZN hC (fun (z:Nat×List KE)=>z.1≤t.rs.length∧ks <+: z.2∧KInv t z.2∧∀ j x,j<z.1→t.rs[j]?=some x→Exp1 t e.1 x z.2) (fun z=>t.rs.length-z.1) 5 (fun z => [(0,.cp (srC t S)),(1,.ptr 0 0 0),(2,.val (.int .i64 (i:Int))),(18,.val (.int .i64 (t.rs.length:Int))),(19,.val (.int .i64 (z.1:Int)))])
  (fun z => [(0,⟨3,[[.own 3,.own 4,.val (.int .i64 L)]]⟩),(3,⟨2,(kcs z.2).map cuC⟩),(4,⟨2,z.2.map hwC⟩)]) (by decide) (0,ks) ⟨Nat.zero_le _,List.prefix_refl _,hk,fun j x hj=>absurd hj (Nat.not_lt_zero j)⟩ (fun i=>mv 3 1 (mv 4 2 i)) (fun i hi=>low3 hi) (ZB rfl)
  ⟨⟨_,rfl,.pure _ hsr⟩,⟨_,rfl,.ptr (ρ:=fun i=>mv 3 1 (mv 4 2 i)) 0 0 0 (by decide)⟩,⟨_,rfl,.pure _ trivial⟩,⟨_,by rw [← hrl]; rfl,.pure _ trivial⟩,⟨_,rfl,.pure _ trivial⟩,trivial⟩
  ⟨⟨by decide,_,rfl,RenB.single ⟨.own (ρ:=fun i=>mv 3 1 (mv 4 2 i)) 3 (by decide),.own (ρ:=fun i=>mv 3 1 (mv 4 2 i)) 4 (by decide),.pure _ trivial,trivial⟩ rfl⟩,⟨by decide,_,rfl,.same _ (Z0 _)⟩,⟨by decide,_,rfl,.same _ (ZX _)⟩,trivial⟩ ?_
 rintro⟨r,k1⟩ ⟨hr,hpre,hk1,hex⟩
 dsimp only at hr hpre hk1 hex ⊢
 have hinc:IntKind.i64.wrap ((r:Int)+1)=((r+1:Nat):Int):=IntWalk.i64_in _ ⟨by omega,by omega⟩
 refine gd 20 ⟨?_⟩
 by_cases hrt:r<t.rs.length
 case neg =>
  refine Z3 (Zb (v:=false) rfl (decide_eq_false (by omega))) rfl rfl ?_
  refine go ?_
  refine⟨_,_,rfl,.inl rfl,3,4,_,_,by decide,by decide,by decide,rfl,rfl,rfl,trivial,Z0 _,ZX _,k1,rfl,rfl,hpre,hk1,.inl ⟨rfl,fun x hx=>?_⟩⟩
  obtain⟨j,hj,rfl⟩:=List.mem_iff_getElem.1 hx
  exact hex j _ (by omega) (List.getElem?_eq_getElem hj)
 refine Z3 (Zb (v:=true) rfl (decide_eq_true (Int.ofNat_lt.2 hrt))) rfl rfl ?_
 have he1:=Za5 hpre he
 obtain⟨g1,g2⟩:=ZdR he1
 have hem:=hk1.mem e (List.mem_of_getElem? he1)
 have hro:=h.rs _ (List.getElem_mem hrt)
 have hxr:=List.getElem?_eq_getElem hrt
 refine gd 29 ⟨?_⟩
 refine Z3 (ZL (k:=.i64) rfl rfl rfl i rfl g2 rfl) rfl rfl ?_
 refine gd 30 ⟨?_⟩
 refine Z3 (Z2T (p:=cuP e.1) rfl rfl g2 (by show cutAt true 2 0 (((kcs k1).map cuC).getD i [])=_; rw [g1]; rfl)) rfl rfl ?_
 refine gd 32 ⟨?_⟩
 refine Z5 (Z51 h S e.1 hem.1 r hrt) rfl rfl rfl ⟨hsr,Zm _,trivial,trivial⟩ rfl ?_
 generalize t.rs[r]=x at hro hxr ⊢
 have hbi:=ZgN h hro hem.1
 have hbn:=Zh4 h hro hem.2.1
 have hbs:=fun S (hS:InS t S)=>ZgM h hro hem.1 hS
 generalize hl0:bfL t x e.1=l at hbi hbn hbs ⊢
 obtain⟨hbi,hbl⟩:=hbi
 have hll:(l.map cuC).length=l.length:=by simp
 refine go ?_
 refine ZN hC (fun (z:Nat×List KE)=>z.1≤l.length∧ks <+: z.2∧k1 <+: z.2∧KInv t z.2∧CovAll (l.take z.1) z.2) (fun z=>l.length-z.1) 5 (fun z => [(0,.cp (srC t S)),(1,.ptr 0 0 0),(2,.val (.int .i64 (i:Int))),(7,.val (.int .i64 (r:Int))),(18,.val (.int .i64 (t.rs.length:Int))),(19,.val (.int .i64 (r:Int))),(38,.vec (l.map cuC) false),(39,.val (.int .i64 (l.length:Int))),(40,.val (.int .i64 (z.1:Int)))])
  (fun z => [(0,⟨3,[[.own 3,.own 4,.val (.int .i64 L)]]⟩),(3,⟨2,(kcs z.2).map cuC⟩),(4,⟨2,z.2.map hwC⟩)]) (by decide) (0,k1) ⟨Nat.zero_le _,hpre,List.prefix_refl _,hk1,fun c hc=>(by cases hc)⟩ (fun i=>i) (fun _ _=>rfl) Zu
  ⟨⟨_,rfl,.pure _ hsr⟩,⟨_,rfl,.ptr (ρ:=fun i=>i) 0 0 0 (by decide)⟩,⟨_,rfl,.pure _ trivial⟩,⟨_,rfl,.pure _ trivial⟩,⟨_,rfl,.pure _ trivial⟩,⟨_,rfl,.pure _ trivial⟩,⟨_,rfl,.pure _ (Z0 _)⟩,⟨_,by rw [← hll]; rfl,.pure _ trivial⟩,⟨_,rfl,.pure _ trivial⟩,trivial⟩
  ⟨⟨by decide,_,rfl,RenB.single ⟨.own (ρ:=fun i=>i) 3 (by decide),.own (ρ:=fun i=>i) 4 (by decide),.pure _ trivial,trivial⟩ rfl⟩,⟨by decide,_,rfl,.same _ (Z0 _)⟩,⟨by decide,_,rfl,.same _ (ZX _)⟩,trivial⟩ ?_
 rintro⟨j,k2⟩ ⟨hj,hpre2,hpre3,hk2,hcov⟩
 dsimp only at hj hpre2 hpre3 hk2 hcov ⊢
 have hjnc:IntKind.i64.wrap ((j:Int)+1)=((j+1:Nat):Int):=IntWalk.i64_in _ ⟨by omega,by omega⟩
 have hkl2:=hk2.len
 refine gd 41 ⟨?_⟩
 by_cases hjl:j<l.length
 case neg =>
  refine Z3 (Zb (v:=false) rfl (decide_eq_false (by omega))) rfl rfl ?_
  refine go ?_
  have hjl:j=l.length:=by omega
  rw [hjl,List.take_length] at hcov
  refine⟨(r+1,k2),fun i=>i,⟨hrt,hpre2,hk2,fun j y hjr hy=>?_⟩,by show t.rs.length-(r+1)<t.rs.length-r; omega,fun _ _=>rfl,Zu,
   ⟨⟨_,rfl,.pure _ hsr⟩,⟨_,rfl,.ptr (ρ:=fun i=>i) 0 0 0 (by decide)⟩,⟨_,rfl,.pure _ trivial⟩,⟨_,rfl,.pure _ trivial⟩,⟨_,by show some _=some _; rw [hinc],.pure _ trivial⟩,trivial⟩,
   ⟨⟨by decide,_,rfl,RenB.single ⟨.own (ρ:=fun i=>i) 3 (by decide),.own (ρ:=fun i=>i) 4 (by decide),.pure _ trivial,trivial⟩ rfl⟩,⟨by decide,_,rfl,.same _ (Z0 _)⟩,⟨by decide,_,rfl,.same _ (ZX _)⟩,trivial⟩⟩
  by_cases hjr2:j<r
  · exact (hex j y hjr2 hy).pre hpre3
  · obtain rfl : j = r := by omega
    rw [hxr] at hy; cases hy
    intro S hS hg hs hho
    have h1:=hbs S hS
    rw [hg,hs,hho] at h1
    obtain⟨c,hc,h2⟩:=List.any_eq_true.1 (show soC l S=true from h1)
    exact hcov c hc S h2
 refine Z3 (Zb (v:=true) rfl (decide_eq_true (Int.ofNat_lt.2 hjl))) rfl rfl ?_
 have htk:=Z1a hjl
 have hcm:=List.getElem_mem hjl
 refine gd 42 ⟨?_⟩
 refine Z3 (Zn (xs:=l) (g:=cuC) rfl rfl j rfl hjl rfl) rfl rfl ?_
 generalize l[j]=c at htk hcm ⊢
 obtain⟨hc1,hc2⟩:=hbi c hcm
 have hc3:=hbn c hcm
 have hadd:=Zba k2 hk2.c64 (by omega) (c,((r:Int),i)) (hc1.lt (by decide)) L
 refine gd 49 ⟨?_⟩
 refine Za7 hadd rfl rfl rfl rfl rfl rfl (by decide) (by decide) (by decide) trivial ⟨Zm _,⟨trivial,trivial,trivial⟩,trivial⟩ ⟨trivial,trivial⟩ (Z0 _) (ZX _) ?_
 rintro v b1' b2' - - - ⟨k3,rfl,rfl,ha⟩
 have hst:∀ S,InS t S→hoC c S=true→goodB t S=true∧stepR t x S=true∧hoC e.1 (nextR x S)=true:=fun S hS hc=>by
  have h1:=hbs S hS
  have h2:soC l S=true:=List.any_eq_true.2 ⟨c,hcm,hc⟩
  rw [h2] at h1
  have h1:=h1.symm
  rw [Bool.and_eq_true,Bool.and_eq_true] at h1
  exact h1
 obtain⟨p1,p2,p3,p4⟩:=ha.keep (t:=t) hk2 ⟨hc1,hc3,hc2⟩ (.inr ⟨r,i,x,e,rfl,hxr,Za5 hpre2 he,hst⟩)
 rcases p4 with rfl|⟨rfl,p4⟩
 · refine go ?_
   refine⟨(j+1,k3),fun i=>mv 3 6 (mv 4 7 i),⟨hjl,hpre2.trans p1,hpre3.trans p1,p2,?_⟩,by show l.length-(j+1)<l.length-j; omega,fun i hi=>low3 hi,ZB rfl,
    ⟨⟨_,rfl,.pure _ hsr⟩,⟨_,rfl,.ptr (ρ:=fun i=>mv 3 6 (mv 4 7 i)) 0 0 0 (by decide)⟩,⟨_,rfl,.pure _ trivial⟩,⟨_,rfl,.pure _ trivial⟩,⟨_,rfl,.pure _ trivial⟩,⟨_,rfl,.pure _ trivial⟩,⟨_,rfl,.pure _ (Z0 _)⟩,⟨_,rfl,.pure _ trivial⟩,⟨_,by show some _=some _; rw [hjnc],.pure _ trivial⟩,trivial⟩,
    ⟨⟨by decide,_,rfl,RenB.single ⟨.own (ρ:=fun i=>mv 3 6 (mv 4 7 i)) 3 (by decide),.own (ρ:=fun i=>mv 3 6 (mv 4 7 i)) 4 (by decide),.pure _ trivial,trivial⟩ rfl⟩,⟨by decide,_,rfl,.same _ (Z0 _)⟩,⟨by decide,_,rfl,.same _ (ZX _)⟩,trivial⟩⟩
   rw [htk]
   intro c' hc' S hS
   rcases List.mem_append.1 hc' with hc' | hc'
   · exact Z7R p1 (hcov c' hc' S hS)
   · rw [List.mem_singleton] at hc'; subst hc'; exact p3 S hS
 · refine go ?_
   exact⟨_,_,rfl,.inl rfl,6,7,_,_,by decide,by decide,by decide,rfl,rfl,rfl,trivial,Z0 _,ZX _,k3,rfl,rfl,hpre2.trans p1,p2,.inr ⟨rfl,p4⟩⟩
end Go.Proofs.YthgklpbcmbmmcaaGreatDoor
