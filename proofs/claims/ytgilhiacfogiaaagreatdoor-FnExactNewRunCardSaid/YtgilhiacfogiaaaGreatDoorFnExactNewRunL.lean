/-
  Configurations by value.
  Conditions: none.
  The first package's printer by value: the order in which it visits the classes.
  Conditions: the configuration is a good one.
  Configurations by value.
  Conditions: none.
  The library's functions that repeat and copy lists, by value.
  Conditions: lists are short.
  What the first package's tables hold: the first, the next, the last child.
  Conditions: the classes are those of a good configuration.
  Configurations by value.
  Conditions: none.
  The first package's loader by value.
  Conditions: the configuration is a good one.
  Configurations by value.
  Conditions: none.
  The first package's loader by value: its parts together.
  Conditions: the configuration is a good one.
  Configurations by value.
  Conditions: none.
  Classes, filters and numbers of arguments by value: their sizes, copies, comparisons with themselves, marks.
  Conditions: lists are shorter than two millions.
  Marks of classes and filters by value.
  Conditions: lists are shorter than two millions.
  Marks of numbers, and of whole arguments and results, by value.
  Conditions: lists are shorter than two millions.
  Marks of whole loaded configurations by value.
  Conditions: lists are shorter than two millions.
  Configurations by value.
  Conditions: none.
  A new run by value, in both packages.
  Conditions: lengths fit the model's lists.
  Configurations by value.
  Conditions: none.
  Marks and comparisons of runs whose queues are empty, by value.
  Conditions: lists are shorter than two millions.
  Configurations by value.
  Conditions: none.
  The law FnExactNewRun by value: new runs of configurations, in both packages.
  Conditions: lengths fit an int.
-/
import Derived.Test.YtgilhiacfogiaaaGreatDoorK10
import Derived.Test.YtgilhiacfogiaaaGreatDoorRepW
set_option linter.all false
namespace Go.Proofs.YtgilhiacfogiaaaGreatDoor
open Go.Ev Go.Pv
theorem range_ok {σ τ α β:Type} (mk:τ→Int→σ) {F:(σ→Option β)→σ→Option β} (l:List α) (I:Nat→τ→Prop) {Q:β→Prop}
  (h1:∀ ag t (i:Nat) x,l[i]? = some x→I i t→(∀ t',I (i+1) t'→Ok (ag (mk t' ((i+1:Nat):Int))) Q)→Ok (F ag (mk t i)) Q)
  (h2:∀ ag t,I l.length t→Ok (F ag (mk t (l.length:Int))) Q):∀ (fuel i:Nat) (t:τ),l.length < fuel+i→i≤l.length→I i t→Ok (iterP F fuel (mk t i)) Q
 | 0,i,t,h,hi,_=>by omega
 | fuel+1,i,t,h,hi,hI=>by
  simp only [iterP]
  rcases Nat.lt_or_ge i l.length with hlt | hge
  ·exact h1 _ t i l[i] (List.getElem?_eq_getElem hlt) hI fun t' ht=>range_ok mk l I h1 h2 fuel (i+1) t' (by omega) (by omega) ht
  ·have:i=l.length:=by omega
   subst this
   exact h2 _ t hI
structure Nm (l:List Cl8):Prop where
 num:∀ x∈l,clNum x
 lim:∀ x∈l,leafV l x.1=true→0≤x.2.2.2.2.2.2.2∧x.2.2.2.2.2.2.2≤1000000000
theorem nm_of {l:List Cl8} (h:clsB l=true):Nm l:=by
 have T:=tr_of h
 unfold clsB at h
 simp only [Bool.and_eq_true,decide_eq_true_eq] at h
 obtain ⟨⟨h1,h2⟩,h3,h4,h5,h6,h7,h8,h9,h10⟩:=h
 refine ⟨fun x hx=>?_,fun x hx hlf=>?_⟩
 ·have a:=List.all_eq_true.1 h7 x hx
  have b:=List.all_eq_true.1 h9 x hx
  obtain ⟨i,hi⟩:=List.getElem?_of_mem hx
  unfold idsB at h3
  rw [allI_iff] at h3
  have g:=h3 i x hi
  unfold rateB at a
  unfold burB at b
  unfold idOk at g
  simp only [Bool.and_eq_true,decide_eq_true_eq] at a b g
  unfold clNum
  omega
 ·have a:=List.all_eq_true.1 h10 x hx
  unfold limB at a
  rw [if_pos hlf] at a
  simp only [decide_eq_true_eq] at a
  omega
theorem leaf_kd {l:List Cl8} {i:Int} (h:leafV l (clAt l i).1=true):kdI l i=[]:=by
 have:=kids_leaf (l:=l) (id:=(clAt l i).1)
 rw [h,beq_iff_eq] at this
 exact List.eq_nil_of_length_eq_zero (by unfold kdI;omega)
theorem p_last {d:Nat} {c:Cf} {i:Int} {ls:List ByteArray} {o f1 l1:List Int} (h0:0≤i) (h1:i.toNat < l1.length) {Q:Pr→Prop} (hQ:Q (c,ls,o,f1,l1.set i.toNat ((ls.length:Nat):Int))):Ok (j150_0 d i c.1 c.2.1 c.2.2.1 c.2.2.2 ls o f1 l1) Q:=by
 unfold j150_0
 rw [decide_eq_true h0,oif_t,blt_of h1,oif_t,List.getElem?_eq_getElem h1,ob_s]
 exact Ok.some hQ
theorem flat_take {α β:Type} {w:α→List β} {l:List α} {k:Nat} {x:α} (h:l[k]? = some x):(l.take (k+1)).flatMap w=(l.take k).flatMap w++w x:=by
 have hk:=(List.getElem?_eq_some_iff.1 h)
 obtain ⟨h1,h2⟩:=hk
 rw [List.take_succ,h]
 simp [List.flatMap_append]
theorem p_part {d:Nat} {c:Cf} (T:Tr c.2.1) (N:Nm c.2.1):∀ (f:Nat) (i:Int) (p:Pr) (lev:Int),vI c.2.1 i→9 - dpI c.2.1 i≤f→0≤lev→lev+f≤50→p.1=c→p.2.2.1.length+(wkI c.2.1 f i).length≤500→p.2.2.2.1.length=c.2.1.length→p.2.2.2.2.length=c.2.1.length→p.2.1.length+2*(wkI c.2.1 f i).length≤900 →
  Ok (g150 (d+4+f) p i lev) fun r=>r.1=c∧r.2.2.1=p.2.2.1++wkI c.2.1 f i∧r.2.2.2.1.length=c.2.1.length∧r.2.2.2.2.length=c.2.1.length∧r.2.1.length≤p.2.1.length+2*(wkI c.2.1 f i).length
 | 0,i,p,lev,hv,hf,_,_,_,_,_,_,_=>by have:=(T.way i hv).1;unfold dpI at *;omega
 | f+1,i,p,lev,hv,hf,hl0,hl1,hp,ho,h1,h2,h3=>by
  have h24:=T.n24
  obtain ⟨pc,ls,o,f1,l1⟩:=p
  simp only at hp ho h1 h2 h3
  subst hp
  have hg:=vI_get hv
  have hm:=List.mem_of_getElem? hg
  have hvb:=hv.2
  have hva:=hv.1
  have hlen:0 < (wkI pc.2.1 (f+1) i).length:=by simp [wkI]
  rw [show d+4+(f+1)=(d+4+f)+1 by omega,e150]
  simp only []
  have hlf:g166 (d+4+f) pc i=some (leafV pc.2.1 (clAt pc.2.1 i).1):=by
   have:=q_isLeaf (d:=d+f) (c:=pc) (n:=i.toNat) hg (by omega)
   rw [Int.toNat_of_nonneg hv.1,show d+f+4=d+4+f by omega] at this
   exact this
  rw [decide_eq_true hv.1,oif_t,hg,ob_s,room (by simp;omega),oif_t,hlf,ob_s]
  cases hL:leafV pc.2.1 (clAt pc.2.1 i).1 with
  | true =>
   rw [oif_t]
   have hk:=leaf_kd hL
   have hw:wkI pc.2.1 (f+1) i=[i]:=by simp [wkI,hk]
   rw [hw] at h3 ho ⊢
   simp only [List.length_cons,List.length_nil] at h3 ho ⊢
   rw [show d+4+f=(d+1+f)+3 by omega]
   refine Ok.bind (p_classHead (N.num _ hm)) fun r6 g6=>?_
   refine Ok.cat (by (try simp only [ByteArray.size_append,lsz,List.length_cons,List.length_nil] at *);omega) (by (try simp only [ByteArray.size_append,lsz,List.length_cons,List.length_nil] at *);omega) ?_
   obtain ⟨q1,q2⟩:=N.lim _ hm hL
   rw [show d+1+f+3=(d+2+f)+2 by omega]
   refine Ok.bind (p_numberText q1 q2) fun r7 g7=>?_
   refine Ok.cat (by (try simp only [ByteArray.size_append,lsz,List.length_cons,List.length_nil] at *);omega) (by (try simp only [ByteArray.size_append,lsz,List.length_cons,List.length_nil] at *);omega) ?_
   refine Ok.cat (by (try simp only [ByteArray.size_append,lsz,List.length_cons,List.length_nil] at *);omega) (by (try simp only [ByteArray.size_append,lsz,List.length_cons,List.length_nil] at *);omega) ?_
   refine Ok.bind (p_line hl0 (by omega) (by (try simp only [ByteArray.size_append,lsz,List.length_cons,List.length_nil] at *);omega) (by simp only;omega)) fun r8 g8=>?_
   obtain ⟨a1,a2,a3⟩:=g8
   obtain ⟨rc,rl,ro,rf,rr⟩:=r8
   simp only at a1 a2 a3
   subst a1
   injection a3 with a3 a4
   injection a4 with a4 a5
   subst a3 a4 a5
   simp only []
   have hb1:i.toNat < rf.length:=by omega
   have hb2:i.toNat < rr.length:=by omega
   rw [oif_t,blt_of hb1,oif_t,List.getElem?_eq_getElem hb1,ob_s]
   refine p_last hv.1 hb2 ⟨rfl,rfl,?_,?_,?_⟩
   ·simp only [List.length_set];exact h1
   ·simp only [List.length_set];exact h2
   ·simp only;omega
  | false =>
   rw [oif_f,show d+4+f=(d+1+f)+3 by omega]
   refine Ok.bind (p_classHead (N.num _ hm)) fun r10 g10=>?_
   refine Ok.cat (by (try simp only [ByteArray.size_append,lsz,List.length_cons,List.length_nil] at *);omega) (by (try simp only [ByteArray.size_append,lsz,List.length_cons,List.length_nil] at *);omega) ?_
   rw [show d+1+f+3=(d+2+f)+2 by omega]
   refine Ok.bind (p_line hl0 (by omega) (by (try simp only [ByteArray.size_append,lsz,List.length_cons,List.length_nil] at *);omega) (by simp only;omega)) fun r8 g8=>?_
   obtain ⟨a1,a2,a3⟩:=g8
   obtain ⟨rc,rl,ro,rf,rr⟩:=r8
   simp only at a1 a2 a3
   subst a1
   injection a3 with a3 a4
   injection a4 with a4 a5
   subst a3 a4 a5
   simp only []
   have hb1:i.toNat < rf.length:=by omega
   rw [oif_t,blt_of hb1,oif_t,List.getElem?_eq_getElem hb1,ob_s]
   have hck:g173 (d+2+f+2) rc i=some (kdI rc.2.1 i):=by
    have:=q_childrenOf (d:=d+f+3) (c:=rc) (n:=i.toNat) hg (by omega)
    rw [Int.toNat_of_nonneg hv.1,show d+f+3+1=d+2+f+2 by omega] at this
    exact this
   rw [hck,ob_s]
   have hkl:=kd_len T (i:=i)
   have hw:wkI rc.2.1 (f+1) i=i::(kdI rc.2.1 i).flatMap (wkI rc.2.1 f):=rfl
   have hpre:∀ k,((kdI rc.2.1 i).take k).flatMap (wkI rc.2.1 f)++((kdI rc.2.1 i).drop k).flatMap (wkI rc.2.1 f)=(kdI rc.2.1 i).flatMap (wkI rc.2.1 f):=fun k=>by rw [← List.flatMap_append,List.take_append_drop]
   have hprl:∀ k,(((kdI rc.2.1 i).take k).flatMap (wkI rc.2.1 f)).length+(((kdI rc.2.1 i).drop k).flatMap (wkI rc.2.1 f)).length=((kdI rc.2.1 i).flatMap (wkI rc.2.1 f)).length:=fun k=>by rw [← hpre k,List.length_append]
   rw [hw,List.length_cons] at ho h3
   refine range_ok (fun (t:Pr) (k:Int)=>(k,t)) (kdI rc.2.1 i) (fun k t=>t.1=rc∧t.2.2.1=o++[i]++((kdI rc.2.1 i).take k).flatMap (wkI rc.2.1 f)∧t.2.2.2.1.length=rc.2.1.length∧t.2.2.2.2.length=rc.2.1.length∧t.2.1.length≤ls.length+1+2*(((kdI rc.2.1 i).take k).flatMap (wkI rc.2.1 f)).length) ?_ ?_ fuelN 0 _ (by rw [fuelN_eq];omega) (by omega) ⟨rfl,by simp,by simp only [List.length_set];exact h1,h2,by simp only;rw [a2];simp⟩
   ·rintro ag ⟨yc,yl,yo,yf,yr⟩ k x hx ⟨b1,b2,b3,b4,b5⟩ hag
    simp only at b1 b2 b3 b4 b5
    subst b1
    have hk:=(List.getElem?_eq_some_iff.1 hx).1
    obtain ⟨v1,v2,v3⟩:=kd_dp T hv (List.mem_of_getElem? hx)
    simp only [l150_0,l150_0_b,ltl hx,nn,ofNat_toNat,hx,ob_s,oif_t,bltl hx]
    have hdr:(kdI yc.2.1 i).drop k=x::(kdI yc.2.1 i).drop (k+1):=by
     rw [List.drop_eq_getElem_cons hk,(List.getElem?_eq_some_iff.1 hx).2]
    have hq:=hprl k
    rw [hdr,List.flatMap_cons,List.length_append] at hq
    rw [wr1 (by omega),wr (n:=lev+1) (by omega) (by omega),show d+2+f+2=d+4+f by omega]
    refine Ok.bind (p_part T N f x (yc,yl,yo,yf,yr) (lev+1) v1 (by omega) (by omega) (by omega) rfl ?_ b3 b4 ?_) fun r hr=>?_
    ·simp only;rw [b2];simp only [List.length_append,List.length_cons,List.length_nil];omega
    ·simp only;omega
    ·obtain ⟨c1,c2,c3,c4,c5⟩:=hr
     refine hag r ⟨c1,?_,c3,c4,?_⟩
     ·rw [c2,flat_take hx];simp only;rw [b2];simp
     ·rw [flat_take hx,List.length_append];simp only at c5;omega
   ·rintro ag ⟨yc,yl,yo,yf,yr⟩ ⟨b1,b2,b3,b4,b5⟩
    simp only at b1 b2 b3 b4 b5
    subst b1
    simp only [l150_0,l150_0_b,ltn,oif_f]
    unfold j150_1
    rw [List.take_length] at b2 b5
    have hb3:i.toNat < yr.length:=by omega
    refine Ok.bind (p_line hl0 (by omega) (by decide) (by simp only;omega)) fun r8 g8=>?_
    obtain ⟨e1,e2,e3⟩:=g8
    obtain ⟨rc',rl',ro',rf',rr'⟩:=r8
    simp only at e1 e2 e3
    have e1':rc'=yc:=e1
    subst e1'
    injection e3 with e3 e4
    injection e4 with e4 e5
    subst e3 e4 e5
    refine p_last hv.1 hb3 ⟨rfl,?_,b3,?_,?_⟩
    ·rw [b2,hw];simp
    ·simp only [List.length_set];exact b4
    ·rw [hw,List.length_cons];simp only;omega
end Go.Proofs.YtgilhiacfogiaaaGreatDoor
set_option linter.all false
namespace Go.Proofs.YtgilhiacfogiaaaGreatDoor
open Go.Ev Go.Pv
theorem ble_of {a b:Nat} (h:a≤b):Nat.ble a b=true:=ble_t h
theorem nilB_same {β:Type} {n:Nat} {a b:Option β} (h:n=0→a=b):nilB n a b=b:=by
 cases n with
 | zero=>rw [h rfl];simp [nilB,both]
 | succ n=>rfl
theorem q_CloneF {d:Nat} {l:List Fl5} (hl:l.length≤1000):g92 (d+1) l=some l:=by
 rw [e92,nilB_same (fun h=>?_),room (by simp;omega),oif_t,List.nil_append]
 rw [List.length_eq_zero_iff.1 h];rfl
theorem q_mul1 {d n:Nat} (hn:n≤40):g153 (d+2) (IntKind.u64.wrap ((([(-1:Int)].length:Nat):Int))) (IntKind.u64.wrap (n:Int))=some (0,(n:Int)):=by
 rw [e153,e178,ob_s]
 obtain ⟨m,rfl⟩:∃ m:Fin 41,n=m.val:=⟨⟨n,by omega⟩,rfl⟩
 clear hn
 revert m
 decide +kernel
theorem q_Repeat1 {d n:Nat} (hn:n≤40):g124 (d+3) [(-1)] ((n:Nat):Int)=some (List.replicate n (-1)):=by
 rw [e124,decide_eq_false (show ¬ ((n:Nat):Int) < 0 by omega),oif_f,q_mul1 hn,ob_s]
 simp only
 rw [show decide ((0:Int) > 0)=false from rfl,oif_f,decide_eq_false (show ¬ ((n:Nat):Int) > 9223372036854775807 by omega)]
 unfold j124_1
 rw [oif_f]
 simp only
 rw [wr (n:=(n:Int)) (by omega) (by omega),nn,oif_t,oif_t,ofNat_toNat]
 have hroom:(Nat.ble n n&&Nat.ble (n*8) roomMax)=true:=by rw [ble_of (Nat.le_refl _),ble_of (show n*8≤roomMax by unfold roomMax;omega)];rfl
 rw [hroom,oif_t]
 refine Ok.val (iter_ok (fun j s=>∃ k:Nat,k+j=n∧(n=0∨0 < k)∧s.1=(k:Int)∧s.2=List.replicate k (-1)++List.replicate (n - k) 0) ?_ _ (n - min 1 n) _ (by rw [fuelN_eq];omega) ⟨min 1 n,by omega,by omega,by simp,?_⟩)
 ·rintro j ⟨x,l⟩ ag ⟨k,hk,hpos,h1,h2⟩ hag
  simp only at h1 h2
  subst h1
  have hl:l.length=n:=by rw [h2];simp;omega
  simp only [l124_0,l124_0_b]
  rw [hl]
  rcases Nat.lt_or_ge k n with hlt | hge
  ·have e1:(l.take k).length=k:=by simp;omega
   rw [decide_eq_true (show ((k:Nat):Int) < ((n:Nat):Int) by omega),oif_t,nn,oif_t,ofNat_toNat,ble_of (show k≤n by omega),oif_t,oif_t,oif_t,Nat.zero_add,e1,wr (by omega) (by omega)]
   refine hag (n - (k+min k (n - k))) _ (by omega) ⟨k+min k (n - k),by omega,by omega,by simp,?_⟩
   simp only [cpy]
   rw [e1,h2]
   have t1:(List.replicate k (-1:Int)++List.replicate (n - k) 0).take k=List.replicate k (-1):=by rw [List.take_left' (by simp)]
   have t2:(List.replicate k (-1:Int)).take (n - k)=List.replicate (min k (n - k)) (-1):=by rw [List.take_replicate,Nat.min_comm]
   have t3:(List.replicate k (-1:Int)++List.replicate (n - k) 0).drop (k+min k (n - k))=List.replicate (n - (k+min k (n - k))) 0:=by
    rw [List.drop_append,List.drop_of_length_le (by simp),List.nil_append,List.drop_replicate]
    congr 1
    simp;omega
   rw [t1,t2,t3,← List.replicate_append_replicate]
  ·have:k=n:=by omega
   subst this
   rw [ltn,oif_f]
   unfold j124_0
   exact Ok.some (by rw [h2];simp)
 ·simp only [cpy,List.take_zero,List.nil_append,Nat.zero_add]
  rcases Nat.eq_zero_or_pos n with e | e
  ·subst e;rfl
  ·rw [show min 1 n=1 by omega]
   rw [List.take_of_length_le (by simp;omega),List.drop_replicate]
   simp only [List.length_replicate,List.length_singleton]
   rw [show min 1 n=1 by omega];rfl
def laF (p:Nat→Int):Nat→Int→Int
 | 0,_=>-1
 | k+1,q=>if p k=q then (k:Int) else laF p k q
def fiF (p:Nat→Int):Nat→Int→Int
 | 0,_=>-1
 | k+1,q=>if p k=q∧laF p k q < 0 then (k:Int) else fiF p k q
def neF (p:Nat→Int):Nat→Int→Int
 | 0,_=>-1
 | k+1,q=>if 0≤p k∧laF p k (p k)=q then (k:Int) else neF p k q
theorem laF_spec (p:Nat→Int) (q:Int):∀ m,(laF p m q=-1∧∀ j,j < m→p j≠q)∨∃ r:Nat,laF p m q=(r:Int)∧r < m∧p r=q∧∀ j,r < j→j < m→p j≠q
 | 0=>.inl ⟨rfl,fun j h=>by omega⟩
 | m+1=>by
  simp only [laF]
  by_cases h:p m=q
  ·rw [if_pos h];exact .inr ⟨m,rfl,by omega,h,fun j h1 h2=>by omega⟩
  ·rw [if_neg h]
   rcases laF_spec p q m with ⟨h1,h2⟩ | ⟨r,h1,h2,h3,h4⟩
   ·refine .inl ⟨h1,fun j hj=>?_⟩
    rcases Nat.lt_or_ge j m with g | g
    ·exact h2 j g
    ·obtain rfl:j=m:=by omega
     exact h
   ·refine .inr ⟨r,h1,by omega,h3,fun j g1 g2=>?_⟩
    rcases Nat.lt_or_ge j m with g | g
    ·exact h4 j g1 g
    ·obtain rfl:j=m:=by omega
     exact h
theorem fiF_spec (p:Nat→Int) (q:Int):∀ m,(fiF p m q=-1∧∀ j,j < m→p j≠q)∨∃ r:Nat,fiF p m q=(r:Int)∧r < m∧p r=q∧∀ j,j < r→p j≠q
 | 0=>.inl ⟨rfl,fun j h=>by omega⟩
 | m+1=>by
  simp only [fiF]
  by_cases h:p m=q∧laF p m q < 0
  ·rw [if_pos h]
   refine .inr ⟨m,rfl,by omega,h.1,?_⟩
   rcases laF_spec p q m with ⟨_,h2⟩ | ⟨r,h1,_⟩
   ·exact h2
   ·omega
  ·rw [if_neg h]
   rcases fiF_spec p q m with ⟨h1,h2⟩ | ⟨r,h1,h2,h3,h4⟩
   ·refine .inl ⟨h1,fun j hj=>?_⟩
    rcases Nat.lt_or_ge j m with g | g
    ·exact h2 j g
    ·obtain rfl:j=m:=by omega
     intro e
     refine h ⟨e,?_⟩
     rcases laF_spec p q j with ⟨g1,_⟩ | ⟨r,g1,g2,g3,_⟩
     ·omega
     ·exact absurd g3 (h2 r g2)
   ·exact .inr ⟨r,h1,by omega,h3,h4⟩
theorem neF_spec (p:Nat→Int) (k:Nat) (hk:0≤p k):∀ m,(neF p m k=-1∧∀ j,k < j→j < m→p j≠p k)∨∃ r:Nat,neF p m k=(r:Int)∧k < r∧r < m∧p r=p k∧∀ j,k < j→j < r→p j≠p k
 | 0=>.inl ⟨rfl,fun j _ h=>by omega⟩
 | m+1=>by
  simp only [neF]
  by_cases h:0≤p m∧laF p m (p m)=(k:Int)
  ·rw [if_pos h]
   rcases laF_spec p (p m) m with ⟨g1,_⟩ | ⟨r,g1,g2,g3,g4⟩
   ·omega
   ·obtain rfl:r=k:=by omega
    exact .inr ⟨m,rfl,g2,by omega,g3.symm,fun j h1 h2=>by rw [g3];exact g4 j h1 h2⟩
  ·rw [if_neg h]
   rcases neF_spec p k hk m with ⟨h1,h2⟩ | ⟨r,h1,h2,h3,h4,h5⟩
   ·refine .inl ⟨h1,fun j g1 g2=>?_⟩
    rcases Nat.lt_or_ge j m with g | g
    ·exact h2 j g1 g
    ·obtain rfl:j=m:=by omega
     intro e
     refine h ⟨by omega,?_⟩
     rw [e]
     rcases laF_spec p (p k) j with ⟨_,q2⟩ | ⟨r,q1,q2,q3,q4⟩
     ·exact absurd rfl (q2 k g1)
     ·rcases Nat.lt_trichotomy r k with q | q | q
      ·exact absurd rfl (q4 k q g1)
      ·rw [q1,q]
      ·exact absurd q3 (h2 r q q2)
   ·exact .inr ⟨r,h1,h2,by omega,h4,h5⟩
theorem neF_no (p:Nat→Int) (k:Nat) (hk:p k < 0):∀ m,neF p m k=-1
 | 0=>rfl
 | m+1=>by
  simp only [neF]
  rw [if_neg,neF_no p k hk m]
  rintro ⟨h1,h2⟩
  rcases laF_spec p (p m) m with ⟨g1,_⟩ | ⟨r,g1,g2,g3,g4⟩
  ·omega
  ·obtain rfl:r=k:=by omega
   omega
def pF (l:List Cl8) (k:Nat):Int:=pW l (parI l ((wlk l).getD k 0))
theorem wlk_lt {l:List Cl8} (T:Tr l) {a b:Nat} {x y:Int} (ha:(wlk l)[a]? = some x) (hb:(wlk l)[b]? = some y) (h:a < b) (hp:parI l x=parI l y):x < y:=by
 have:=List.pairwise_iff_getElem.1 (wlk_order T)
 obtain ⟨a1,a2⟩:=List.getElem?_eq_some_iff.1 ha
 obtain ⟨b1,b2⟩:=List.getElem?_eq_some_iff.1 hb
 have h1:=this a b a1 b1 h
 rw [a2,b2] at h1
 exact h1 hp
theorem pF_of {l:List Cl8} {k:Nat} {i:Int} (h:(wlk l)[k]? = some i):pF l k=pW l (parI l i):=by
 unfold pF;rw [List.getD_eq_getElem?_getD,h];rfl
theorem pW_inj {l:List Cl8} (T:Tr l) {x y:Int} (hx:vI l x) (h:pW l x=pW l y):x=y:=by
 obtain ⟨a,a1,a2⟩:=pW_of T hx
 by_cases hy:vI l y
 ·obtain ⟨b,b1,b2⟩:=pW_of T hy
  have:a=b:=by omega
  subst this
  rw [a1] at b1;injection b1
 ·have:pW l y=-1:=pos_none fun hm=>hy ((wlk_mem T).1 hm)
  omega
theorem pF_kid {l:List Cl8} (T:Tr l) {i:Int} (hi:vI l i) {j:Nat} (hj:j < (wlk l).length) (h:pF l j=pW l i):∃ x,(wlk l)[j]? = some x∧x∈kdI l i:=by
 have hg:=List.getElem?_eq_getElem hj
 refine ⟨_,hg,?_⟩
 rw [pF_of hg] at h
 have:=pW_inj T hi h.symm
 exact (kd_mem T hi).2 ⟨(wlk_mem T).1 (List.getElem_mem hj),this.symm⟩
theorem kid_pF {l:List Cl8} (T:Tr l) {i x:Int} (hi:vI l i) (hx:x∈kdI l i):∃ m:Nat,(wlk l)[m]? = some x∧pW l x=(m:Int)∧m < (wlk l).length∧pF l m=pW l i∧parI l x=i:=by
 obtain ⟨v1,v2,_⟩:=kd_dp T hi hx
 obtain ⟨m,m1,m2⟩:=pW_of T v1
 exact ⟨m,m1,m2,(List.getElem?_eq_some_iff.1 m1).1,by rw [pF_of m1,v2],v2⟩
theorem first_eq {l:List Cl8} (T:Tr l) {i:Int} (hi:vI l i):fiF (pF l) (wlk l).length (pW l i)=pW l (fsI l i):=by
 unfold fsI
 cases hk:kdI l i with
 | nil =>
  rw [List.headD_nil,pW_no T (show (-1:Int) < 0 by omega)]
  rcases fiF_spec (pF l) (pW l i) (wlk l).length with ⟨h1,_⟩ | ⟨r,h1,h2,h3,_⟩
  ·exact h1
  ·obtain ⟨x,_,hx⟩:=pF_kid T hi h2 h3
   rw [hk] at hx;simp at hx
 | cons k r0 =>
  rw [List.headD_cons]
  obtain ⟨m,m1,m2,m3,m4,m5⟩:=kid_pF T hi (show k∈kdI l i by rw [hk];simp)
  rw [m2]
  have hs:=kd_sorted (l:=l) (i:=i)
  rw [hk,List.pairwise_cons] at hs
  rcases fiF_spec (pF l) (pW l i) (wlk l).length with ⟨_,h2⟩ | ⟨r,h1,h2,h3,h4⟩
  ·exact absurd m4 (h2 m m3)
  ·rw [h1]
   rcases Nat.lt_trichotomy r m with g | g | g
   ·obtain ⟨x,x1,x2⟩:=pF_kid T hi h2 h3
    have:=wlk_lt T x1 m1 g (by rw [m5];exact ((kd_mem T hi).1 x2).2)
    rw [hk] at x2
    rcases List.mem_cons.1 x2 with e | e
    ·omega
    ·have:=hs.1 x e;omega
   ·rw [g]
   ·exact absurd m4 (h4 m g)
theorem last_eq {l:List Cl8} (T:Tr l) {i:Int} (hi:vI l i):laF (pF l) (wlk l).length (pW l i)=pW l ((kdI l i).getLastD (-1)):=by
 rcases List.eq_nil_or_concat (kdI l i) with hk | ⟨K,c,hk⟩
 ·rw [hk,List.getLastD_nil,pW_no T (show (-1:Int) < 0 by omega)]
  rcases laF_spec (pF l) (pW l i) (wlk l).length with ⟨h1,_⟩ | ⟨r,h1,h2,h3,_⟩
  ·exact h1
  ·obtain ⟨x,_,hx⟩:=pF_kid T hi h2 h3
   rw [hk] at hx;simp at hx
 ·rw [List.concat_eq_append] at hk
  rw [hk,List.getLastD_concat]
  obtain ⟨m,m1,m2,m3,m4,m5⟩:=kid_pF T hi (show c∈kdI l i by rw [hk];simp)
  rw [m2]
  have hs:=kd_sorted (l:=l) (i:=i)
  rw [hk,List.pairwise_append] at hs
  rcases laF_spec (pF l) (pW l i) (wlk l).length with ⟨_,h2⟩ | ⟨r,h1,h2,h3,h4⟩
  ·exact absurd m4 (h2 m m3)
  ·rw [h1]
   rcases Nat.lt_trichotomy r m with g | g | g
   ·exact absurd m4 (h4 m g m3)
   ·rw [g]
   ·obtain ⟨x,x1,x2⟩:=pF_kid T hi h2 h3
    have:=wlk_lt T m1 x1 g (by rw [m5];exact ((kd_mem T hi).1 x2).2.symm)
    rw [hk] at x2
    rcases List.mem_append.1 x2 with e | e
    ·have:=hs.2.2 x e c (by simp);omega
    ·simp at e;omega
theorem next_eq {l:List Cl8} (T:Tr l) {k:Nat} {i:Int} (hk:(wlk l)[k]? = some i):neF (pF l) (wlk l).length (k:Int)=pW l (nxI l i):=by
 have hi:vI l i:=(wlk_mem T).1 (List.mem_of_getElem? hk)
 have hp:pF l k=pW l (parI l i):=pF_of hk
 unfold nxI
 by_cases h0:parI l i < 0
 ·rw [if_pos h0,pW_no T (show (-1:Int) < 0 by omega)]
  exact neF_no _ k (by rw [hp,pW_no T h0];omega) _
 ·rw [if_neg h0]
  have hv:=par_v (l:=l) (i:=i) (by omega)
  obtain ⟨K1,K2,e⟩:=List.append_of_mem ((kd_mem T hv).2 ⟨hi,rfl⟩)
  have hpos:posV (kdI l (parI l i)) i=(K1.length:Int):=pos_of kd_nodup (by rw [e];simp)
  obtain ⟨a,_,a2⟩:=pW_of T hv
  have hs:=kd_sorted (l:=l) (i:=parI l i)
  rw [e,List.pairwise_append,List.pairwise_cons] at hs
  obtain ⟨s1,⟨s2,s3⟩,s4⟩:=hs
  have kid:∀ j,k < j→j < (wlk l).length→pF l j=pF l k→∃ x,(wlk l)[j]? = some x∧i < x∧x∈K2∧parI l x=parI l i:=by
   intro j h1 h2 h3
   rw [hp] at h3
   obtain ⟨x,x1,x2⟩:=pF_kid T hv h2 h3
   have hpx:=((kd_mem T hv).1 x2).2
   have hlt:=wlk_lt T hk x1 h1 hpx.symm
   refine ⟨x,x1,hlt,?_,hpx⟩
   rw [e] at x2
   rcases List.mem_append.1 x2 with g | g
   ·have:=s4 x g i (by simp);omega
   ·rcases List.mem_cons.1 g with g | g
    ·omega
    ·exact g
  rw [hpos,ofNat_toNat,List.getD_eq_getElem?_getD]
  have hget:(kdI l (parI l i))[K1.length+1]? = K2[0]?:=by rw [e,List.getElem?_append_right (by omega)];simp
  rw [hget]
  cases K2 with
  | nil =>
   rw [show (([]:List Int)[0]?).getD (-1)=-1 from rfl,pW_no T (show (-1:Int) < 0 by omega)]
   rcases neF_spec (pF l) k (by omega) (wlk l).length with ⟨h1,_⟩ | ⟨r,h1,h2,h3,h4,_⟩
   ·exact h1
   ·obtain ⟨x,_,_,x3,_⟩:=kid r h2 h3 h4
    simp at x3
  | cons y K3 =>
   rw [show ((y::K3)[0]?).getD (-1)=y from rfl]
   obtain ⟨m,m1,m2,m3,m4,m5⟩:=kid_pF T hv (show y∈kdI l (parI l i) by rw [e];simp)
   have hiy:i < y:=s2 y (by simp)
   have hkm:k < m:=by
    rcases Nat.lt_trichotomy k m with g | g | g
    ·exact g
    ·subst g;rw [hk] at m1;injection m1 with m1;omega
    ·have:=wlk_lt T m1 hk g m5;omega
   rw [m2]
   rw [List.pairwise_cons] at s3
   rcases neF_spec (pF l) k (by omega) (wlk l).length with ⟨_,h2⟩ | ⟨r,h1,h2,h3,h4,h5⟩
   ·exact absurd (by rw [m4,hp]) (h2 m hkm m3)
   ·rw [h1]
    rcases Nat.lt_trichotomy r m with g | g | g
    ·obtain ⟨x,x1,x2,x3,x4⟩:=kid r h2 h3 h4
     have:=wlk_lt T x1 m1 g (by rw [x4,m5])
     rcases List.mem_cons.1 x3 with q | q
     ·omega
     ·have:=s3.1 x q;omega
    ·rw [g]
    ·exact absurd (by rw [m4,hp]) (h5 m hkm g)
theorem end_eq {l:List Cl8} (T:Tr l) {k:Nat} {i:Int} (hk:(wlk l)[k]? = some i):(kdI l i=[]∧enI l k i=(k:Int)+1)∨∃ (m:Nat) (c:Int),(wlk l)[m]? = some c∧pW l ((kdI l i).getLastD (-1))=(m:Int)∧k < m∧enI l k i=enI l m c:=by
 have hi:vI l i:=(wlk_mem T).1 (List.mem_of_getElem? hk)
 have hkw:pW l i=(k:Int):=pos_of (wlk_nodup T) hk
 rcases List.eq_nil_or_concat (kdI l i) with hn | ⟨K,c,hn⟩
 ·refine .inl ⟨hn,?_⟩
  unfold enI
  rw [sub_eq T hi,hn];simp
 ·right
  rw [List.concat_eq_append] at hn
  obtain ⟨A,B,e⟩:=wlk_part T (dpI l i) i (Nat.le_refl _) hi
  have hc:=(kd_dp T hi (show c∈kdI l i by rw [hn];simp)).1
  have es:subI l i=i::(K.flatMap (subI l)++subI l c):=by rw [sub_eq T hi,hn];simp
  have ec:subI l c=c::(kdI l c).flatMap (subI l):=sub_eq T hc
  have hA:(wlk l)[A.length]? = some i:=by rw [e,es];simp
  have hAk:A.length=k:=by have:=pos_of (wlk_nodup T) hA;unfold pW at hkw;omega
  have e2:wlk l=(A++i::K.flatMap (subI l))++(subI l c++B):=by rw [e,es];simp
  have hm:(wlk l)[(A++i::K.flatMap (subI l)).length]? = some c:=by
   rw [e2,List.getElem?_append_right (Nat.le_refl _),Nat.sub_self,ec];rfl
  refine ⟨(A++i::K.flatMap (subI l)).length,c,hm,?_,by simp;omega,?_⟩
  ·rw [hn,List.getLastD_concat];exact pos_of (wlk_nodup T) hm
  ·unfold enI
   rw [es]
   simp only [List.length_cons,List.length_append]
   omega
end Go.Proofs.YtgilhiacfogiaaaGreatDoor
set_option linter.all false
namespace Go.Proofs.YtgilhiacfogiaaaGreatDoor
open Go.Ev Go.Pv
def tb (n:Nat) (g:Int→Int):List Int:=(List.range n).map fun (q:Nat)=>g (q:Int)
theorem tb_len {n:Nat} {g:Int→Int}:(tb n g).length=n:=by simp [tb]
theorem tb_get {n:Nat} {g:Int→Int} {q:Nat} (h:q < n):(tb n g)[q]? = some (g (q:Int)):=by simp [tb,h]
theorem tb_congr {n:Nat} {g h:Int→Int} (e:∀ q:Nat,q < n→g (q:Int)=h (q:Int)):tb n g=tb n h:=by
 unfold tb
 exact List.map_congr_left fun q hq=>e q (List.mem_range.1 hq)
theorem tb_set {n:Nat} {g:Int→Int} {q:Nat} {v:Int} (h:q < n):(tb n g).set q v=tb n fun x=>if x=(q:Int) then v else g x:=by
 apply List.ext_getElem?
 intro j
 rcases Nat.lt_or_ge j n with hj | hj
 ·rw [tb_get hj]
  by_cases hq:j=q
  ·subst hq;rw [List.getElem?_set_self (by rw [tb_len];exact hj),if_pos rfl]
  ·rw [List.getElem?_set_ne (by omega),tb_get hj,if_neg (by omega)]
 ·rw [List.getElem?_eq_none (by rw [List.length_set,tb_len];exact hj),List.getElem?_eq_none (by rw [tb_len];exact hj)]
theorem tb_rep {n:Nat} {v:Int}:List.replicate n v=tb n fun _=>v:=by
 apply List.ext_getElem?
 intro j
 rcases Nat.lt_or_ge j n with hj | hj
 ·rw [tb_get hj,List.getElem?_replicate,if_pos hj]
 ·rw [List.getElem?_eq_none (by simp;exact hj),List.getElem?_eq_none (by rw [tb_len];exact hj)]
theorem tb_map {W:List Int} {g e:Int→Int} (h:∀ (k:Nat) i,W[k]? = some i→g (k:Int)=e i):tb W.length g=W.map e:=by
 apply List.ext_getElem?
 intro j
 rcases Nat.lt_or_ge j W.length with hj | hj
 ·rw [tb_get hj,List.getElem?_map,List.getElem?_eq_getElem hj,h j _ (List.getElem?_eq_getElem hj)];rfl
 ·rw [List.getElem?_eq_none (by rw [tb_len];exact hj),List.getElem?_eq_none (by simp;exact hj)]
theorem mfind_mput {a v b:Int}:∀ {es:List (Int×Int)},mfind (mput es a v) b=if b=a then some v else mfind es b
 | []=>by
  by_cases h:b=a
  ·rw [if_pos h];simp [mput,mfind,h]
  ·rw [if_neg h];simp only [mput,mfind];rw [show (b==a)=false by simp [h]]
 | (x,u)::r=>by
  simp only [mput]
  by_cases hx:a=x
  ·rw [show (a==x)=true by simp [hx]]
   simp only [mfind]
   by_cases h:b=a
   ·rw [if_pos h,show (b==x)=true by simp [h,hx]]
   ·rw [if_neg h,show (b==x)=false by rw [← hx];simp [h]]
  ·rw [show (a==x)=false by simp [hx]]
   simp only [mfind]
   by_cases h:b=x
   ·rw [show (b==x)=true by simp [h]]
    simp only []
    rw [if_neg (fun e=>hx (by rw [← e,h]))]
   ·rw [show (b==x)=false by simp [h]]
    simp only []
    exact mfind_mput
def esF (l:List Cl8) (L:List Int) (k:Nat) (es:List (Int×Int)):List (Int×Int):=foldI (fun i k es=>mput es (clAt l i).1 ((k:Nat):Int)) L k es
theorem es_no {l:List Cl8} {id:Int}:∀ (L:List Int) (k:Nat) (es:List (Int×Int)),(∀ y∈L,(clAt l y).1≠id)→mfind (esF l L k es) id=mfind es id
 | [],k,es,_=>rfl
 | x::r,k,es,h=>by
  show mfind (esF l r (k+1) (mput es (clAt l x).1 (k:Int))) id=_
  rw [es_no r (k+1) _ (fun y hy=>h y (by simp [hy])),mfind_mput,if_neg (fun e=>h x (by simp) e.symm)]
theorem es_at {l:List Cl8}:∀ (L:List Int) (k:Nat) (es:List (Int×Int)) (j:Nat) (x:Int),L[j]? = some x→(∀ y∈L.drop (j+1),(clAt l y).1≠(clAt l x).1)→mfind (esF l L k es) (clAt l x).1=some ((k+j:Nat):Int)
 | [],k,es,j,x,h,_=>by simp at h
 | y::r,k,es,0,x,h,hn=>by
  simp only [List.getElem?_cons_zero,Option.some.injEq] at h
  subst h
  show mfind (esF l r (k+1) (mput es (clAt l y).1 (k:Int))) _=_
  rw [es_no r (k+1) _ (by simpa using hn),mfind_mput,if_pos rfl,Nat.add_zero]
 | y::r,k,es,j+1,x,h,hn=>by
  show mfind (esF l r (k+1) (mput es (clAt l y).1 (k:Int))) _=_
  rw [es_at r (k+1) _ j x (by simpa using h) (by simpa using hn)]
  congr 2;omega
def esV (l:List Cl8):List (Int×Int):=esF l (wlk l) 0 []
theorem esV_find {l:List Cl8} (T:Tr l) {id:Int}:mfind (esV l) id=if 0≤fid l id then some (pW l (fid l id)) else none:=by
 unfold esV
 by_cases h:0≤fid l id
 ·rw [if_pos h]
  have hv:vI l (fid l id):=⟨h,fid_lt⟩
  obtain ⟨k,x,h1,h2,h3⟩:=fid_some h
  obtain ⟨j,j1,j2⟩:=pW_of T hv
  have e:(clAt l (fid l id)).1=id:=by rw [h1,clAt_of h2,h3]
  have:=es_at (l:=l) (wlk l) 0 [] j _ j1 (fun y hy=>by
   intro e2
   have hyW:=List.mem_of_mem_drop hy
   have:=T.inj _ _ ((wlk_mem T).1 hyW) hv e2
   subst this
   obtain ⟨q,hq⟩:=List.getElem?_of_mem hy
   rw [List.getElem?_drop] at hq
   have h1:=pos_of (wlk_nodup T) hq
   have h2:=pos_of (wlk_nodup T) j1
   omega)
  rw [e] at this
  rw [this,j2,Nat.zero_add]
 ·rw [if_neg h]
  rw [es_no (wlk l) 0 [] (fun y hy=>fid_neg.1 (by omega) _ (List.mem_of_getElem? (vI_get ((wlk_mem T).1 hy))))]
  rfl
theorem rangeR_foldI {α τ β:Type} {f:α→Nat→τ→τ} {step:α→Nat→τ→(τ→Option β)→Option β} {fin:τ→Option β} (I:Nat→τ→Prop):∀ (l:List α) (i:Nat) (t:τ),I i t→(∀ j x t k,l[j]? = some x→I (i+j) t→step x (i+j) t k=k (f x (i+j) t)∧I (i+j+1) (f x (i+j) t))→rangeR step fin l i t=fin (foldI f l i t)
 | [],i,t,_,_=>rfl
 | x::r,i,t,hI,h=>by
  simp only [rangeR,foldI]
  obtain ⟨h1,h2⟩:=h 0 x t (fun t'=>rangeR step fin r (i+1) t') rfl hI
  rw [Nat.add_zero] at h1 h2
  rw [h1]
  exact rangeR_foldI I r (i+1) _ h2 (fun j y t k hy ht=>by
   have:=h (j+1) y t k (by simpa using hy)
   rw [show i+(j+1)=i+1+j by omega] at this
   exact this ht)
theorem foldI_pair {α σ τ:Type} {f:α→Nat→σ→σ} {g:α→Nat→τ→τ}:∀ (l:List α) (i:Nat) (a:σ) (b:τ),foldI (fun x k (t:σ×τ)=>(f x k t.1,g x k t.2)) l i (a,b)=(foldI f l i a,foldI g l i b)
 | [],_,_,_=>rfl
 | x::r,i,a,b=>by simp only [foldI];exact foldI_pair r (i+1) _ _
theorem foldI_map {α γ:Type} {e:α→γ}:∀ (l:List α) (i:Nat) (a:List γ),foldI (fun x _ t=>t++[e x]) l i a=a++l.map e
 | [],_,a=>by simp [foldI]
 | x::r,i,a=>by simp only [foldI];rw [foldI_map r (i+1)];simp
def paT (p:Nat→Int) (n k:Nat):List Int:=(List.range k).map p++List.replicate (n - k) 0
theorem paT_len {p:Nat→Int} {n k:Nat} (h:k≤n):(paT p n k).length=n:=by simp [paT];omega
theorem paT_set {p:Nat→Int} {n k:Nat} (h:k < n):(paT p n k).set k (p k)=paT p n (k+1):=by
 unfold paT
 rw [show n - k=(n - (k+1))+1 by omega,List.replicate_succ,List.set_append_right _ _ (by simp),List.length_map,List.length_range,Nat.sub_self,List.set_cons_zero,List.range_succ]
 simp
theorem i_scan {d:Nat} {l:List Cl8} (T:Tr l) {kx:List Int→List Int→List Int→List Int→Option Ld}:∀ (m k fuel:Nat),k+m=(wlk l).length→m < fuel →
  iterP (l88_1 d (esV l) ((wlk l).map (clAt l)) kx) fuel ((k:Int),tb (wlk l).length (fiF (pF l) k),tb (wlk l).length (neF (pF l) k),paT (pF l) (wlk l).length k,tb (wlk l).length (laF (pF l) k))=kx (tb (wlk l).length (laF (pF l) (wlk l).length)) (tb (wlk l).length (fiF (pF l) (wlk l).length)) (tb (wlk l).length (neF (pF l) (wlk l).length)) (paT (pF l) (wlk l).length (wlk l).length)
 | m,k,0,_,h=>by omega
 | 0,k,fuel+1,hk,_=>by
  rw [Nat.add_zero] at hk
  subst hk
  simp only [iterP,l88_1,l88_1_b,List.length_map]
  rw [ltn,oif_f]
 | m+1,k,fuel+1,hk,hf=>by
  have hkn:k < (wlk l).length:=by omega
  have hW:=wlk_len T
  have h24:=T.n24
  have hg:=List.getElem?_eq_getElem hkn
  have hi:=(wlk_mem T).1 (List.mem_of_getElem? hg)
  have next:=i_scan (d:=d) T (kx:=kx) m (k+1) fuel (by omega) (by omega)
  have hp:=pF_of hg
  simp only [iterP,l88_1,l88_1_b,List.length_map]
  rw [decide_eq_true (show (k:Int) < (((wlk l).length:Nat):Int) by omega),oif_t,nn,oif_t,ofNat_toNat,blt_of hkn,oif_t,List.getElem?_map,hg,Option.map_some,ob_s,esV_find T]
  rw [show fid l (clAt l (wlk l)[k]).2.1=parI l (wlk l)[k] from rfl]
  have hpl:(paT (pF l) (wlk l).length k).length=(wlk l).length:=paT_len (by omega)
  have hpg:(paT (pF l) (wlk l).length k)[k]? = some ((paT (pF l) (wlk l).length k)[k]'(by omega)):=List.getElem?_eq_getElem (by omega)
  by_cases h0:0≤parI l (wlk l)[k]
  ·rw [if_pos h0]
   have hv:=par_v h0
   obtain ⟨a,a1,a2⟩:=pW_of T hv
   have ha:=(List.getElem?_eq_some_iff.1 a1).1
   rw [a2] at hp
   rw [a2]
   simp only [Option.isSome_some,Bool.not_true,oif_f,Option.getD_some,nn,oif_t,ofNat_toNat,tb_len]
   rw [hpl,blt_of hkn,oif_t,hpg,ob_s,blt_of ha,oif_t,tb_get ha,ob_s]
   have e3:(paT (pF l) (wlk l).length k).set k (a:Int)=paT (pF l) (wlk l).length (k+1):=by rw [← hp];exact paT_set hkn
   have e4:(tb (wlk l).length (laF (pF l) k)).set a (k:Int)=tb (wlk l).length (laF (pF l) (k+1)):=by
    rw [tb_set ha]
    refine tb_congr fun q hq=>?_
    simp only [laF]
    rw [hp]
    by_cases h:(q:Int)=(a:Int)
    ·rw [if_pos h,if_pos h.symm]
    ·rw [if_neg h,if_neg (fun e=>h e.symm)]
   have tail:∀ (b:Bool) (X Y:List Int),j88_3 d (esV l) (iterP (l88_1 d (esV l) ((wlk l).map (clAt l)) kx) fuel) (k:Int) (paT (pF l) (wlk l).length k) (tb (wlk l).length (laF (pF l) k)) (clAt l (wlk l)[k]) b X Y=iterP (l88_1 d (esV l) ((wlk l).map (clAt l)) kx) fuel (((k+1:Nat):Int),X,Y,paT (pF l) (wlk l).length (k+1),tb (wlk l).length (laF (pF l) (k+1))):=by
    intro b X Y
    unfold j88_3
    rw [esV_find T,show fid l (clAt l (wlk l)[k]).2.1=parI l (wlk l)[k] from rfl,if_pos h0,a2]
    simp only [Option.getD_some,nn,oif_t,ofNat_toNat,tb_len]
    rw [blt_of ha,oif_t,tb_get ha,ob_s,wr1 (by omega),e3,e4]
   rcases laF_spec (pF l) (a:Int) k with ⟨g1,g2⟩ | ⟨r,g1,g2,g3,g4⟩
   ·rw [g1,decide_eq_true (show (-1:Int) < 0 by omega),oif_t,tb_get ha,ob_s,tail]
    rw [show (tb (wlk l).length (fiF (pF l) k)).set a (k:Int)=tb (wlk l).length (fiF (pF l) (k+1)) by
     rw [tb_set ha]
     refine tb_congr fun q hq=>?_
     simp only [fiF]
     rw [hp]
     by_cases h:(q:Int)=(a:Int)
     ·rw [if_pos h,h,if_pos ⟨rfl,by omega⟩]
     ·rw [if_neg h,if_neg (fun e=>h e.1.symm)]]
    rw [show tb (wlk l).length (neF (pF l) k)=tb (wlk l).length (neF (pF l) (k+1)) by
     refine tb_congr fun q hq=>?_
     simp only [neF]
     rw [hp,g1,if_neg (by omega)]]
    exact next
   ·have hrn:r < (wlk l).length:=by omega
    rw [g1,decide_eq_false (show ¬ (r:Int) < 0 by omega),oif_f,oif_t,ob_s,nn,oif_t,ofNat_toNat,blt_of hrn,oif_t,tb_get hrn,ob_s,tail]
    rw [show (tb (wlk l).length (neF (pF l) k)).set r (k:Int)=tb (wlk l).length (neF (pF l) (k+1)) by
     rw [tb_set hrn]
     refine tb_congr fun q hq=>?_
     simp only [neF]
     rw [hp,g1]
     by_cases h:(q:Int)=(r:Int)
     ·rw [if_pos h,if_pos ⟨by omega,h.symm⟩]
     ·rw [if_neg h,if_neg (fun e=>h e.2.symm)]]
    rw [show tb (wlk l).length (fiF (pF l) k)=tb (wlk l).length (fiF (pF l) (k+1)) by
     refine tb_congr fun q hq=>?_
     simp only [fiF]
     rw [hp,if_neg]
     rintro ⟨e1,e2⟩
     rw [← e1,g1] at e2;omega]
    exact next
  ·rw [if_neg h0]
   have hpm:pF l k=-1:=by rw [hp];exact pW_no T (by omega)
   have e3:(paT (pF l) (wlk l).length k).set k (-1)=paT (pF l) (wlk l).length (k+1):=by rw [← hpm];exact paT_set hkn
   simp only [Option.isSome_none,Bool.not_false,oif_t]
   rw [hpl,blt_of hkn,oif_t,hpg,ob_s,wr1 (by omega),e3]
   rw [show tb (wlk l).length (fiF (pF l) k)=tb (wlk l).length (fiF (pF l) (k+1)) by
    refine tb_congr fun q hq=>?_
    simp only [fiF]
    rw [hpm,if_neg (by omega)]]
   rw [show tb (wlk l).length (neF (pF l) k)=tb (wlk l).length (neF (pF l) (k+1)) by
    refine tb_congr fun q hq=>?_
    simp only [neF]
    rw [hpm,if_neg (by omega)]]
   rw [show tb (wlk l).length (laF (pF l) k)=tb (wlk l).length (laF (pF l) (k+1)) by
    refine tb_congr fun q hq=>?_
    simp only [laF]
    rw [hpm,if_neg (by omega)]]
   exact next
def enT (l:List Cl8):List Int:=(wlk l).mapIdx (enI l)
theorem enT_len {l:List Cl8}:(enT l).length=(wlk l).length:=by simp [enT]
theorem enT_get {l:List Cl8} {k:Nat} {i:Int} (h:(wlk l)[k]? = some i):(enT l)[k]? = some (enI l k i):=by simp [enT,h]
theorem i_ends {d:Nat} {l:List Cl8} (T:Tr l) {kx:List Int→Option Ld}:∀ (m fuel:Nat),m≤(wlk l).length→m < fuel →
  iterP (l88_2 d (tb (wlk l).length (laF (pF l) (wlk l).length)) kx) fuel ((m:Int) - 1,List.replicate m 0++(enT l).drop m)=kx (enT l)
 | m,0,_,h=>by omega
 | 0,fuel+1,_,_=>by
  simp only [iterP,l88_2,l88_2_b]
  rw [decide_eq_false (by omega),oif_f];rfl
 | k+1,fuel+1,hk,hf=>by
  have hkn:k < (wlk l).length:=by omega
  have hW:=wlk_len T
  have h24:=T.n24
  have hg:=List.getElem?_eq_getElem hkn
  have hi:=(wlk_mem T).1 (List.mem_of_getElem? hg)
  have hkw:pW l (wlk l)[k]=(k:Int):=pos_of (wlk_nodup T) hg
  have next:=i_ends (d:=d) T (kx:=kx) k fuel (by omega) (by omega)
  have hlen:(List.replicate (k+1) (0:Int)++(enT l).drop (k+1)).length=(wlk l).length:=by simp [enT_len];omega
  have hlast:=last_eq T hi
  rw [hkw] at hlast
  have hset:∀ u v:Int,((List.replicate (k+1) (0:Int)++(enT l).drop (k+1)).set k u).set k v=List.replicate k 0++v::(enT l).drop (k+1):=by
   intro u v
   rw [List.set_set,List.set_append_left _ _ (by simp),List.replicate_succ',List.set_append_right _ _ (by simp)]
   simp
  have hset1:∀ v:Int,(List.replicate (k+1) (0:Int)++(enT l).drop (k+1)).set k v=List.replicate k 0++v::(enT l).drop (k+1):=by
   intro v
   rw [List.set_append_left _ _ (by simp),List.replicate_succ',List.set_append_right _ _ (by simp)]
   simp
  have hdrop:enI l k (wlk l)[k]::(enT l).drop (k+1)=(enT l).drop k:=by
   have hk2:k < (enT l).length:=by rw [enT_len];exact hkn
   rw [List.drop_eq_getElem_cons hk2]
   have:=enT_get hg
   rw [List.getElem?_eq_getElem hk2] at this
   injection this with this
   rw [this]
  simp only [iterP,l88_2,l88_2_b,tb_len]
  rw [show (((k+1:Nat):Int) - 1)=(k:Int) by omega,decide_eq_true (show (k:Int)≥0 by omega)]
  simp only [nn,oif_t,ofNat_toNat]
  rw [hlen,blt_of hkn,oif_t,List.getElem?_eq_getElem (show k < (List.replicate (k+1) (0:Int)++(enT l).drop (k+1)).length by omega),ob_s,oif_t,tb_get hkn,ob_s,hlast,wr1 (by omega),wr (n:=(k:Int) - 1) (by omega) (by omega)]
  rcases end_eq T hg with ⟨e1,e2⟩ | ⟨m,c,e1,e2,e3,e4⟩
  ·rw [e1,List.getLastD_nil,pW_no T (show (-1:Int) < 0 by omega),decide_eq_false (show ¬ (-1:Int)≥0 by omega),oif_f,hset1,show ((k+1:Nat):Int)=enI l k (wlk l)[k] by rw [e2];omega,hdrop]
   exact next
  ·have hm:=(List.getElem?_eq_some_iff.1 e1).1
   rw [e2,decide_eq_true (show (m:Int)≥0 by omega),oif_t,ob_s]
   simp only [nn,oif_t,ofNat_toNat,List.length_set]
   rw [hlen,blt_of hm,oif_t,hset1]
   have hgm:(List.replicate k (0:Int)++((k+1:Nat):Int)::(enT l).drop (k+1))[m]? = some (enI l m c):=by
    rw [List.getElem?_append_right (by simp;omega),List.length_replicate,show m - k=(m - (k+1))+1 by omega,List.getElem?_cons_succ,List.getElem?_drop,show k+1+(m - (k+1))=m by omega]
    exact enT_get e1
   rw [hgm,ob_s]
   have hl2:(List.replicate k (0:Int)++((k+1:Nat):Int)::(enT l).drop (k+1)).length=(wlk l).length:=by simp [enT_len];omega
   rw [List.getElem?_eq_getElem (show k < (List.replicate k (0:Int)++((k+1:Nat):Int)::(enT l).drop (k+1)).length by omega),blt_of hkn,oif_t,ob_s]
   have e5:(List.replicate k (0:Int)++((k+1:Nat):Int)::(enT l).drop (k+1)).set k (enI l m c)=List.replicate k 0++(enT l).drop k:=by
    rw [List.set_append_right _ _ (by simp),List.length_replicate,Nat.sub_self,List.set_cons_zero,← e4,hdrop]
   rw [e5]
   exact next
end Go.Proofs.YtgilhiacfogiaaaGreatDoor
set_option linter.all false
namespace Go.Proofs.YtgilhiacfogiaaaGreatDoor
open Go.Ev Go.Pv
theorem q_topOf {d:Nat} {c:Cf} (hl:c.2.1.length≤1000):g151 (d+3) c=some (topI c.2.1):=by
 rw [e151]
 refine (range_eq (fun (t:Int) (i:Int)=>(t,i)) c.2.1 (fun x i t k=>oif (x.2.1==0) (some ((i:Nat):Int)) (k t)) (fun _=>some (-1)) ?_ ?_ (by rw [fuelN_eq];omega) 0).trans (range_find c.2.1 0 _)
 ·intro ag t i x hx;have hi:=(List.getElem?_eq_some_iff.1 hx).1;simp only [l151i163_0,l151i163_0_b,ltl hx,nn,ofNat_toNat,hx,ob_s,oif_t];rw [wr1 (by omega)]
 ·intro ag t;simp only [l151i163_0,l151i163_0_b,ltn,oif_f];rfl
theorem id_small {c:Cf} (G:Gd c) {id:Int} (h:vI c.2.1 (fid c.2.1 id)):1≤id∧id≤999:=by
 obtain ⟨k,x,h1,h2,h3⟩:=fid_some h.1
 have hc:=G.cl
 unfold clsB idsB at hc
 simp only [Bool.and_eq_true,decide_eq_true_eq,allI_iff] at hc
 have:=hc.2.1 k x h2
 unfold idOk at this
 simp only [Bool.and_eq_true,decide_eq_true_eq] at this
 omega
theorem nm_size {c:Cf} (G:Gd c):c.1.size≤8:=by
 have:=G.nm
 unfold nmB at this
 simp only [Bool.and_eq_true,decide_eq_true_eq] at this
 exact this.1.2
theorem i_fill {d:Nat} {c:Cf} (G:Gd c):iterP (l88_3 d c (esV c.2.1) (j88_0 d c (esV c.2.1))) fuelN (0,tabV c (wlk c.2.1) c.2.2.1 [] (-1))=some (ldV c):=by
 have T:=G.tr
 have h16:=G.f16
 refine (range_eq (fun (t:List Int) (k:Int)=>(k,tabV c (wlk c.2.1) c.2.2.1 t (-1))) c.2.2.1 (fun f _ t k=>oif (Nat.ble ((t.length+[pW c.2.1 (fid c.2.1 f.2.2.2.2)].length)*8) roomMax) (k (t++[pW c.2.1 (fid c.2.1 f.2.2.2.2)])) none) (fun t=>some (tabV c (wlk c.2.1) c.2.2.1 t (dfV c))) ?_ ?_ (by rw [fuelN_eq];omega) []).trans ?_
 ·intro ag t k f hx
  have hk:=(List.getElem?_eq_some_iff.1 hx).1
  obtain ⟨v1,_⟩:=G.tgt f (List.mem_of_getElem? hx)
  simp only [l88_3,l88_3_b,ltl hx,nn,ofNat_toNat,hx,ob_s,oif_t]
  rw [esV_find T,if_pos v1.1,wr1 (by omega)]
  rfl
 ·intro ag t
  simp only [l88_3,l88_3_b,ltn,oif_f]
  unfold j88_0 dfV
  by_cases h:c.2.2.2=0
  ·rw [show (c.2.2.2 != 0)=false by simp [h],oif_f,if_pos h]
  ·obtain ⟨v1,_⟩:=G.dft h
   rw [show (c.2.2.2 != 0)=true by simp [h],oif_t,esV_find T,if_pos v1.1,if_neg h]
   rfl
 ·rw [rangeR_map (e:=fun f:Fl5=>pW c.2.1 (fid c.2.1 f.2.2.2.2)) (w:=8) c.2.2.1 0 [] (by simp;omega)]
  rfl
theorem i_tables {d:Nat} {c:Cf} (G:Gd c):j88_4 (d+3) c c.1 (-1) (esV c.2.1) ((wlk c.2.1).map (clAt c.2.1)) [] [] [] [] c.2.2.1 []=some (ldV c):=by
 have T:=G.tr
 have h24:=T.n24
 have hW:=wlk_len T
 unfold j88_4
 rw [List.length_map,show d+3+1=(d+1)+3 by omega,q_Repeat1 (by omega),ob_s,ob_s]
 simp only [nn,oif_t,ofNat_toNat]
 rw [show (Nat.ble (wlk c.2.1).length (wlk c.2.1).length&&Nat.ble ((wlk c.2.1).length*8) roomMax)=true by rw [Bool.and_eq_true,Nat.ble_eq,Nat.ble_eq];unfold roomMax;omega,oif_t,oif_t,ob_s]
 have e0:(List.replicate (wlk c.2.1).length (-1:Int))=tb (wlk c.2.1).length (fiF (pF c.2.1) 0):=tb_rep
 have e1:(List.replicate (wlk c.2.1).length (-1:Int))=tb (wlk c.2.1).length (neF (pF c.2.1) 0):=tb_rep
 have e2:(List.replicate (wlk c.2.1).length (-1:Int))=tb (wlk c.2.1).length (laF (pF c.2.1) 0):=tb_rep
 have e3:(List.replicate (wlk c.2.1).length (0:Int))=paT (pF c.2.1) (wlk c.2.1).length 0:=by simp [paT]
 have st:((0:Int),List.replicate (wlk c.2.1).length (-1:Int),List.replicate (wlk c.2.1).length (-1:Int),List.replicate (wlk c.2.1).length (0:Int),List.replicate (wlk c.2.1).length (-1:Int))=(((0:Nat):Int),tb (wlk c.2.1).length (fiF (pF c.2.1) 0),tb (wlk c.2.1).length (neF (pF c.2.1) 0),paT (pF c.2.1) (wlk c.2.1).length 0,tb (wlk c.2.1).length (laF (pF c.2.1) 0)):=by
  rw [← e0,← e1,← e2,← e3];rfl
 rw [st,i_scan T (wlk c.2.1).length 0 fuelN (by omega) (by rw [fuelN_eq];omega)]
 unfold j88_2
 rw [List.length_map,ofNat_toNat,wr (by omega) (by omega)]
 have:=i_ends (d:=d+3) T (kx:=j88_1 (d+3) c c.1 (-1) (esV c.2.1) ((wlk c.2.1).map (clAt c.2.1)) c.2.2.1 [] (tb (wlk c.2.1).length (fiF (pF c.2.1) (wlk c.2.1).length)) (tb (wlk c.2.1).length (neF (pF c.2.1) (wlk c.2.1).length)) (paT (pF c.2.1) (wlk c.2.1).length (wlk c.2.1).length)) (wlk c.2.1).length fuelN (Nat.le_refl _) (by rw [fuelN_eq];omega)
 rw [show (enT c.2.1).drop (wlk c.2.1).length=[] by rw [← enT_len];exact List.drop_length,List.append_nil] at this
 rw [this]
 unfold j88_1
 have f1:tb (wlk c.2.1).length (fiF (pF c.2.1) (wlk c.2.1).length)=(wlk c.2.1).map (fun i=>pW c.2.1 (fsI c.2.1 i)):=tb_map fun k i hk=>by
  have hi:=(wlk_mem T).1 (List.mem_of_getElem? hk)
  rw [← first_eq T hi,show pW c.2.1 i=(k:Int) from pos_of (wlk_nodup T) hk]
 have f2:tb (wlk c.2.1).length (neF (pF c.2.1) (wlk c.2.1).length)=(wlk c.2.1).map (fun i=>pW c.2.1 (nxI c.2.1 i)):=tb_map fun k i hk=>next_eq T hk
 have f3:paT (pF c.2.1) (wlk c.2.1).length (wlk c.2.1).length=(wlk c.2.1).map (fun i=>pW c.2.1 (parI c.2.1 i)):=by
  unfold paT
  rw [Nat.sub_self,List.replicate_zero,List.append_nil]
  apply List.ext_getElem?
  intro j
  rcases Nat.lt_or_ge j (wlk c.2.1).length with hj | hj
  ·have hg:=List.getElem?_eq_getElem hj
   rw [List.getElem?_map,List.getElem?_map,hg,List.getElem?_range hj]
   simp only [Option.map_some]
   rw [pF_of hg]
  ·rw [List.getElem?_eq_none (by simp;exact hj),List.getElem?_eq_none (by simp;exact hj)]
 rw [f1,f2,f3]
 exact i_fill G
theorem i_main {d:Nat} {c:Cf} (G:Gd c) {r:Pr} (hr:r.2.2.1=wlk c.2.1):iterP (l88_0 (d+3) c r (j88_4 (d+3) c)) fuelN (0,(c.1,[],[],[],[],[],c.2.2.1,[],(-1)),([[([]:List (Int×Int))]]:List (List (List (Int×Int)))))=some (ldV c):=by
 have T:=G.tr
 have h24:=T.n24
 have hW:=wlk_len T
 refine (range_eq (fun (t:List Cl8×List (Int×Int)) (i:Int)=>(i,((c.1,t.1,[],[],[],[],c.2.2.1,[],(-1)):Ld),([[t.2]]:List (List (List (Int×Int)))))) (wlk c.2.1) (fun i k t cont=>oif (Nat.ble ((t.1.length+[clAt c.2.1 i].length)*64) roomMax) (cont (t.1++[clAt c.2.1 i],mput t.2 (clAt c.2.1 i).1 ((k:Nat):Int))) none) (fun t=>j88_4 (d+3) c c.1 (-1) t.2 t.1 [] [] [] [] c.2.2.1 []) ?_ ?_ (by rw [fuelN_eq];omega) ([],[])).trans ?_
 ·intro ag t k i hx
  have hk:=(List.getElem?_eq_some_iff.1 hx).1
  have hi:=(wlk_mem T).1 (List.mem_of_getElem? hx)
  simp only [l88_0,l88_0_b,hr,ltl hx,nn,ofNat_toNat,hx,ob_s,oif_t,bltl hx]
  rw [decide_eq_true hi.1,oif_t,vI_get hi,ob_s,oif_t,ob_s,wr1 (by omega)]
  rfl
 ·intro ag t
  simp only [l88_0,l88_0_b,hr,ltn,oif_f]
  rfl
 ·rw [rangeR_foldI (f:=fun (i:Int) k (t:List Cl8×List (Int×Int))=>(t.1++[clAt c.2.1 i],mput t.2 (clAt c.2.1 i).1 ((k:Nat):Int))) (fun k t=>t.1.length=k) (wlk c.2.1) 0 ([],[]) rfl ?_]
  ·rw [foldI_pair (f:=fun (i:Int) _ (t:List Cl8)=>t++[clAt c.2.1 i]) (g:=fun (i:Int) k (t:List (Int×Int))=>mput t (clAt c.2.1 i).1 ((k:Nat):Int)),foldI_map,List.nil_append]
   exact i_tables G
  ·intro j x t k hx ht
   have hk:=(List.getElem?_eq_some_iff.1 hx).1
   rw [Nat.zero_add] at ht ⊢
   rw [room (by simp;omega),oif_t]
   exact ⟨rfl,by simp;omega⟩
theorem q_loadConfig {d:Nat} {c:Cf} (G:Gd c):g88 (d+14) c=some (ldV c):=by
 have T:=G.tr
 have N:=nm_of G.cl
 have h24:=T.n24
 have h16:=G.f16
 have hn8:=nm_size G
 have hbl:(Nat.ble c.2.1.length c.2.1.length&&Nat.ble (c.2.1.length*8) roomMax)=true:=by rw [Bool.and_eq_true,Nat.ble_eq,Nat.ble_eq];unfold roomMax;omega
 obtain ⟨t1,t2,t3,t4⟩:=topI_eq T
 have hwk:=wk_len T (f:=8) t1
 have tail:∀ s3:ByteArray,s3.size≤1000→Ok (j88i123_1 (d+12) c c.2.2.1 s3) fun b=>b=ldV c:=by
  intro s3 hs3
  unfold j88i123_1
  simp only [ofNat_toNat]
  refine Ok.cat (by omega) (by (try simp only [ByteArray.size_append,lsz,List.length_cons,List.length_nil] at *);omega) ?_
  refine Ok.bind (p_line (d:=d+10) (by omega) (by omega) (by (try simp only [ByteArray.size_append,lsz,List.length_cons,List.length_nil] at *);omega) (by simp)) fun r4 hr4=>?_
  obtain ⟨a1,a2,a3⟩:=hr4
  obtain ⟨rc,rl,ro,rf,rr⟩:=r4
  simp only at a1 a2 a3
  injection a3 with a3 a4
  injection a4 with a4 a5
  subst a1 a3 a4 a5
  rw [show d+12=(d+9)+3 by omega,q_topOf (by omega),ob_s,show d+9+3=d+4+8 by omega]
  refine Ok.bind (p_part T N 8 (topI rc.2.1) _ 1 t1 (by have:=dp_pos t1;omega) (by omega) (by omega) rfl (by simp;omega) (by simp) (by simp) (by simp only;rw [a2];simp;omega)) fun r6 hr6=>?_
  obtain ⟨b1,b2,b3,b4,b5⟩:=hr6
  simp only [List.nil_append] at b2
  have e0:wkI rc.2.1 8 (topI rc.2.1)=wlk rc.2.1:=rfl
  rw [e0] at b2 b5 hwk
  refine range_ok (fun (t:Pr) (k:Int)=>(k,t)) rc.2.2.1 (fun k t=>t.1=rc∧t.2.2.1=wlk rc.2.1∧t.2.1.length≤100+k) ?_ ?_ fuelN 0 _ (by rw [fuelN_eq];omega) (by omega) ⟨b1,b2,by simp at a2 b5;omega⟩
  ·rintro ag ⟨yc,yl,yo,yf,yr⟩ k f hx ⟨c1,c2,c3⟩ hag
   simp only at c1 c2 c3
   subst c1
   have hk:=(List.getElem?_eq_some_iff.1 hx).1
   obtain ⟨v1,v2,v3⟩:=G.tgt f (List.mem_of_getElem? hx)
   obtain ⟨i1,i2⟩:=id_small G v1
   simp only [l88i123_0,l88i123_0_b,ltl hx,nn,ofNat_toNat,hx,ob_s,oif_t]
   rw [show d+4+8=(d+9)+3 by omega]
   refine Ok.bind (p_filterLine v3 (by omega)) fun s hs=>?_
   rw [show d+9+3=(d+10)+2 by omega]
   refine Ok.bind (p_line (by omega) (by omega) (by omega) (by simp only;omega)) fun r8 hr8=>?_
   obtain ⟨a1,a2,a3⟩:=hr8
   rw [wr1 (by omega)]
   refine hag r8 ⟨a1,?_,?_⟩
   ·rw [a3];exact c2
   ·simp only at a2;omega
  ·rintro ag ⟨yc,yl,yo,yf,yr⟩ ⟨c1,c2,c3⟩
   simp only at c1 c2 c3
   subst c1
   simp only [l88i123_0,l88i123_0_b,ltn,oif_f]
   unfold j88i123_0
   rw [show d+4+8=(d+10)+2 by omega]
   refine Ok.bind (p_line (by omega) (by omega) (by decide) (by simp only;omega)) fun r8 hr8=>?_
   obtain ⟨a1,a2,a3⟩:=hr8
   have hro:r8.2.2.1=wlk yc.2.1:=by rw [a3];exact c2
   rw [show d+10+2=(d+9)+3 by omega]
   exact ⟨_,i_main G hro,rfl⟩
 refine Ok.val ?_
 rw [e88,q_CloneF (by omega),ob_s]
 simp only [nn,oif_t,ofNat_toNat]
 rw [hbl,oif_t,oif_t]
 refine Ok.cat (by (try simp only [ByteArray.size_append,lsz,List.length_cons,List.length_nil] at *);omega) (by omega) ?_
 by_cases h:c.2.2.2=0
 ·rw [show (c.2.2.2 != 0)=false by simp [h],oif_f]
  exact tail _ (by (try simp only [ByteArray.size_append,lsz,List.length_cons,List.length_nil] at *);omega)
 ·obtain ⟨v1,_⟩:=G.dft h
  obtain ⟨i1,i2⟩:=id_small G v1
  rw [show (c.2.2.2 != 0)=true by simp [h],oif_t]
  refine Ok.bind (p_Itoa (d:=d+11) (by omega) (by omega)) fun r3 hr3=>?_
  refine Ok.cat (by (try simp only [ByteArray.size_append,lsz,List.length_cons,List.length_nil] at *);omega) (by omega) ?_
  refine Ok.cat (by (try simp only [ByteArray.size_append,lsz,List.length_cons,List.length_nil] at *);omega) (by (try simp only [ByteArray.size_append,lsz,List.length_cons,List.length_nil] at *);omega) ?_
  exact tail _ (by (try simp only [ByteArray.size_append,lsz,List.length_cons,List.length_nil] at *);omega)
end Go.Proofs.YtgilhiacfogiaaaGreatDoor
set_option linter.all false
namespace Go.Proofs.YtgilhiacfogiaaaGreatDoor
open Go.Ev Go.Pv
theorem set_next {α:Type} {l:List α} {z x:α} {k:Nat} (hx:l[k]? = some x):(l.take k++List.replicate (l.length - k) z).set k x=l.take (k+1)++List.replicate (l.length - (k+1)) z:=by
 have hk:=(List.getElem?_eq_some_iff.1 hx).1
 have e:=(List.getElem?_eq_some_iff.1 hx).2
 have hl:(l.take k).length=k:=by rw [List.length_take];omega
 rw [List.set_append_right _ _ (by omega),hl,Nat.sub_self,show l.length - k=(l.length - (k+1))+1 by omega,List.replicate_succ,List.set_cons_zero,List.take_succ_eq_append_getElem hk,e]
 simp
theorem q_toClassS {d:Nat} {l:List Cl8} (hl:l.length≤1048576):g47 (d+2) l=some l:=by
 rw [e47,nn,oif_t,oif_t,ofNat_toNat,show (Nat.ble l.length l.length&&Nat.ble (l.length*64) roomMax)=true by rw [Bool.and_eq_true,Nat.ble_eq,Nat.ble_eq];unfold roomMax;omega,oif_t]
 refine Ok.val (iter_ok (fun j (s:Int×List Cl8)=>∃ k:Nat,k+j=l.length∧s.1=(k:Int)∧s.2=l.take k++List.replicate (l.length - k) ((0,0,0,0,0,0,0,0):Cl8)) ?_ _ l.length _ (by rw [fuelN_eq];omega) ⟨0,by omega,rfl,by simp⟩)
 rintro j ⟨n,r⟩ ag ⟨k,hk,h1,h2⟩ hag
 simp only at h1 h2
 subst h1
 have hrl:r.length=l.length:=by rw [h2];simp;omega
 simp only [l47_0,l47_0_b]
 rcases Nat.lt_or_ge k l.length with hlt | hge
 ·have hx:=List.getElem?_eq_getElem hlt
  rw [ltl hx,oif_t,nn,oif_t,ofNat_toNat,hx,ob_s,e85,ob_s,oif_t,blt_of (by omega),oif_t,List.getElem?_eq_getElem (by omega),ob_s,wr1 (by omega)]
  exact hag (j - 1) _ (by omega) ⟨k+1,by omega,rfl,by rw [h2];exact set_next hx⟩
 ·have:k=l.length:=by omega
  subst this
  rw [ltn,oif_f]
  unfold j47_0
  exact Ok.some (by rw [h2];simp)
theorem q_toFilterS {d:Nat} {l:List Fl5} (hl:l.length≤1048576):g48 (d+2) l=some l:=by
 rw [e48,nn,oif_t,oif_t,ofNat_toNat,show (Nat.ble l.length l.length&&Nat.ble (l.length*40) roomMax)=true by rw [Bool.and_eq_true,Nat.ble_eq,Nat.ble_eq];unfold roomMax;omega,oif_t]
 refine Ok.val (iter_ok (fun j (s:Int×List Fl5)=>∃ k:Nat,k+j=l.length∧s.1=(k:Int)∧s.2=l.take k++List.replicate (l.length - k) ((0,0,0,0,0):Fl5)) ?_ _ l.length _ (by rw [fuelN_eq];omega) ⟨0,by omega,rfl,by simp⟩)
 rintro j ⟨n,r⟩ ag ⟨k,hk,h1,h2⟩ hag
 simp only at h1 h2
 subst h1
 have hrl:r.length=l.length:=by rw [h2];simp;omega
 simp only [l48_0,l48_0_b]
 rcases Nat.lt_or_ge k l.length with hlt | hge
 ·have hx:=List.getElem?_eq_getElem hlt
  rw [ltl hx,oif_t,nn,oif_t,ofNat_toNat,hx,ob_s,e86,ob_s,oif_t,blt_of (by omega),oif_t,List.getElem?_eq_getElem (by omega),ob_s,wr1 (by omega)]
  exact hag (j - 1) _ (by omega) ⟨k+1,by omega,rfl,by rw [h2];exact set_next hx⟩
 ·have:k=l.length:=by omega
  subst this
  rw [ltn,oif_f]
  unfold j48_0
  exact Ok.some (by rw [h2];simp)
def szQ (n:Int) (k:Nat) (r:Int):Prop:=r < 0∨(0≤r∧r≤n∧(k:Int)≤n)
theorem p_szClassS {d:Nat} {l:List Cl8} {n:Int} (h0:0≤n) (h1:n≤1048576) (hl:l.length≤9223372036854775807):Ok (g42 (d+1) l n) fun r=>szQ n l.length r:=by
 rw [e42,wr (by omega) (by omega)]
 by_cases h:n - ((l.length:Nat):Int) < 0
 ·rw [decide_eq_true h,oif_t];exact Ok.some (Or.inl (by omega))
 ·rw [decide_eq_false h,oif_f];exact Ok.some (Or.inr ⟨by omega,by omega,by omega⟩)
theorem p_szFilterS {d:Nat} {l:List Fl5} {n:Int} (h0:0≤n) (h1:n≤1048576) (hl:l.length≤9223372036854775807):Ok (g44 (d+1) l n) fun r=>szQ n l.length r:=by
 rw [e44,wr (by omega) (by omega)]
 by_cases h:n - ((l.length:Nat):Int) < 0
 ·rw [decide_eq_true h,oif_t];exact Ok.some (Or.inl (by omega))
 ·rw [decide_eq_false h,oif_f];exact Ok.some (Or.inr ⟨by omega,by omega,by omega⟩)
theorem q_eqClassS {d:Nat} {l:List Cl8} (hl:l.length≤2000000):g51 (d+2) l l=some true:=by
 rw [e51,bne_self_eq_false,oif_f]
 refine (range_eq (fun (t:Bool) (i:Int)=>(t,i)) l (fun x i t k=>k t) (j51_0 (d+1)) ?_ ?_ (by rw [fuelN_eq];omega) false).trans ?_
 ·intro ag t i x hx;have hi:=(List.getElem?_eq_some_iff.1 hx).1;simp only [l51_0,l51_0_b,ltl hx,nn,ofNat_toNat,hx,ob_s,oif_t]
  rw [e96]
  simp only [bne_self_eq_false,oif_f,Bool.not_true,ob_s]
  rw [wr1 (by omega)]
 ·intro ag t;simp only [l51_0,l51_0_b,ltn,oif_f]
 ·rw [rangeR_fold (f:=fun _ _ t=>t)];rfl
theorem q_eqFilterS {d:Nat} {l:List Fl5} (hl:l.length≤2000000):g52 (d+2) l l=some true:=by
 rw [e52,bne_self_eq_false,oif_f]
 refine (range_eq (fun (t:Bool) (i:Int)=>(t,i)) l (fun x i t k=>k t) (j52_0 (d+1)) ?_ ?_ (by rw [fuelN_eq];omega) false).trans ?_
 ·intro ag t i x hx;have hi:=(List.getElem?_eq_some_iff.1 hx).1;simp only [l52_0,l52_0_b,ltl hx,nn,ofNat_toNat,hx,ob_s,oif_t]
  rw [e97]
  simp only [bne_self_eq_false,oif_f,Bool.not_true,ob_s]
  rw [wr1 (by omega)]
 ·intro ag t;simp only [l52_0,l52_0_b,ltn,oif_f]
 ·rw [rangeR_fold (f:=fun _ _ t=>t)];rfl
theorem q_eqIntS {d:Nat} {l:List Int} (hl:l.length≤2000000):g29 (d+1) l l=some true:=by
 rw [e29,bne_self_eq_false,oif_f]
 refine (range_eq (fun (t:Bool) (i:Int)=>(t,i)) l (fun x i t k=>k t) (j29_0 d) ?_ ?_ (by rw [fuelN_eq];omega) false).trans ?_
 ·intro ag t i x hx;have hi:=(List.getElem?_eq_some_iff.1 hx).1;simp only [l29_0,l29_0_b,ltl hx,nn,ofNat_toNat,hx,ob_s,oif_t]
  simp only [bne_self_eq_false,oif_f]
  rw [wr1 (by omega)]
 ·intro ag t;simp only [l29_0,l29_0_b,ltn,oif_f]
 ·rw [rangeR_fold (f:=fun _ _ t=>t)];rfl
theorem q_eqConfig {d:Nat} {c:Cf} (h1:c.2.1.length≤2000000) (h2:c.2.2.1.length≤2000000):g13 (d+3) c c=some true:=by
 rw [e13,beq_self_eq_true,Bool.not_true,oif_f,q_eqClassS h1,ob_s,Bool.not_true,oif_f,q_eqFilterS h2,ob_s,Bool.not_true,oif_f,bne_self_eq_false,oif_f]
def ldL (x:Ld):Prop:=x.1.size≤1048576∧x.2.1.length≤1048576∧x.2.2.1.length≤1048576∧x.2.2.2.1.length≤1048576∧x.2.2.2.2.1.length≤1048576∧x.2.2.2.2.2.1.length≤1048576∧x.2.2.2.2.2.2.1.length≤1048576∧x.2.2.2.2.2.2.2.1.length≤1048576
theorem q_eqLoaded {d:Nat} {x:Ld} (h:ldL x):g14 (d+3) x x=some true:=by
 obtain ⟨z1,z2,z3,z4,z5,z6,z7,z8⟩:=h
 rw [e14,beq_self_eq_true,Bool.not_true,oif_f,q_eqClassS (by omega),ob_s,Bool.not_true,oif_f,q_eqIntS (by omega),ob_s,Bool.not_true,oif_f,q_eqIntS (by omega),ob_s,Bool.not_true,oif_f,q_eqIntS (by omega),ob_s,Bool.not_true,oif_f,q_eqIntS (by omega),ob_s,Bool.not_true,oif_f,q_eqFilterS (by omega),ob_s,Bool.not_true,oif_f,q_eqIntS (by omega),ob_s,Bool.not_true,oif_f,bne_self_eq_false,oif_f]
def mC (k:Nat):Cl8:=((k:Int),((k+1:Nat):Int),((k+1+1:Nat):Int),((k+1+1+1:Nat):Int),((k+1+1+1+1:Nat):Int),((k+1+1+1+1+1:Nat):Int),((k+1+1+1+1+1+1:Nat):Int),((k+1+1+1+1+1+1+1:Nat):Int))
def mF (k:Nat):Fl5:=((k:Int),((k+1:Nat):Int),((k+1+1:Nat):Int),((k+1+1+1:Nat):Int),((k+1+1+1+1:Nat):Int))
def mCs:Nat→Nat→List Cl8
 | _,0=>[]
 | k,n+1=>mC k::mCs (k+1+1+1+1+1+1+1+1) n
def mFs:Nat→Nat→List Fl5
 | _,0=>[]
 | k,n+1=>mF k::mFs (k+1+1+1+1+1) n
theorem set_mid {α:Type} {p r:List α} {x y:α}:(p++x::r).set p.length y=p++y::r:=by
 rw [List.set_append_right _ _ (Nat.le_refl _),Nat.sub_self,List.set_cons_zero]
theorem mark_c {d:Nat}:∀ (r:List Cl8) {p:List Cl8} {k fuel:Nat},r.length < fuel→p.length+r.length≤2000000→k+8*r.length≤1000000000 →
  iterP (l53_0 d (j53_0 d)) fuel ((k:Int),((p.length:Nat):Int),p++r)=some (((k+8*r.length:Nat):Int),p++mCs k r.length)
 | _,p,k,0,h,_,_=>by omega
 | [],p,k,fuel+1,h,h2,h3=>by
  simp only [iterP,l53_0,l53_0_b]
  rw [List.append_nil,ltn,oif_f]
  unfold j53_0
  simp [mCs]
 | x::r,p,k,fuel+1,h,h2,h3=>by
  simp only [List.length_cons] at h h2 h3
  have hlt:p.length < (p++x::r).length:=by simp
  have hg:(p++x::r)[p.length]? = some x:=by simp
  simp only [iterP,l53_0,l53_0_b,ofNat_toNat,nn,oif_t]
  rw [decide_eq_true (show ((p.length:Nat):Int) < (((p++x::r).length:Nat):Int) by omega),oif_t,blt_of hlt,oif_t,hg,ob_s]
  simp only [List.length_set,List.set_set,List.getElem?_set_self hlt,ob_s,blt_of hlt,oif_t]
  rw [set_mid,wr1 (by omega),wr1 (by omega),wr1 (by omega),wr1 (by omega),wr1 (by omega),wr1 (by omega),wr1 (by omega),wr1 (by omega),wr1 (by omega)]
  have:=mark_c (d:=d) r (p:=p++[mC k]) (k:=k+1+1+1+1+1+1+1+1) (fuel:=fuel) (by omega) (by simp;omega) (by omega)
  rw [List.length_append,show (p++[mC k])++r=p++mC k::r by simp] at this
  simp only [List.length_cons,List.length_nil,mCs]
  rw [show k+8*(r.length+1)=k+1+1+1+1+1+1+1+1+8*r.length by omega,show p++mC k::mCs (k+1+1+1+1+1+1+1+1) r.length=(p++[mC k])++mCs (k+1+1+1+1+1+1+1+1) r.length by simp]
  exact this
theorem held_c {d:Nat} {l:List Cl8}:∀ (n:Nat) {p:List Cl8} {k fuel:Nat},l=p++mCs k n→n < fuel→p.length+n≤2000000→k+8*n≤1000000000 →
  iterP (l55_0 d l (j55_0 d)) fuel ((k:Int),0,((p.length:Nat):Int))=some ((k+8*n:Nat):Int)
 | n,p,k,0,_,h,_,_=>by omega
 | 0,p,k,fuel+1,e,h,h2,h3=>by
  simp only [mCs,List.append_nil] at e
  subst e
  simp only [iterP,l55_0,l55_0_b]
  rw [ltn,oif_f]
  unfold j55_0
  simp
 | n+1,p,k,fuel+1,e,h,h2,h3=>by
  have hg:l[p.length]? = some (mC k):=by rw [e];simp [mCs]
  have hlt:=(List.getElem?_eq_some_iff.1 hg).1
  simp only [iterP,l55_0,l55_0_b,ofNat_toNat,nn,oif_t]
  rw [decide_eq_true (show ((p.length:Nat):Int) < ((l.length:Nat):Int) by omega),oif_t,hg]
  simp only [ob_s]
  rw [wr1 (by omega),wr1 (by omega),wr1 (by omega),wr1 (by omega),wr1 (by omega),wr1 (by omega),wr1 (by omega),wr1 (by omega),wr1 (by omega)]
  unfold mC
  simp only [bne_self_eq_false,oif_f]
  have:=held_c (d:=d) (l:=l) n (p:=p++[mC k]) (k:=k+1+1+1+1+1+1+1+1) (fuel:=fuel) (by rw [e];simp [mCs]) (by omega) (by simp;omega) (by omega)
  rw [List.length_append] at this
  simp only [List.length_cons,List.length_nil] at this
  rw [show k+8*(n+1)=k+1+1+1+1+1+1+1+1+8*n by omega]
  exact this
theorem mark_f {d:Nat}:∀ (r:List Fl5) {p:List Fl5} {k fuel:Nat},r.length < fuel→p.length+r.length≤2000000→k+5*r.length≤1000000000 →
  iterP (l54_0 d (j54_0 d)) fuel ((k:Int),((p.length:Nat):Int),p++r)=some (((k+5*r.length:Nat):Int),p++mFs k r.length)
 | _,p,k,0,h,_,_=>by omega
 | [],p,k,fuel+1,h,h2,h3=>by
  simp only [iterP,l54_0,l54_0_b]
  rw [List.append_nil,ltn,oif_f]
  unfold j54_0
  simp [mFs]
 | x::r,p,k,fuel+1,h,h2,h3=>by
  simp only [List.length_cons] at h h2 h3
  have hlt:p.length < (p++x::r).length:=by simp
  have hg:(p++x::r)[p.length]? = some x:=by simp
  simp only [iterP,l54_0,l54_0_b,ofNat_toNat,nn,oif_t]
  rw [decide_eq_true (show ((p.length:Nat):Int) < (((p++x::r).length:Nat):Int) by omega),oif_t,blt_of hlt,oif_t,hg,ob_s]
  simp only [List.length_set,List.set_set,List.getElem?_set_self hlt,ob_s,blt_of hlt,oif_t]
  rw [set_mid,wr1 (by omega),wr1 (by omega),wr1 (by omega),wr1 (by omega),wr1 (by omega),wr1 (by omega)]
  have:=mark_f (d:=d) r (p:=p++[mF k]) (k:=k+1+1+1+1+1) (fuel:=fuel) (by omega) (by simp;omega) (by omega)
  rw [List.length_append,show (p++[mF k])++r=p++mF k::r by simp] at this
  simp only [List.length_cons,List.length_nil,mFs]
  rw [show k+5*(r.length+1)=k+1+1+1+1+1+5*r.length by omega,show p++mF k::mFs (k+1+1+1+1+1) r.length=(p++[mF k])++mFs (k+1+1+1+1+1) r.length by simp]
  exact this
theorem held_f {d:Nat} {l:List Fl5}:∀ (n:Nat) {p:List Fl5} {k fuel:Nat},l=p++mFs k n→n < fuel→p.length+n≤2000000→k+5*n≤1000000000 →
  iterP (l56_0 d l (j56_0 d)) fuel ((k:Int),0,((p.length:Nat):Int))=some ((k+5*n:Nat):Int)
 | n,p,k,0,_,h,_,_=>by omega
 | 0,p,k,fuel+1,e,h,h2,h3=>by
  simp only [mFs,List.append_nil] at e
  subst e
  simp only [iterP,l56_0,l56_0_b]
  rw [ltn,oif_f]
  unfold j56_0
  simp
 | n+1,p,k,fuel+1,e,h,h2,h3=>by
  have hg:l[p.length]? = some (mF k):=by rw [e];simp [mFs]
  have hlt:=(List.getElem?_eq_some_iff.1 hg).1
  simp only [iterP,l56_0,l56_0_b,ofNat_toNat,nn,oif_t]
  rw [decide_eq_true (show ((p.length:Nat):Int) < ((l.length:Nat):Int) by omega),oif_t,hg]
  simp only [ob_s]
  rw [wr1 (by omega),wr1 (by omega),wr1 (by omega),wr1 (by omega),wr1 (by omega),wr1 (by omega)]
  unfold mF
  simp only [bne_self_eq_false,oif_f]
  have:=held_f (d:=d) (l:=l) n (p:=p++[mF k]) (k:=k+1+1+1+1+1) (fuel:=fuel) (by rw [e];simp [mFs]) (by omega) (by simp;omega) (by omega)
  rw [List.length_append] at this
  simp only [List.length_cons,List.length_nil] at this
  rw [show k+5*(n+1)=k+1+1+1+1+1+5*n by omega]
  exact this
def mIs:Nat→Nat→List Int
 | _,0=>[]
 | k,n+1=>(k:Int)::mIs (k+1) n
theorem mark_i {d:Nat}:∀ (r:List Int) {p:List Int} {k fuel:Nat},r.length < fuel→p.length+r.length≤2000000→k+r.length≤1000000000 →
  iterP (l32_0 d (j32_0 d)) fuel ((k:Int),((p.length:Nat):Int),p++r)=some (((k+r.length:Nat):Int),p++mIs k r.length)
 | _,p,k,0,h,_,_=>by omega
 | [],p,k,fuel+1,h,h2,h3=>by
  simp only [iterP,l32_0,l32_0_b]
  rw [List.append_nil,ltn,oif_f]
  unfold j32_0
  simp [mIs]
 | x::r,p,k,fuel+1,h,h2,h3=>by
  simp only [List.length_cons] at h h2 h3
  have hlt:p.length < (p++x::r).length:=by simp
  have hg:(p++x::r)[p.length]? = some x:=by simp
  simp only [iterP,l32_0,l32_0_b,ofNat_toNat,nn,oif_t]
  rw [decide_eq_true (show ((p.length:Nat):Int) < (((p++x::r).length:Nat):Int) by omega),oif_t,blt_of hlt,oif_t,hg,ob_s]
  rw [set_mid,wr1 (by omega),wr1 (by omega)]
  have:=mark_i (d:=d) r (p:=p++[(k:Int)]) (k:=k+1) (fuel:=fuel) (by omega) (by simp;omega) (by omega)
  rw [List.length_append,show (p++[(k:Int)])++r=p++(k:Int)::r by simp] at this
  simp only [List.length_cons,List.length_nil,mIs]
  rw [show k+(r.length+1)=k+1+r.length by omega,show p++(k:Int)::mIs (k+1) r.length=(p++[(k:Int)])++mIs (k+1) r.length by simp]
  exact this
theorem held_i {d:Nat} {l:List Int}:∀ (n:Nat) {p:List Int} {k fuel:Nat},l=p++mIs k n→n < fuel→p.length+n≤2000000→k+n≤1000000000 →
  iterP (l33_0 d l (j33_0 d)) fuel ((k:Int),0,((p.length:Nat):Int))=some ((k+n:Nat):Int)
 | n,p,k,0,_,h,_,_=>by omega
 | 0,p,k,fuel+1,e,h,h2,h3=>by
  simp only [mIs,List.append_nil] at e
  subst e
  simp only [iterP,l33_0,l33_0_b]
  rw [ltn,oif_f]
  unfold j33_0
  simp
 | n+1,p,k,fuel+1,e,h,h2,h3=>by
  have hg:l[p.length]? = some (k:Int):=by rw [e];simp [mIs]
  have hlt:=(List.getElem?_eq_some_iff.1 hg).1
  simp only [iterP,l33_0,l33_0_b,ofNat_toNat,nn,oif_t]
  rw [decide_eq_true (show ((p.length:Nat):Int) < ((l.length:Nat):Int) by omega),oif_t,hg]
  simp only [ob_s]
  rw [wr1 (by omega),wr1 (by omega)]
  simp only [bne_self_eq_false,oif_f]
  have:=held_i (d:=d) (l:=l) n (p:=p++[(k:Int)]) (k:=k+1) (fuel:=fuel) (by rw [e];simp [mIs]) (by omega) (by simp;omega) (by omega)
  rw [List.length_append] at this
  simp only [List.length_cons,List.length_nil] at this
  rw [show k+(n+1)=k+1+n by omega]
  exact this
theorem q_markIntS {d k:Nat} {l:List Int} (hl:l.length≤1048576) (hk:k≤100000000):g32 (d+1) l (k:Int)=some (((k+l.length:Nat):Int),mIs k l.length):=by
 rw [e32]
 exact mark_i l (p:=[]) (by rw [fuelN_eq];omega) (by simp;omega) (by omega)
theorem q_markClassS {d k:Nat} {l:List Cl8} (hl:l.length≤1048576) (hk:k≤100000000):g53 (d+1) l (k:Int)=some (((k+8*l.length:Nat):Int),mCs k l.length):=by
 rw [e53]
 exact mark_c l (p:=[]) (by rw [fuelN_eq];omega) (by simp;omega) (by omega)
theorem q_markFilterS {d k:Nat} {l:List Fl5} (hl:l.length≤1048576) (hk:k≤100000000):g54 (d+1) l (k:Int)=some (((k+5*l.length:Nat):Int),mFs k l.length):=by
 rw [e54]
 exact mark_f l (p:=[]) (by rw [fuelN_eq];omega) (by simp;omega) (by omega)
theorem q_heldIntS {d k n:Nat} (hl:n≤1048576) (hk:k≤100000000):g33 (d+1) (mIs k n) (k:Int)=some (((k+n:Nat):Int)):=by
 rw [e33]
 exact held_i n (p:=[]) rfl (by rw [fuelN_eq];omega) (by simp;omega) (by omega)
theorem q_heldClassS {d k n:Nat} (hl:n≤1048576) (hk:k≤100000000):g55 (d+1) (mCs k n) (k:Int)=some (((k+8*n:Nat):Int)):=by
 rw [e55]
 exact held_c n (p:=[]) rfl (by rw [fuelN_eq];omega) (by simp;omega) (by omega)
theorem q_heldFilterS {d k n:Nat} (hl:n≤1048576) (hk:k≤100000000):g56 (d+1) (mFs k n) (k:Int)=some (((k+5*n:Nat):Int)):=by
 rw [e56]
 exact held_f n (p:=[]) rfl (by rw [fuelN_eq];omega) (by simp;omega) (by omega)
def mkL (k:Nat) (x:Ld):Ld:=(x.1,mCs k x.2.1.length,mIs (k+8*x.2.1.length) x.2.2.1.length,mIs (k+8*x.2.1.length+x.2.2.1.length) x.2.2.2.1.length,mIs (k+8*x.2.1.length+x.2.2.1.length+x.2.2.2.1.length) x.2.2.2.2.1.length,mIs (k+8*x.2.1.length+x.2.2.1.length+x.2.2.2.1.length+x.2.2.2.2.1.length) x.2.2.2.2.2.1.length,mFs (k+8*x.2.1.length+x.2.2.1.length+x.2.2.2.1.length+x.2.2.2.2.1.length+x.2.2.2.2.2.1.length) x.2.2.2.2.2.2.1.length,mIs (k+8*x.2.1.length+x.2.2.1.length+x.2.2.2.1.length+x.2.2.2.2.1.length+x.2.2.2.2.2.1.length+5*x.2.2.2.2.2.2.1.length) x.2.2.2.2.2.2.2.1.length,x.2.2.2.2.2.2.2.2)
def enL (k:Nat) (x:Ld):Nat:=k+8*x.2.1.length+x.2.2.1.length+x.2.2.2.1.length+x.2.2.2.2.1.length+x.2.2.2.2.2.1.length+5*x.2.2.2.2.2.2.1.length+x.2.2.2.2.2.2.2.1.length
theorem enL_le {k:Nat} {x:Ld} (h:ldL x):enL k x≤k+20000000:=by
 obtain ⟨z1,z2,z3,z4,z5,z6,z7,z8⟩:=h
 unfold enL;omega
theorem q_heldLoaded {d k:Nat} {x:Ld} (h:ldL x) (hk:k≤10000000):g64 (d+2) (mkL k x) (k:Int)=some ((enL k x:Nat):Int):=by
 obtain ⟨z1,z2,z3,z4,z5,z6,z7,z8⟩:=h
 rw [e64]
 unfold mkL
 simp only []
 rw [q_heldClassS (by omega) (by omega),ob_s,decide_eq_false (by omega),oif_f,q_heldIntS (by omega) (by omega),ob_s,decide_eq_false (by omega),oif_f,q_heldIntS (by omega) (by omega),ob_s,decide_eq_false (by omega),oif_f,q_heldIntS (by omega) (by omega),ob_s,decide_eq_false (by omega),oif_f,q_heldIntS (by omega) (by omega),ob_s,decide_eq_false (by omega),oif_f,q_heldFilterS (by omega) (by omega),ob_s,decide_eq_false (by omega),oif_f,q_heldIntS (by omega) (by omega),ob_s,decide_eq_false (by omega),oif_f]
 rfl
def mkT (k:Nat) (t:Tk):Tk:=(mIs k t.1.length,mIs (k+t.1.length) t.2.length)
def enT2 (k:Nat) (t:Tk):Nat:=k+t.1.length+t.2.length
theorem q_heldTokens {d k:Nat} {t:Tk} (h1:t.1.length≤1048576) (h2:t.2.length≤1048576) (hk:k≤90000000):g36 (d+2) (mkT k t) (k:Int)=some ((enT2 k t:Nat):Int):=by
 rw [e36]
 unfold mkT
 simp only []
 rw [q_heldIntS (by omega) (by omega),ob_s,decide_eq_false (by omega),oif_f,q_heldIntS (by omega) (by omega),ob_s,decide_eq_false (by omega),oif_f]
 rfl
theorem q_eqTokens {d:Nat} {t:Tk} (h1:t.1.length≤2000000) (h2:t.2.length≤2000000):g30 (d+2) t t=some true:=by
 rw [e30,q_eqIntS h1,ob_s,Bool.not_true,oif_f,q_eqIntS h2,ob_s,Bool.not_true,oif_f]
def cfW (c:Cf):Prop:=c.1.size≤9223372036854775807∧c.2.1.length≤9223372036854775807∧c.2.2.1.length≤9223372036854775807
def cfL (c:Cf):Prop:=c.1.size≤1048576∧c.2.1.length≤1048576∧c.2.2.1.length≤1048576
theorem p_szConfig {d:Nat} {c:Cf} {n:Int} (h0:0≤n) (h1:n≤1048576) (h:cfW c):Ok (g18 (d+2) c n) fun r=>r < 0∨(0≤r∧r≤n∧cfL c):=by
 obtain ⟨z1,z2,z3⟩:=h
 have no:Ok (some (-1:Int)) fun r=>r < 0∨(0≤r∧r≤n∧cfL c):=Ok.some (Or.inl (by omega))
 rw [e18,wr (by omega) (by omega)]
 refine Ok.oif (fun _=>no) (fun hs=>?_)
 simp only [decide_eq_false_iff_not] at hs
 refine Ok.bind (p_szClassS (by omega) (by omega) z2) fun r3 g3=>?_
 refine Ok.oif (fun _=>no) (fun hs3=>?_)
 simp only [decide_eq_false_iff_not] at hs3
 have g3:=g3.resolve_left hs3
 refine Ok.bind (p_szFilterS (by omega) (by omega) z3) fun r4 g4=>?_
 refine Ok.oif (fun _=>no) (fun hs4=>?_)
 simp only [decide_eq_false_iff_not] at hs4
 have g4:=g4.resolve_left hs4
 exact Ok.some (Or.inr ⟨by omega,by omega,by omega,by omega,by omega⟩)
theorem q_toConfig {d:Nat} {c:Cf} (h:cfL c):g20 (d+3) c=some c:=by
 rw [e20,q_toClassS h.2.1,ob_s,q_toFilterS h.2.2,ob_s]
end Go.Proofs.YtgilhiacfogiaaaGreatDoor
set_option linter.all false
namespace Go.Proofs.YtgilhiacfogiaaaGreatDoor
open Go.Ev Go.Pv
abbrev Pk6:=Int×Int×Int×Int×Int×Int
abbrev Rn:=Ld×Tk×List (List Pk6)×Int×Int
theorem rangeR_map2 {α γ δ β:Type} {e:α→γ} {f:α→δ} {fin:List γ×List δ→Option β} {w v:Nat}:∀ (l:List α) (i:Nat) (t:List γ×List δ),(t.1.length+l.length)*w≤100000000→(t.2.length+l.length)*v≤100000000 →
  rangeR (fun x _ t k=>oif (Nat.ble ((t.1.length+[e x].length)*w) roomMax) (oif (Nat.ble ((t.2.length+[f x].length)*v) roomMax) (k (t.1++[e x],t.2++[f x])) none) none) fin l i t=fin (t.1++l.map e,t.2++l.map f)
 | [],i,t,_,_=>by simp [rangeR]
 | x::r,i,t,h,h'=>by
  simp only [rangeR]
  rw [room (by
   have:(t.1.length+[e x].length)*w≤(t.1.length+(x::r).length)*w:=Nat.mul_le_mul_right w (by simp)
   omega),oif_t,room (by
   have:(t.2.length+[f x].length)*v≤(t.2.length+(x::r).length)*v:=Nat.mul_le_mul_right v (by simp)
   omega),oif_t]
  rw [rangeR_map2 r (i+1) (t.1++[e x],t.2++[f x]) (by
   refine Nat.le_trans (Nat.mul_le_mul_right w ?_) h
   simp;omega) (by
   refine Nat.le_trans (Nat.mul_le_mul_right v ?_) h'
   simp;omega)]
  simp
def fuT (x:Ld):Tk:=(x.2.1.map fun c=>c.2.2.2.2.1,x.2.1.map fun c=>c.2.2.2.2.2.1)
theorem q_fullTokens {d:Nat} {x:Ld} (hl:x.2.1.length≤1000):g60 (d+1) x=some (fuT x):=by
 rw [e60]
 refine (range_eq (fun (t:Tk) (i:Int)=>(i,t)) x.2.1 (fun c _ t k=>oif (Nat.ble ((t.1.length+[c.2.2.2.2.1].length)*8) roomMax) (oif (Nat.ble ((t.2.length+[c.2.2.2.2.2.1].length)*8) roomMax) (k (t.1++[c.2.2.2.2.1],t.2++[c.2.2.2.2.2.1])) none) none) (fun t=>some t) ?_ ?_ (by rw [fuelN_eq];omega) ([],[])).trans ?_
 ·intro ag t i x hx;have hi:=(List.getElem?_eq_some_iff.1 hx).1;simp only [l60_0,l60_0_b,ltl hx,nn,ofNat_toNat,hx,ob_s,oif_t];rw [wr1 (by omega)]
 ·intro ag t;simp only [l60_0,l60_0_b,ltn,oif_f];rfl
 ·rw [rangeR_map2 (e:=fun c:Cl8=>c.2.2.2.2.1) (f:=fun c:Cl8=>c.2.2.2.2.2.1) x.2.1 0 ([],[]) (by simp;omega) (by simp;omega)]
  rfl
theorem q_htFull {d:Nat} {x:Ld} (hl:x.2.1.length≤1000):g102 (d+1) x=some (fuT x):=by
 rw [e102]
 refine (range_eq (fun (t:Tk) (i:Int)=>(i,t)) x.2.1 (fun c _ t k=>oif (Nat.ble ((t.1.length+[c.2.2.2.2.1].length)*8) roomMax) (oif (Nat.ble ((t.2.length+[c.2.2.2.2.2.1].length)*8) roomMax) (k (t.1++[c.2.2.2.2.1],t.2++[c.2.2.2.2.2.1])) none) none) (fun t=>some t) ?_ ?_ (by rw [fuelN_eq];omega) ([],[])).trans ?_
 ·intro ag t i x hx;have hi:=(List.getElem?_eq_some_iff.1 hx).1;simp only [l102_0,l102_0_b,ltl hx,nn,ofNat_toNat,hx,ob_s,oif_t];rw [wr1 (by omega)]
 ·intro ag t;simp only [l102_0,l102_0_b,ltn,oif_f];rfl
 ·rw [rangeR_map2 (e:=fun c:Cl8=>c.2.2.2.2.1) (f:=fun c:Cl8=>c.2.2.2.2.2.1) x.2.1 0 ([],[]) (by simp;omega) (by simp;omega)]
  rfl
def lvV (F:List Int):List Int:=selI (fun f _=>decide (f < 0)) (fun _ k=>((k:Nat):Int)) F 0
theorem lvV_len {F:List Int}:(lvV F).length≤F.length:=selI_len _ _
theorem q_leavesAt {d:Nat} {x:Ld} (hl:x.2.1.length≤1000) (hE:x.2.2.2.1.length=x.2.1.length):g61 (d+1) x=some (lvV x.2.2.2.1):=by
 rw [e61]
 refine (range_eq (fun (t:List Int) (i:Int)=>(t,i)) x.2.2.2.1 (fun f i t k=>oif (decide (f < 0)) (oif (Nat.ble ((t.length+[((i:Nat):Int)].length)*8) roomMax) (k (t++[((i:Nat):Int)])) none) (k t)) (fun t=>some t) ?_ ?_ (by rw [fuelN_eq];omega) []).trans ?_
 ·intro ag t i f hx
  have hi:=(List.getElem?_eq_some_iff.1 hx).1
  simp only [l61_0,l61_0_b,← hE,ltl hx,nn,ofNat_toNat,hx,ob_s,oif_t]
  rw [wr1 (by omega)]
 ·intro ag t;simp only [l61_0,l61_0_b,← hE,ltn,oif_f];rfl
 ·rw [rangeR_sel (c:=fun f _=>decide (f < 0)) (e:=fun (_:Int) (k:Nat)=>((k:Nat):Int)) (w:=8) x.2.2.2.1 0 [] (by simp;omega)]
  rfl
theorem q_loLeaf {d k:Nat} {x:Ld} {f:Int} (h:x.2.2.2.1[k]? = some f):g110 (d+1) x ((k:Nat):Int)=some (decide (f < 0)):=by
 rw [e110,nn,oif_t,ofNat_toNat,h,ob_s]
theorem q_loLeaves {d:Nat} {x:Ld} (hl:x.2.1.length≤1000) (hE:x.2.2.2.1.length=x.2.1.length):g74 (d+2) x=some (lvV x.2.2.2.1):=by
 rw [e74]
 refine (range_eq (fun (t:List Int) (i:Int)=>(t,i)) x.2.2.2.1 (fun f i t k=>oif (decide (f < 0)) (oif (Nat.ble ((t.length+[((i:Nat):Int)].length)*8) roomMax) (k (t++[((i:Nat):Int)])) none) (k t)) (fun t=>some t) ?_ ?_ (by rw [fuelN_eq];omega) []).trans ?_
 ·intro ag t i f hx
  have hi:=(List.getElem?_eq_some_iff.1 hx).1
  simp only [l74_0,l74_0_b,← hE,ltl hx,oif_t]
  rw [q_loLeaf hx,ob_s,wr1 (by omega)]
 ·intro ag t;simp only [l74_0,l74_0_b,← hE,ltn,oif_f];rfl
 ·rw [rangeR_sel (c:=fun f _=>decide (f < 0)) (e:=fun (_:Int) (k:Nat)=>((k:Nat):Int)) (w:=8) x.2.2.2.1 0 [] (by simp;omega)]
  rfl
theorem ldV_len {c:Cf} (G:Gd c):(ldV c).2.1.length≤24∧(ldV c).2.2.2.1.length=(ldV c).2.1.length:=by
 have h1:=wlk_len G.tr
 have h2:=G.tr.n24
 refine ⟨?_,?_⟩
 ·show ((wlk c.2.1).map (clAt c.2.1)).length≤24
  rw [List.length_map];omega
 ·show ((wlk c.2.1).map (fun i=>pW c.2.1 (fsI c.2.1 i))).length=((wlk c.2.1).map (clAt c.2.1)).length
  rw [List.length_map,List.length_map]
def nrV (c:Cf):Rn×Bool:=if gdB c=true then ((ldV c,fuT (ldV c),List.replicate (lvV (ldV c).2.2.2.1).length [],-1,0),true) else (((⟨#[]⟩,[],[],[],[],[],[],[],0),([],[]),[],0,0),false)
theorem q_LoadConfig {d:Nat} {c:Cf} (hl:c.2.1.length < 4000000) (hf:c.2.2.1.length < 4000000):g59 (d+15) c=some (if gdB c=true then (ldV c,true) else ((⟨#[]⟩,[],[],[],[],[],[],[],0),false)):=by
 rw [e59,show d+14=(d+6)+8 by omega,q_IsConfig hl hf,ob_s]
 cases hg:gdB c with
 | false=>rw [if_neg (by simp)];rfl
 | true=>rw [if_pos rfl,Bool.not_true,oif_f,show d+6+8=d+14 by omega,q_loadConfig (gd_of hg),ob_s]
theorem q_NewRun {d:Nat} {c:Cf} (hl:c.2.1.length < 4000000) (hf:c.2.2.1.length < 4000000):g21 (d+16) c=some (nrV c):=by
 rw [e21,q_LoadConfig hl hf,ob_s]
 unfold nrV
 cases hg:gdB c with
 | false=>rw [if_neg (by simp),if_neg (by simp)];rfl
 | true =>
  obtain ⟨h1,h2⟩:=ldV_len (gd_of hg)
  have h3:=lvV_len (F:=(ldV c).2.2.2.1)
  rw [if_pos rfl,if_pos rfl]
  simp only [Bool.not_true,oif_f]
  rw [show d+15=d+14+1 by omega,q_fullTokens (by omega),ob_s,q_leavesAt (by omega) h2,ob_s]
  rw [nn,oif_t,oif_t,ofNat_toNat,show (Nat.ble (lvV (ldV c).2.2.2.1).length (lvV (ldV c).2.2.2.1).length&&Nat.ble ((lvV (ldV c).2.2.2.1).length*24) roomMax)=true by rw [Bool.and_eq_true,Nat.ble_eq,Nat.ble_eq];unfold roomMax;omega,oif_t]
theorem q_sNewRun {d:Nat} {c:Cf} (hs:c.1.size < 4000000) (hf:c.2.2.1.length < 4000000):g19 (d+12) c=some (nrV c):=by
 rw [e19,show d+11=d+6+5 by omega,q_cfGood hs hf,ob_s]
 unfold nrV
 cases hg:gdB c with
 | false=>rw [if_neg (by simp)];rfl
 | true =>
  obtain ⟨h1,h2⟩:=ldV_len (gd_of hg)
  have h3:=lvV_len (F:=(ldV c).2.2.2.1)
  rw [if_pos rfl,Bool.not_true,oif_f,show d+6+5=d+10+1 by omega,e58,q_loLoad (gd_of hg),ob_s,show d+10=d+8+2 by omega,q_loLeaves (by omega) h2,show d+8+2=d+9+1 by omega,q_htFull (by omega),ob_s,ob_s]
  rw [nn,oif_t,oif_t,ofNat_toNat,show (Nat.ble (lvV (ldV c).2.2.2.1).length (lvV (ldV c).2.2.2.1).length&&Nat.ble ((lvV (ldV c).2.2.2.1).length*24) roomMax)=true by rw [Bool.and_eq_true,Nat.ble_eq,Nat.ble_eq];unfold roomMax;omega,oif_t]
  rfl
end Go.Proofs.YtgilhiacfogiaaaGreatDoor
set_option linter.all false
namespace Go.Proofs.YtgilhiacfogiaaaGreatDoor
open Go.Ev Go.Pv
theorem fuel1:∃ f,fuelN=f+1:=⟨fuelN - 1,by rw [fuelN_eq]⟩
theorem q_eqPacketS0 {d:Nat}:g103 (d+1) [] []=some true:=by
 rw [e103,bne_self_eq_false,oif_f]
 obtain ⟨f,hf⟩:=fuel1
 rw [hf];rfl
theorem q_heldPacketS0 {d:Nat} {k:Int}:g105 (d+1) [] k=some k:=by
 rw [e105]
 obtain ⟨f,hf⟩:=fuel1
 rw [hf];rfl
theorem q_markPacketS0 {d:Nat} {k:Int}:g104 (d+1) [] k=some (k,[]):=by
 rw [e104]
 obtain ⟨f,hf⟩:=fuel1
 rw [hf];rfl
theorem q_eqPacketSS0 {d n:Nat} (hn:n≤2000000):g62 (d+2) (List.replicate n []) (List.replicate n [])=some true:=by
 rw [e62,bne_self_eq_false,oif_f]
 refine (range_eq (fun (t:Bool) (i:Int)=>(t,i)) (List.replicate n ([]:List Pk6)) (fun x i t k=>k t) (j62_0 (d+1)) ?_ ?_ (by rw [fuelN_eq,List.length_replicate];omega) false).trans ?_
 ·intro ag t i x hx;have hi:=(List.getElem?_eq_some_iff.1 hx).1;simp only [l62_0,l62_0_b,ltl hx,nn,ofNat_toNat,hx,ob_s,oif_t]
  have hx0:x=[]:=List.eq_of_mem_replicate (List.mem_of_getElem? hx)
  subst hx0
  rw [q_eqPacketS0,ob_s,Bool.not_true,oif_f,wr1 (by rw [List.length_replicate] at hi;omega)]
 ·intro ag t;simp only [l62_0,l62_0_b,ltn,oif_f]
 ·rw [rangeR_fold (f:=fun _ _ t=>t)];rfl
theorem q_heldPacketSS0 {d n k:Nat} (hn:n≤2000000):g65 (d+2) (List.replicate n []) (k:Int)=some (k:Int):=by
 rw [e65]
 refine (range_eq (fun (t:Int×Int) (i:Int)=>(t.1,t.2,i)) (List.replicate n ([]:List Pk6)) (fun x i t k=>oif (decide (t.1 < 0)) (some (-1)) (k t)) (fun t=>some t.1) ?_ ?_ (by rw [fuelN_eq,List.length_replicate];omega) ((k:Int),0)).trans ?_
 ·intro ag t i x hx;have hi:=(List.getElem?_eq_some_iff.1 hx).1;simp only [l65_0,l65_0_b,ltl hx,nn,ofNat_toNat,hx,ob_s,oif_t]
  have hx0:x=[]:=List.eq_of_mem_replicate (List.mem_of_getElem? hx)
  subst hx0
  rw [q_heldPacketS0,ob_s,wr1 (by rw [List.length_replicate] at hi;omega)]
 ·intro ag t;simp only [l65_0,l65_0_b,ltn,oif_f];rfl
 ·have:∀ (l:List (List Pk6)) (i:Nat) (w:Int),rangeR (fun x i (t:Int×Int) k=>oif (decide (t.1 < 0)) (some (-1)) (k t)) (fun t:Int×Int=>some t.1) l i ((k:Int),w)=some (k:Int):=by
   intro l
   induction l with
   | nil=>intro i w;rfl
   | cons x r ih=>intro i w;simp only [rangeR];rw [decide_eq_false (by omega),oif_f];exact ih _ _
  exact this _ _ _
def rn0 (r:Rn) (n:Nat):Prop:=r.2.2.1=List.replicate n []∧n≤2000000∧ldL r.1∧r.2.1.1.length≤1048576∧r.2.1.2.length≤1048576
theorem q_eqRun0 {d n:Nat} {r:Rn} (h:rn0 r n):g22 (d+4) r r=some true:=by
 obtain ⟨h1,h2,h3,h4,h5⟩:=h
 rw [e22,q_eqLoaded h3,ob_s,Bool.not_true,oif_f,show d+3=d+1+2 by omega,q_eqTokens (by omega) (by omega),ob_s,Bool.not_true,oif_f,h1,q_eqPacketSS0 h2,ob_s,Bool.not_true,oif_f,bne_self_eq_false,oif_f,bne_self_eq_false,oif_f]
theorem q_heldRun0 {d n k:Nat} {x:Ld} {t:Tk} {a b:Int} (hx:ldL x) (h1:t.1.length≤1048576) (h2:t.2.length≤1048576) (hn:n≤2000000) (hk:k≤1000000):g24 (d+3) ((mkL k x,mkT (enL k x) t,List.replicate n [],a,b):Rn) (k:Int)=some ((enT2 (enL k x) t:Nat):Int):=by
 have:=enL_le (k:=k) hx
 rw [e24]
 simp only []
 rw [q_heldLoaded hx (by omega),ob_s,decide_eq_false (by omega),oif_f,q_heldTokens h1 h2 (by omega),ob_s,decide_eq_false (by omega),oif_f,q_heldPacketSS0 hn,ob_s,decide_eq_false (by omega),oif_f]
end Go.Proofs.YtgilhiacfogiaaaGreatDoor
set_option linter.all false
namespace Go.Proofs.YtgilhiacfogiaaaGreatDoor
open Go.Ev Go.Pv
theorem loop_rows {d n k:Nat} {kx:Int→List (List Pk6)→Option Bool} (hn:n≤2000000):iterP (l4i23i63_0 (d+1) kx) fuelN ((k:Int),0,List.replicate n [])=kx (k:Int) (List.replicate n []):=by
 have key:∀ (m i fuel:Nat),i+m=n→m < fuel→iterP (l4i23i63_0 (d+1) kx) fuel ((k:Int),((i:Nat):Int),List.replicate n [])=kx (k:Int) (List.replicate n []):=by
  intro m
  induction m with
  | zero =>
   intro i fuel e h
   obtain ⟨f,rfl⟩:∃ f,fuel=f+1:=⟨fuel - 1,by omega⟩
   simp only [iterP,l4i23i63_0,l4i23i63_0_b,List.length_replicate]
   rw [decide_eq_false (by omega),oif_f]
  | succ m ih =>
   intro i fuel e h
   obtain ⟨f,rfl⟩:∃ f,fuel=f+1:=⟨fuel - 1,by omega⟩
   have hx:(List.replicate n ([]:List Pk6))[i]? = some []:=by rw [List.getElem?_replicate,if_pos (by omega)]
   have hs:(List.replicate n ([]:List Pk6)).set i []=List.replicate n []:=by
    rw [List.set_replicate_self]
   simp only [iterP,l4i23i63_0,l4i23i63_0_b]
   rw [ltl hx,oif_t,nn,oif_t,ofNat_toNat,blt_of (by rw [List.length_replicate];omega),oif_t,hx,ob_s,ob_s,show Nat.beq ([]:List Pk6).length ([]:List Pk6).length=true from rfl,oif_t,q_markPacketS0,ob_s]
   simp only []
   rw [hs,wr1 (by omega)]
   exact ih (i+1) f (by omega) (by omega)
 exact key n 0 fuelN (by omega) (by rw [fuelN_eq];omega)
theorem nrV_ok {c:Cf}:∃ n,rn0 (nrV c).1 n∧n≤24:=by
 unfold nrV
 cases hg:gdB c with
 | false =>
  rw [if_neg (by simp)]
  exact ⟨0,⟨rfl,by omega,⟨by decide,by simp,by simp,by simp,by simp,by simp,by simp,by simp⟩,by simp,by simp⟩,by omega⟩
 | true =>
  have G:=gd_of hg
  rw [if_pos rfl]
  obtain ⟨h1,h2⟩:=ldV_len G
  have h3:=lvV_len (F:=(ldV c).2.2.2.1)
  have h4:=wlk_len G.tr
  have h5:=G.tr.n24
  have h6:=G.f16
  have h7:=nm_size G
  refine ⟨_,⟨rfl,by omega,⟨?_,?_,?_,?_,?_,?_,?_,?_⟩,?_,?_⟩,by omega⟩
  ·show c.1.size≤_;omega
  all_goals simp only [ldV,tabV,fuT,tgV,List.length_map,List.length_mapIdx];omega
theorem law_main {d:Nat} {c:Cf} (hw:cfW c):g4 (d+20) c=some true:=by
 rw [show d+20=(d+17)+3 by omega,e4]
 obtain ⟨r,hr,hB⟩:=p_szConfig (d:=d+17) (n:=1048576) (by omega) (by omega) hw
 rw [hr,ob_s]
 by_cases h:r < 0
 ·rw [decide_eq_true h,oif_t]
 have hl:cfL c:=by rcases hB with hB | hB;exact absurd hB h;exact hB.2.2
 obtain ⟨z1,z2,z3⟩:=id hl
 obtain ⟨n,hn,hn24⟩:=nrV_ok (c:=c)
 obtain ⟨n1,n2,n3,n4,n5⟩:=id hn
 have hT:g20 (d+17+2) c=some c:=by rw [show d+17+2=d+16+3 by omega];exact q_toConfig hl
 have hA:g21 (d+17+2) c=some (nrV c):=by rw [show d+17+2=d+3+16 by omega];exact q_NewRun (by omega) (by omega)
 have hS:g19 (d+17+2) c=some (nrV c):=by rw [show d+17+2=d+7+12 by omega];exact q_sNewRun (by omega) (by omega)
 have hC:g13 (d+17+2) c c=some true:=by rw [show d+17+2=d+16+3 by omega];exact q_eqConfig (by omega) (by omega)
 have hE:g22 (d+17+2) (nrV c).1 (nrV c).1=some true:=by rw [show d+17+2=d+15+4 by omega];exact q_eqRun0 hn
 have hH:g24 (d+17+2) ((mkL 1 (nrV c).1.1,mkT (enL 1 (nrV c).1.1) (nrV c).1.2.1,List.replicate n [],(nrV c).1.2.2.2):Rn) 1=some ((enT2 (enL 1 (nrV c).1.1) (nrV c).1.2.1:Nat):Int):=by
  rw [show d+17+2=d+16+3 by omega]
  exact q_heldRun0 (k:=1) n3 n4 n5 (by omega) (by omega)
 rw [decide_eq_false h,oif_f,hT,ob_s,hS,ob_s,ob_s,hA,ob_s,hE,ob_s,Bool.not_true,oif_f,beq_self_eq_true,Bool.not_true]
 unfold j4_2
 rw [oif_f,hT,ob_s,hC,ob_s,Bool.not_true,oif_f,show d+17+1=d+17+1 from rfl,show (1:Int)=((1:Nat):Int) from rfl,q_markClassS z2 (by omega),ob_s]
 simp only []
 rw [q_markFilterS z3 (by omega),ob_s]
 simp only []
 rw [decide_eq_false (by omega),oif_f,hE,ob_s,Bool.not_true,oif_f,beq_self_eq_true,Bool.not_true]
 unfold j4_1
 obtain ⟨m1,m2,m3,m4,m5,m6,m7,m8⟩:=id n3
 rw [oif_f,show d+17=d+16+1 by omega,show (1:Int)=((1:Nat):Int) from rfl,q_markClassS m2 (by omega),ob_s]
 simp only []
 rw [q_markIntS m3 (by omega),ob_s]
 simp only []
 rw [q_markIntS m4 (by omega),ob_s]
 simp only []
 rw [q_markIntS m5 (by omega),ob_s]
 simp only []
 rw [q_markIntS m6 (by omega),ob_s]
 simp only []
 rw [q_markFilterS m7 (by omega),ob_s]
 simp only []
 rw [q_markIntS m8 (by omega),ob_s]
 simp only []
 rw [q_markIntS n4 (by omega),ob_s]
 simp only []
 rw [q_markIntS n5 (by omega),ob_s]
 simp only []
 rw [n1,loop_rows n2]
 unfold j4i23i63_0
 refine (congrArg (fun z=>obind z _) hH).trans ?_
 rw [ob_s,decide_eq_false (by omega),oif_f]
 refine (congrArg (fun z=>oif z _ _) (show ((((enT2 (enL 1 (nrV c).1.1) (nrV c).1.2.1:Nat):Int)) != _)=false from bne_self_eq_false _)).trans ?_
 rw [oif_f,show d+16+1+2=d+17+2 by omega,hT,ob_s,hA,ob_s,hE,ob_s,Bool.not_true,oif_f,beq_self_eq_true,Bool.not_true]
 unfold j4_0
 rw [oif_f]
 refine (congrArg (fun z=>obind z _) hH).trans ?_
 rw [ob_s,decide_eq_false (by omega),oif_f]
 refine (congrArg (fun z=>oif z _ _) (show ((((enT2 (enL 1 (nrV c).1.1) (nrV c).1.2.1:Nat):Int)) != _)=false from bne_self_eq_false _)).trans ?_
 rw [oif_f]
abbrev tyC:Ty:=.pair (.int .i64) (.pair (.int .i64) (.pair (.int .i64) (.pair (.int .i64) (.pair (.int .i64) (.pair (.int .i64) (.pair (.int .i64) (.int .i64)))))))
abbrev tyF:Ty:=.pair (.int .i64) (.pair (.int .i64) (.pair (.int .i64) (.pair (.int .i64) (.int .i64))))
abbrev tyCf:Ty:=.pair .str (.pair (.sl tyC) (.pair (.sl tyF) (.int .i64)))
def tysLaw:List Ty:=[tyCf]
theorem cfW_of {x:Cf} (h:Wf tyCf x):cfW x:=by
 obtain ⟨h1,⟨h2,_⟩,⟨h3,_⟩,_⟩:=h
 exact ⟨h1,h2,h3⟩
theorem lawAny:LawAny Tryz.prog pvAnn (20) 4 tysLaw :=
 ⟨rfl,rfl,rfl,fun a h=>⟨true,law_main (d:=0) (cfW_of (h ⟨_,a⟩ (List.Mem.head _))),rfl⟩⟩
end Go.Proofs.YtgilhiacfogiaaaGreatDoor
