/-
  Configurations by value. And what stood behind it in 4 texts.
  Conditions: said at the theorems.
-/
import Derived.Test.YtcoimfbmgjhcjabGreatDoorK10
set_option linter.all false
namespace Go.Proofs.YtcoimfbmgjhcjabGreatDoor
open Go.Ev Go.Pv
theorem Pt {σ τ α β:Type} (mk:τ->Int->σ) {F:(σ->Option β)->σ->Option β} (l:List α) (I:Nat->τ->Prop) {Q:β->Prop}
  (h1:∀ ag t (i:Nat) x,l[i]? = some x->I i t->(∀ t',I (i+1) t'->Ok (ag (mk t' ((i+1:Nat):Int))) Q)->Ok (F ag (mk t i)) Q)
  (h2:∀ ag t,I l.length t->Ok (F ag (mk t (l.length:Int))) Q):∀ (fuel i:Nat) (t:τ),l.length < fuel+i->i<=l.length->I i t->Ok (Q8 F fuel (mk t i)) Q
 | 0,i,t,h,hi,_=>by omega
 | fuel+1,i,t,h,hi,hI=>by
  simp only [Q8]
  rcases Nat.lt_or_ge i l.length with au | tA
  .exact h1 _ t i l[i] (Z6 au) hI fun t' ht=>Pt mk l I h1 h2 fuel (i+1) t' (by omega) (by omega) ht
  .have:i=l.length:=by omega
   subst this
   exact h2 _ t hI
structure Nm (l:List aA):Prop where
 num:∀ x∈l,VA x
 ai:∀ x∈l,gP l x.1=true->0<=x.2.2.2.2.2.2.2/\x.2.2.2.2.2.2.2<=1000000000
theorem VD {l:List aA} (h:kD l=true):Nm l:=by
 have T:=Qze h
 unfold kD at h
 simp only [Z8,Zj] at h
 obtain ⟨⟨h1,h2⟩,h3,h4,h5,h6,h7,h8,h9,L8⟩:=h
 refine ⟨fun x hx=>?_,fun x hx JB=>?_⟩
 .have a:=Z3 h7 x hx
  have b:=Z3 h9 x hx
  obtain ⟨i,hi⟩:=List.getElem?_of_mem hx
  unfold rQ at h3
  rw [o_] at h3
  have g:=h3 i x hi
  unfold mI at a
  unfold nc at b
  unfold Ah at g
  simp only [Z8,Zj] at a b g
  unfold VA
  omega
 .have a:=Z3 L8 x hx
  unfold mY at a
  rw [if_pos JB] at a
  simp only [Zj] at a
  omega
theorem Qwp {l:List aA} {i:Int} (h:gP l (aV l i).1=true):cj l i=[]:=by
 have:=Qgu (l:=l) (id:=(aV l i).1)
 rw [h,beq_iff_eq] at this
 exact List.eq_nil_of_length_eq_zero (by unfold cj;omega)
theorem Qut {d:Nat} {c:Cf} {i:Int} {ls:List ByteArray} {o f1 l1:List Int} (h0:0<=i) (h1:i.toNat < l1.length) {Q:Pr->Prop} (hQ:Q (c,ls,o,f1,l1.set i.toNat ((ls.length:Nat):Int))):Ok (me d i c.1 c.2.1 c.2.2.1 c.2.2.2 ls o f1 l1) Q:=by
 unfold me
 rw [Z5 h0,Q4,Qk h1,Q4,Z6 h1,Q9]
 exact Ok.some hQ
theorem Qhb {α β:Type} {w:α->List β} {l:List α} {k:Nat} {x:α} (h:l[k]? = some x):(l.take (k+1)).flatMap w=(l.take k).flatMap w++w x:=by
 have hk:=(Z0 h)
 obtain ⟨h1,h2⟩:=hk
 rw [List.take_succ,h]
 simp [List.flatMap_append]
theorem Quu {d:Nat} {c:Cf} (T:Tr c.2.1) (N:Nm c.2.1):∀ (f:Nat) (i:Int) (p:Pr) (aH:Int),vI c.2.1 i->9 - gd c.2.1 i<=f->0<=aH->aH+f<=50->p.1=c->p.2.2.1.length+(dw c.2.1 f i).length<=500->p.2.2.2.1.length=c.2.1.length->p.2.2.2.2.length=c.2.1.length->p.2.1.length+2*(dw c.2.1 f i).length<=900 ->
  Ok (Cz (d+4+f) p i aH) fun r=>r.1=c/\r.2.2.1=p.2.2.1++dw c.2.1 f i/\r.2.2.2.1.length=c.2.1.length/\r.2.2.2.2.length=c.2.1.length/\r.2.1.length<=p.2.1.length+2*(dw c.2.1 f i).length
 | 0,i,p,aH,hv,hf,_,_,_,_,_,_,_=>by have:=(T.Hp i hv).1;unfold gd at *;omega
 | f+1,i,p,aH,hv,hf,wP,oE,hp,ho,h1,h2,h3=>by
  have iz:=T.ef
  obtain ⟨pc,ls,o,f1,l1⟩:=p
  simp only at hp ho h1 h2 h3
  subst hp
  have hg:=fu hv
  have hm:=Zc hg
  have VE:=hv.2
  have hva:=hv.1
  have hlen:0 < (dw pc.2.1 (f+1) i).length:=by simp [dw]
  rw [show d+4+(f+1)=(d+4+f)+1 by omega,UK]
  simp only []
  have JB:GG (d+4+f) pc i=some (gP pc.2.1 (aV pc.2.1 i).1):=by
   have:=OZ (d:=d+f) (c:=pc) (n:=i.toNat) hg (by omega)
   rw [Int.toNat_of_nonneg hv.1,show d+f+4=d+4+f by omega] at this
   exact this
  rw [Z5 hv.1,Q4,hg,Q9,room (by simp;omega),Q4,JB,Q9]
  cases hL:gP pc.2.1 (aV pc.2.1 i).1 with
  | true =>
   rw [Q4]
   have hk:=Qwp hL
   have hw:dw pc.2.1 (f+1) i=[i]:=by simp [dw,hk]
   rw [hw] at h3 ho ⊢
   simp only [Z9,Zb] at h3 ho ⊢
   rw [show d+4+f=(d+1+f)+3 by omega]
   refine Ok.bind (Qbb (N.num _ hm)) fun r6 g6=>?_
   refine Ok.cat (by (try simp only [Za,cg,Z9,Zb] at *);omega) (by (try simp only [Za,cg,Z9,Zb] at *);omega) ?_
   obtain ⟨q1,q2⟩:=N.ai _ hm hL
   rw [show d+1+f+3=(d+2+f)+2 by omega]
   refine Ok.bind (Ma q1 q2) fun r7 g7=>?_
   refine Ok.cat (by (try simp only [Za,cg,Z9,Zb] at *);omega) (by (try simp only [Za,cg,Z9,Zb] at *);omega) ?_
   refine Ok.cat (by (try simp only [Za,cg,Z9,Zb] at *);omega) (by (try simp only [Za,cg,Z9,Zb] at *);omega) ?_
   refine Ok.bind (JA wP (by omega) (by (try simp only [Za,cg,Z9,Zb] at *);omega) (by simp only;omega)) fun r8 g8=>?_
   obtain ⟨a1,a2,a3⟩:=g8
   obtain ⟨rc,rl,ro,rf,rr⟩:=r8
   simp only at a1 a2 a3
   subst a1
   injection a3 with a3 a4
   injection a4 with a4 a5
   subst a3 a4 a5
   simp only []
   have gp:i.toNat < rf.length:=by omega
   have sJ:i.toNat < rr.length:=by omega
   rw [Q4,Qk gp,Q4,Z6 gp,Q9]
   refine Qut hv.1 sJ ⟨rfl,rfl,?_,?_,?_⟩
   .simp only [List.length_set];exact h1
   .simp only [List.length_set];exact h2
   .simp only;omega
  | false =>
   rw [Q5,show d+4+f=(d+1+f)+3 by omega]
   refine Ok.bind (Qbb (N.num _ hm)) fun oJ g10=>?_
   refine Ok.cat (by (try simp only [Za,cg,Z9,Zb] at *);omega) (by (try simp only [Za,cg,Z9,Zb] at *);omega) ?_
   rw [show d+1+f+3=(d+2+f)+2 by omega]
   refine Ok.bind (JA wP (by omega) (by (try simp only [Za,cg,Z9,Zb] at *);omega) (by simp only;omega)) fun r8 g8=>?_
   obtain ⟨a1,a2,a3⟩:=g8
   obtain ⟨rc,rl,ro,rf,rr⟩:=r8
   simp only at a1 a2 a3
   subst a1
   injection a3 with a3 a4
   injection a4 with a4 a5
   subst a3 a4 a5
   simp only []
   have gp:i.toNat < rf.length:=by omega
   rw [Q4,Qk gp,Q4,Z6 gp,Q9]
   have sK:zg (d+2+f+2) rc i=some (cj rc.2.1 i):=by
    have:=Q9t (d:=d+f+3) (c:=rc) (n:=i.toNat) hg (by omega)
    rw [Int.toNat_of_nonneg hv.1,show d+f+3+1=d+2+f+2 by omega] at this
    exact this
   rw [sK,Q9]
   have hkl:=Vz T (i:=i)
   have hw:dw rc.2.1 (f+1) i=i::(cj rc.2.1 i).flatMap (dw rc.2.1 f):=rfl
   have VF:∀ k,((cj rc.2.1 i).take k).flatMap (dw rc.2.1 f)++((cj rc.2.1 i).drop k).flatMap (dw rc.2.1 f)=(cj rc.2.1 i).flatMap (dw rc.2.1 f):=fun k=>by rw [<- List.flatMap_append,List.take_append_drop]
   have VG:∀ k,(((cj rc.2.1 i).take k).flatMap (dw rc.2.1 f)).length+(((cj rc.2.1 i).drop k).flatMap (dw rc.2.1 f)).length=((cj rc.2.1 i).flatMap (dw rc.2.1 f)).length:=fun k=>by rw [<- VF k,Zf]
   rw [hw,Z9] at ho h3
   refine Pt (fun (t:Pr) (k:Int)=>(k,t)) (cj rc.2.1 i) (fun k t=>t.1=rc/\t.2.2.1=o++[i]++((cj rc.2.1 i).take k).flatMap (dw rc.2.1 f)/\t.2.2.2.1.length=rc.2.1.length/\t.2.2.2.2.length=rc.2.1.length/\t.2.1.length<=ls.length+1+2*(((cj rc.2.1 i).take k).flatMap (dw rc.2.1 f)).length) ?_ ?_ Qc 0 _ (by rw [Q6];omega) (by omega) ⟨rfl,by simp,by simp only [List.length_set];exact h1,h2,by simp only;rw [a2];simp⟩
   .rintro ag ⟨yc,yl,yo,yf,yr⟩ k x hx ⟨b1,b2,b3,b4,b5⟩ ez
    simp only at b1 b2 b3 b4 b5
    subst b1
    have hk:=(Z0 hx).1
    obtain ⟨v1,v2,v3⟩:=qR T hv (Zc hx)
    simp only [qx,bX hx,nn,Q3,hx,Q9,Q4,tG hx]
    have hdr:(cj yc.2.1 i).drop k=x::(cj yc.2.1 i).drop (k+1):=by
     rw [List.drop_eq_getElem_cons hk,(Z0 hx).2]
    have hq:=VG k
    rw [hdr,List.flatMap_cons,Zf] at hq
    rw [aN (by omega),wr (n:=aH+1) (by omega) (by omega),show d+2+f+2=d+4+f by omega]
    refine Ok.bind (Quu T N f x (yc,yl,yo,yf,yr) (aH+1) v1 (by omega) (by omega) (by omega) rfl ?_ b3 b4 ?_) fun r hr=>?_
    .simp only;rw [b2];simp only [Zf,Z9,Zb];omega
    .simp only;omega
    .obtain ⟨c1,c2,c3,c4,c5⟩:=hr
     refine ez r ⟨c1,?_,c3,c4,?_⟩
     .rw [c2,Qhb hx];simp only;rw [b2];simp
     .rw [Qhb hx,Zf];simp only at c5;omega
   .rintro ag ⟨yc,yl,yo,yf,yr⟩ ⟨b1,b2,b3,b4,b5⟩
    simp only at b1 b2 b3 b4 b5
    subst b1
    simp only [qx,bB,Q5]
    unfold zK
    rw [List.take_length] at b2 b5
    have hb3:i.toNat < yr.length:=by omega
    refine Ok.bind (JA wP (by omega) (by decide) (by simp only;omega)) fun r8 g8=>?_
    obtain ⟨e1,e2,e3⟩:=g8
    obtain ⟨rc',rl',ro',rf',rr'⟩:=r8
    simp only at e1 e2 e3
    have Mc:rc'=yc:=e1
    subst Mc
    injection e3 with e3 e4
    injection e4 with e4 e5
    subst e3 e4 e5
    refine Qut hv.1 hb3 ⟨rfl,?_,b3,?_,?_⟩
    .rw [b2,hw];simp
    .simp only [List.length_set];exact b4
    .rw [hw,Z9];simp only;omega
theorem sL {a b:Nat} (h:a<=b):Nat.ble a b=true:=LW h
theorem Qhc {β:Type} {n:Nat} {a b:Option β} (h:n=0->a=b):Jo n a b=b:=by
 cases n with
 | zero=>rw [h rfl];simp [Jo,both]
 | succ n=>rfl
theorem SL {d:Nat} {l:List dJ} (hl:l.length<=2000000):zm (d+1) l=some l:=by
 rw [Ut,Qhc (fun h=>?_),room (by simp;omega),Q4,List.nil_append]
 rw [Z1 h];rfl
theorem ZX {d:Nat} {l:List aA} (hl:l.length<=1000):Cr (d+1) l=some l:=by
 rw [Us,Qhc (fun h=>?_),room (by simp;omega),Q4,List.nil_append]
 rw [Z1 h];rfl
theorem Qzh {d n:Nat} (hn:n<=40):GR (d+2) (IntKind.u64.wrap ((([(-1:Int)].length:Nat):Int))) (IntKind.u64.wrap (n:Int))=some (0,(n:Int)):=by
 rw [UD,UC,Q9]
 obtain ⟨m,rfl⟩:∃ m:Fin 41,n=m.val:=⟨⟨n,by omega⟩,rfl⟩
 clear hn
 revert m
 decide +kernel
theorem Qpi {d n:Nat} (hn:n<=40):zJ (d+3) [(-1)] ((n:Nat):Int)=some (List.replicate n (-1)):=by
 rw [UE,Z4 (show ¬ ((n:Nat):Int) < 0 by omega),Q5,Qzh hn,Q9]
 simp only
 rw [show decide ((0:Int) > 0)=false from rfl,Q5,Z4 (show ¬ ((n:Nat):Int) > 9223372036854775807 by omega)]
 unfold qu
 rw [Q5]
 simp only
 rw [wr (n:=(n:Int)) (by omega) (by omega),nn,Q4,Q4,Q3]
 have bh:(Nat.ble n n&&Nat.ble (n*8) Q7)=true:=by rw [sL (Zd _),sL (show n*8<=Q7 by unfold Q7;omega)];rfl
 rw [bh,Q4]
 refine Ok.val (mH (fun j s=>∃ k:Nat,k+j=n/\(n=0\/0 < k)/\s.1=(k:Int)/\s.2=List.replicate k (-1)++List.replicate (n - k) 0) ?_ _ (n - min 1 n) _ (by rw [Q6];omega) ⟨min 1 n,by omega,by omega,by simp,?_⟩)
 .rintro j ⟨x,l⟩ ag ⟨k,hk,eO,h1,h2⟩ ez
  simp only at h1 h2
  subst h1
  have hl:l.length=n:=by rw [h2];simp;omega
  simp only [zI]
  rw [hl]
  rcases Nat.lt_or_ge k n with au | tA
  .have e1:(l.take k).length=k:=by simp;omega
   rw [Z5 (show ((k:Nat):Int) < ((n:Nat):Int) by omega),Q4,nn,Q4,Q3,sL (show k<=n by omega),Q4,Q4,Q4,Zo,e1,wr (by omega) (by omega)]
   refine ez (n - (k+min k (n - k))) _ (by omega) ⟨k+min k (n - k),by omega,by omega,by simp,?_⟩
   simp only [m_]
   rw [e1,h2]
   have t1:(List.replicate k (-1:Int)++List.replicate (n - k) 0).take k=List.replicate k (-1):=by rw [List.take_left' (by simp)]
   have t2:(List.replicate k (-1:Int)).take (n - k)=List.replicate (min k (n - k)) (-1):=by rw [List.take_replicate,Nat.min_comm]
   have t3:(List.replicate k (-1:Int)++List.replicate (n - k) 0).drop (k+min k (n - k))=List.replicate (n - (k+min k (n - k))) 0:=by
    rw [List.drop_append,List.drop_of_length_le (by simp),List.nil_append,List.drop_replicate]
    congr 1
    simp;omega
   rw [t1,t2,t3,<- List.replicate_append_replicate]
  .have:k=n:=by omega
   subst this
   rw [bB,Q5]
   unfold zH
   exact Ok.some (by rw [h2];simp)
 .simp only [m_,List.take_zero,List.nil_append,Zo]
  rcases Nat.eq_zero_or_pos n with e | e
  .subst e;rfl
  .rw [show min 1 n=1 by omega]
   rw [Zs (by simp;omega),List.drop_replicate]
   simp only [List.length_replicate,List.length_singleton]
   rw [show min 1 n=1 by omega];rfl
def jP (p:Nat->Int):Nat->Int->Int
 | 0,_=>-1
 | k+1,q=>if p k=q then (k:Int) else jP p k q
def kP (p:Nat->Int):Nat->Int->Int
 | 0,_=>-1
 | k+1,q=>if p k=q/\jP p k q < 0 then (k:Int) else kP p k q
def jQ (p:Nat->Int):Nat->Int->Int
 | 0,_=>-1
 | k+1,q=>if 0<=p k/\jP p k (p k)=q then (k:Int) else jQ p k q
theorem CO (p:Nat->Int) (q:Int):∀ m,(jP p m q=-1/\∀ j,j < m->p j≠q)\/∃ r:Nat,jP p m q=(r:Int)/\r < m/\p r=q/\∀ j,r < j->j < m->p j≠q
 | 0=>.inl ⟨rfl,fun j h=>by omega⟩
 | m+1=>by
  simp only [jP]
  by_cases h:p m=q
  .rw [if_pos h];exact .inr ⟨m,rfl,by omega,h,fun j h1 h2=>by omega⟩
  .rw [if_neg h]
   rcases CO p q m with ⟨h1,h2⟩ | ⟨r,h1,h2,h3,h4⟩
   .refine .inl ⟨h1,fun j hj=>?_⟩
    rcases Nat.lt_or_ge j m with g | g
    .exact h2 j g
    .obtain rfl:j=m:=by omega
     exact h
   .refine .inr ⟨r,h1,by omega,h3,fun j g1 g2=>?_⟩
    rcases Nat.lt_or_ge j m with g | g
    .exact h4 j g1 g
    .obtain rfl:j=m:=by omega
     exact h
theorem VH (p:Nat->Int) (q:Int):∀ m,(kP p m q=-1/\∀ j,j < m->p j≠q)\/∃ r:Nat,kP p m q=(r:Int)/\r < m/\p r=q/\∀ j,j < r->p j≠q
 | 0=>.inl ⟨rfl,fun j h=>by omega⟩
 | m+1=>by
  simp only [kP]
  by_cases h:p m=q/\jP p m q < 0
  .rw [if_pos h]
   refine .inr ⟨m,rfl,by omega,h.1,?_⟩
   rcases CO p q m with ⟨_,h2⟩ | ⟨r,h1,_⟩
   .exact h2
   .omega
  .rw [if_neg h]
   rcases VH p q m with ⟨h1,h2⟩ | ⟨r,h1,h2,h3,h4⟩
   .refine .inl ⟨h1,fun j hj=>?_⟩
    rcases Nat.lt_or_ge j m with g | g
    .exact h2 j g
    .obtain rfl:j=m:=by omega
     intro e
     refine h ⟨e,?_⟩
     rcases CO p q j with ⟨g1,_⟩ | ⟨r,g1,g2,g3,_⟩
     .omega
     .exact absurd g3 (h2 r g2)
   .exact .inr ⟨r,h1,by omega,h3,h4⟩
theorem VI (p:Nat->Int) (k:Nat) (hk:0<=p k):∀ m,(jQ p m k=-1/\∀ j,k < j->j < m->p j≠p k)\/∃ r:Nat,jQ p m k=(r:Int)/\k < r/\r < m/\p r=p k/\∀ j,k < j->j < r->p j≠p k
 | 0=>.inl ⟨rfl,fun j _ h=>by omega⟩
 | m+1=>by
  simp only [jQ]
  by_cases h:0<=p m/\jP p m (p m)=(k:Int)
  .rw [if_pos h]
   rcases CO p (p m) m with ⟨g1,_⟩ | ⟨r,g1,g2,g3,g4⟩
   .omega
   .obtain rfl:r=k:=by omega
    exact .inr ⟨m,rfl,g2,by omega,g3.symm,fun j h1 h2=>by rw [g3];exact g4 j h1 h2⟩
  .rw [if_neg h]
   rcases VI p k hk m with ⟨h1,h2⟩ | ⟨r,h1,h2,h3,h4,h5⟩
   .refine .inl ⟨h1,fun j g1 g2=>?_⟩
    rcases Nat.lt_or_ge j m with g | g
    .exact h2 j g1 g
    .obtain rfl:j=m:=by omega
     intro e
     refine h ⟨by omega,?_⟩
     rw [e]
     rcases CO p (p k) j with ⟨_,q2⟩ | ⟨r,q1,q2,q3,q4⟩
     .exact absurd rfl (q2 k g1)
     .rcases Nat.lt_trichotomy r k with q | q | q
      .exact absurd rfl (q4 k q g1)
      .rw [q1,q]
      .exact absurd q3 (h2 r q q2)
   .exact .inr ⟨r,h1,h2,by omega,h4,h5⟩
theorem Quv (p:Nat->Int) (k:Nat) (hk:p k < 0):∀ m,jQ p m k=-1
 | 0=>rfl
 | m+1=>by
  simp only [jQ]
  rw [if_neg,Quv p k hk m]
  rintro ⟨h1,h2⟩
  rcases CO p (p m) m with ⟨g1,_⟩ | ⟨r,g1,g2,g3,g4⟩
  .omega
  .obtain rfl:r=k:=by omega
   omega
def pF (l:List aA) (k:Nat):Int:=pW l (bQ l ((aG l).getD k 0))
theorem Md {l:List aA} (T:Tr l) {a b:Nat} {x y:Int} (ha:(aG l)[a]? = some x) (hb:(aG l)[b]? = some y) (h:a < b) (hp:bQ l x=bQ l y):x < y:=by
 have:=List.pairwise_iff_getElem.1 (Qh4 T)
 obtain ⟨a1,a2⟩:=Z0 ha
 obtain ⟨b1,b2⟩:=Z0 hb
 have h1:=this a b a1 b1 h
 rw [a2,b2] at h1
 exact h1 hp
theorem Me {l:List aA} {k:Nat} {i:Int} (h:(aG l)[k]? = some i):pF l k=pW l (bQ l i):=by
 unfold pF;rw [Zr,h];rfl
theorem Qzi {l:List aA} (T:Tr l) {x y:Int} (hx:vI l x) (h:pW l x=pW l y):x=y:=by
 obtain ⟨a,a1,a2⟩:=Cb T hx
 by_cases hy:vI l y
 .obtain ⟨b,b1,b2⟩:=Cb T hy
  have:a=b:=by omega
  subst this
  rw [a1] at b1;injection b1
 .have:pW l y=-1:=Qlk fun hm=>hy ((jK T).1 hm)
  omega
theorem Mf {l:List aA} (T:Tr l) {i:Int} (hi:vI l i) {j:Nat} (hj:j < (aG l).length) (h:pF l j=pW l i):∃ x,(aG l)[j]? = some x/\x∈cj l i:=by
 have hg:=Z6 hj
 refine ⟨_,hg,?_⟩
 rw [Me hg] at h
 have:=Qzi T hi h.symm
 exact (Bv T hi).2 ⟨(jK T).1 (List.getElem_mem hj),this.symm⟩
theorem VJ {l:List aA} (T:Tr l) {i x:Int} (hi:vI l i) (hx:x∈cj l i):∃ m:Nat,(aG l)[m]? = some x/\pW l x=(m:Int)/\m < (aG l).length/\pF l m=pW l i/\bQ l x=i:=by
 obtain ⟨v1,v2,_⟩:=qR T hi hx
 obtain ⟨m,m1,m2⟩:=Cb T v1
 exact ⟨m,m1,m2,(Z0 m1).1,by rw [Me m1,v2],v2⟩
theorem Qsr {l:List aA} (T:Tr l) {i:Int} (hi:vI l i):kP (pF l) (aG l).length (pW l i)=pW l (wq l i):=by
 unfold wq
 cases hk:cj l i with
 | nil =>
  rw [List.headD_nil,vk T (show (-1:Int) < 0 by omega)]
  rcases VH (pF l) (pW l i) (aG l).length with ⟨h1,_⟩ | ⟨r,h1,h2,h3,_⟩
  .exact h1
  .obtain ⟨x,_,hx⟩:=Mf T hi h2 h3
   rw [hk] at hx;simp at hx
 | cons k r0 =>
  rw [List.headD_cons]
  obtain ⟨m,m1,m2,m3,m4,m5⟩:=VJ T hi (show k∈cj l i by rw [hk];simp)
  rw [m2]
  have hs:=L5 (l:=l) (i:=i)
  rw [hk,List.pairwise_cons] at hs
  rcases VH (pF l) (pW l i) (aG l).length with ⟨_,h2⟩ | ⟨r,h1,h2,h3,h4⟩
  .exact absurd m4 (h2 m m3)
  .rw [h1]
   rcases Nat.lt_trichotomy r m with g | g | g
   .obtain ⟨x,x1,x2⟩:=Mf T hi h2 h3
    have:=Md T x1 m1 g (by rw [m5];exact ((Bv T hi).1 x2).2)
    rw [hk] at x2
    rcases Z2 x2 with e | e
    .omega
    .have:=hs.1 x e;omega
   .rw [g]
   .exact absurd m4 (h4 m g)
theorem Qwq {l:List aA} (T:Tr l) {i:Int} (hi:vI l i):jP (pF l) (aG l).length (pW l i)=pW l ((cj l i).getLastD (-1)):=by
 rcases List.eq_nil_or_concat (cj l i) with hk | ⟨K,c,hk⟩
 .rw [hk,List.getLastD_nil,vk T (show (-1:Int) < 0 by omega)]
  rcases CO (pF l) (pW l i) (aG l).length with ⟨h1,_⟩ | ⟨r,h1,h2,h3,_⟩
  .exact h1
  .obtain ⟨x,_,hx⟩:=Mf T hi h2 h3
   rw [hk] at hx;simp at hx
 .rw [List.concat_eq_append] at hk
  rw [hk,List.getLastD_concat]
  obtain ⟨m,m1,m2,m3,m4,m5⟩:=VJ T hi (show c∈cj l i by rw [hk];simp)
  rw [m2]
  have hs:=L5 (l:=l) (i:=i)
  rw [hk,List.pairwise_append] at hs
  rcases CO (pF l) (pW l i) (aG l).length with ⟨_,h2⟩ | ⟨r,h1,h2,h3,h4⟩
  .exact absurd m4 (h2 m m3)
  .rw [h1]
   rcases Nat.lt_trichotomy r m with g | g | g
   .exact absurd m4 (h4 m g m3)
   .rw [g]
   .obtain ⟨x,x1,x2⟩:=Mf T hi h2 h3
    have:=Md T m1 x1 g (by rw [m5];exact ((Bv T hi).1 x2).2.symm)
    rw [hk] at x2
    rcases List.mem_append.1 x2 with e | e
    .have:=hs.2.2 x e c (by simp);omega
    .simp at e;omega
theorem Qwr {l:List aA} (T:Tr l) {k:Nat} {i:Int} (hk:(aG l)[k]? = some i):jQ (pF l) (aG l).length (k:Int)=pW l (vl l i):=by
 have hi:vI l i:=(jK T).1 (Zc hk)
 have hp:pF l k=pW l (bQ l i):=Me hk
 unfold vl
 by_cases h0:bQ l i < 0
 .rw [if_pos h0,vk T (show (-1:Int) < 0 by omega)]
  exact Quv _ k (by rw [hp,vk T h0];omega) _
 .rw [if_neg h0]
  have hv:=Hq (l:=l) (i:=i) (by omega)
  obtain ⟨K1,K2,e⟩:=List.append_of_mem ((Bv T hv).2 ⟨hi,rfl⟩)
  have eO:wo (cj l (bQ l i)) i=(K1.length:Int):=sI Qln (by rw [e];simp)
  obtain ⟨a,_,a2⟩:=Cb T hv
  have hs:=L5 (l:=l) (i:=bQ l i)
  rw [e,List.pairwise_append,List.pairwise_cons] at hs
  obtain ⟨s1,⟨s2,s3⟩,s4⟩:=hs
  have kid:∀ j,k < j->j < (aG l).length->pF l j=pF l k->∃ x,(aG l)[j]? = some x/\i < x/\x∈K2/\bQ l x=bQ l i:=by
   intro j h1 h2 h3
   rw [hp] at h3
   obtain ⟨x,x1,x2⟩:=Mf T hv h2 h3
   have hpx:=((Bv T hv).1 x2).2
   have au:=Md T hk x1 h1 hpx.symm
   refine ⟨x,x1,au,?_,hpx⟩
   rw [e] at x2
   rcases List.mem_append.1 x2 with g | g
   .have:=s4 x g i (by simp);omega
   .rcases Z2 g with g | g
    .omega
    .exact g
  rw [eO,Q3,Zr]
  have ah:(cj l (bQ l i))[K1.length+1]? = K2[0]?:=by rw [e,Zq (by omega)];simp
  rw [ah]
  cases K2 with
  | nil =>
   rw [show (([]:List Int)[0]?).getD (-1)=-1 from rfl,vk T (show (-1:Int) < 0 by omega)]
   rcases VI (pF l) k (by omega) (aG l).length with ⟨h1,_⟩ | ⟨r,h1,h2,h3,h4,_⟩
   .exact h1
   .obtain ⟨x,_,_,x3,_⟩:=kid r h2 h3 h4
    simp at x3
  | cons y K3 =>
   rw [show ((y::K3)[0]?).getD (-1)=y from rfl]
   obtain ⟨m,m1,m2,m3,m4,m5⟩:=VJ T hv (show y∈cj l (bQ l i) by rw [e];simp)
   have hiy:i < y:=s2 y (by simp)
   have Bg:k < m:=by
    rcases Nat.lt_trichotomy k m with g | g | g
    .exact g
    .subst g;rw [hk] at m1;injection m1 with m1;omega
    .have:=Md T m1 hk g m5;omega
   rw [m2]
   rw [List.pairwise_cons] at s3
   rcases VI (pF l) k (by omega) (aG l).length with ⟨_,h2⟩ | ⟨r,h1,h2,h3,h4,h5⟩
   .exact absurd (by rw [m4,hp]) (h2 m Bg m3)
   .rw [h1]
    rcases Nat.lt_trichotomy r m with g | g | g
    .obtain ⟨x,x1,x2,x3,x4⟩:=kid r h2 h3 h4
     have:=Md T x1 m1 g (by rw [x4,m5])
     rcases Z2 x3 with q | q
     .omega
     .have:=s3.1 x q;omega
    .rw [g]
    .exact absurd (by rw [m4,hp]) (h5 m Bg g)
theorem Qzj {l:List aA} (T:Tr l) {k:Nat} {i:Int} (hk:(aG l)[k]? = some i):(cj l i=[]/\nX l k i=(k:Int)+1)\/∃ (m:Nat) (c:Int),(aG l)[m]? = some c/\pW l ((cj l i).getLastD (-1))=(m:Int)/\k < m/\nX l k i=nX l m c:=by
 have hi:vI l i:=(jK T).1 (Zc hk)
 have VK:pW l i=(k:Int):=sI (rP T) hk
 rcases List.eq_nil_or_concat (cj l i) with hn | ⟨K,c,hn⟩
 .refine .inl ⟨hn,?_⟩
  unfold nX
  rw [Jy T hi,hn];simp
 .right
  rw [List.concat_eq_append] at hn
  obtain ⟨A,B,e⟩:=Vt T (gd l i) i (Zd _) hi
  have hc:=(qR T hi (show c∈cj l i by rw [hn];simp)).1
  have es:iS l i=i::(K.flatMap (iS l)++iS l c):=by rw [Jy T hi,hn];simp
  have ec:iS l c=c::(cj l c).flatMap (iS l):=Jy T hc
  have hA:(aG l)[A.length]? = some i:=by rw [e,es];simp
  have hAk:A.length=k:=by have:=sI (rP T) hA;unfold pW at VK;omega
  have e2:aG l=(A++i::K.flatMap (iS l))++(iS l c++B):=by rw [e,es];simp
  have hm:(aG l)[(A++i::K.flatMap (iS l)).length]? = some c:=by
   rw [e2,Zq (Zd _),Nat.sub_self,ec];rfl
  refine ⟨(A++i::K.flatMap (iS l)).length,c,hm,?_,by simp;omega,?_⟩
  .rw [hn,List.getLastD_concat];exact sI (rP T) hm
  .unfold nX
   rw [es]
   simp only [Z9,Zf]
   omega
def tb (n:Nat) (g:Int->Int):List Int:=(List.range n).map fun (q:Nat)=>g (q:Int)
theorem EB {n:Nat} {g:Int->Int}:(tb n g).length=n:=by simp [tb]
theorem CP {n:Nat} {g:Int->Int} {q:Nat} (h:q < n):(tb n g)[q]? = some (g (q:Int)):=by simp [tb,h]
theorem EC {n:Nat} {g h:Int->Int} (e:∀ q:Nat,q < n->g (q:Int)=h (q:Int)):tb n g=tb n h:=by
 unfold tb
 exact List.map_congr_left fun q hq=>e q (List.mem_range.1 hq)
theorem VL {n:Nat} {g:Int->Int} {q:Nat} {v:Int} (h:q < n):(tb n g).set q v=tb n fun x=>if x=(q:Int) then v else g x:=by
 apply List.ext_getElem?
 intro j
 rcases Nat.lt_or_ge j n with hj | hj
 .rw [CP hj]
  by_cases hq:j=q
  .subst hq;rw [List.getElem?_set_self (by rw [EB];exact hj),if_pos rfl]
  .rw [List.getElem?_set_ne (by omega),CP hj,if_neg (by omega)]
 .rw [List.getElem?_eq_none (by rw [List.length_set,EB];exact hj),List.getElem?_eq_none (by rw [EB];exact hj)]
theorem VM {n:Nat} {v:Int}:List.replicate n v=tb n fun _=>v:=by
 apply List.ext_getElem?
 intro j
 rcases Nat.lt_or_ge j n with hj | hj
 .rw [CP hj,List.getElem?_replicate,if_pos hj]
 .rw [List.getElem?_eq_none (by simp;exact hj),List.getElem?_eq_none (by rw [EB];exact hj)]
theorem Quw {W:List Int} {g e:Int->Int} (h:∀ (k:Nat) i,W[k]? = some i->g (k:Int)=e i):tb W.length g=W.map e:=by
 apply List.ext_getElem?
 intro j
 rcases Nat.lt_or_ge j W.length with hj | hj
 .rw [CP hj,List.getElem?_map,Z6 hj,h j _ (Z6 hj)];rfl
 .rw [List.getElem?_eq_none (by rw [EB];exact hj),List.getElem?_eq_none (by simp;exact hj)]
theorem VN {a v b:Int}:∀ {es:List (Int×Int)},eD (gW es a v) b=if b=a then some v else eD es b
 | []=>by
  by_cases h:b=a
  .rw [if_pos h];simp [gW,eD,h]
  .rw [if_neg h];simp only [gW,eD];rw [show (b==a)=false by simp [h]]
 | (x,u)::r=>by
  simp only [gW]
  by_cases hx:a=x
  .rw [show (a==x)=true by simp [hx]]
   simp only [eD]
   by_cases h:b=a
   .rw [if_pos h,show (b==x)=true by simp [h,hx]]
   .rw [if_neg h,show (b==x)=false by rw [<- hx];simp [h]]
  .rw [show (a==x)=false by simp [hx]]
   simp only [eD]
   by_cases h:b=x
   .rw [show (b==x)=true by simp [h]]
    simp only []
    rw [if_neg (fun e=>hx (by rw [<- e,h]))]
   .rw [show (b==x)=false by simp [h]]
    simp only []
    exact VN
def JC (l:List aA) (L:List Int) (k:Nat) (es:List (Int×Int)):List (Int×Int):=cF (fun i k es=>gW es (aV l i).1 ((k:Nat):Int)) L k es
theorem VO {l:List aA} {id:Int}:∀ (L:List Int) (k:Nat) (es:List (Int×Int)),(∀ y∈L,(aV l y).1≠id)->eD (JC l L k es) id=eD es id
 | [],k,es,_=>rfl
 | x::r,k,es,h=>by
  show eD (JC l r (k+1) (gW es (aV l x).1 (k:Int))) id=_
  rw [VO r (k+1) _ (fun y hy=>h y (by simp [hy])),VN,if_neg (fun e=>h x (by simp) e.symm)]
theorem Qzk {l:List aA}:∀ (L:List Int) (k:Nat) (es:List (Int×Int)) (j:Nat) (x:Int),L[j]? = some x->(∀ y∈L.drop (j+1),(aV l y).1≠(aV l x).1)->eD (JC l L k es) (aV l x).1=some ((k+j:Nat):Int)
 | [],k,es,j,x,h,_=>by simp at h
 | y::r,k,es,0,x,h,hn=>by
  simp only [List.getElem?_cons_zero,Option.some.injEq] at h
  subst h
  show eD (JC l r (k+1) (gW es (aV l y).1 (k:Int))) _=_
  rw [VO r (k+1) _ (by simpa using hn),VN,if_pos rfl,Nat.add_zero]
 | y::r,k,es,j+1,x,h,hn=>by
  show eD (JC l r (k+1) (gW es (aV l y).1 (k:Int))) _=_
  rw [Qzk r (k+1) _ j x (by simpa using h) (by simpa using hn)]
  congr 2;omega
def Bw (l:List aA):List (Int×Int):=JC l (aG l) 0 []
theorem Pw {l:List aA} (T:Tr l) {id:Int}:eD (Bw l) id=if 0<=bP l id then some (pW l (bP l id)) else none:=by
 unfold Bw
 by_cases h:0<=bP l id
 .rw [if_pos h]
  have hv:vI l (bP l id):=⟨h,Bl⟩
  obtain ⟨k,x,h1,h2,h3⟩:=w6 h
  obtain ⟨j,j1,j2⟩:=Cb T hv
  have e:(aV l (bP l id)).1=id:=by rw [h1,jL h2,h3]
  have:=Qzk (l:=l) (aG l) 0 [] j _ j1 (fun y hy=>by
   intro e2
   have hyW:=List.mem_of_mem_drop hy
   have:=T.inj _ _ ((jK T).1 hyW) hv e2
   subst this
   obtain ⟨q,hq⟩:=List.getElem?_of_mem hy
   rw [Zp] at hq
   have h1:=sI (rP T) hq
   have h2:=sI (rP T) j1
   omega)
  rw [e] at this
  rw [this,j2,Zo]
 .rw [if_neg h]
  rw [VO (aG l) 0 [] (fun y hy=>Vj.1 (by omega) _ (Zc (fu ((jK T).1 hy))))]
  rfl
theorem VP {α τ β:Type} {f:α->Nat->τ->τ} {step:α->Nat->τ->(τ->Option β)->Option β} {fin:τ->Option β} (I:Nat->τ->Prop):∀ (l:List α) (i:Nat) (t:τ),I i t->(∀ j x t k,l[j]? = some x->I (i+j) t->step x (i+j) t k=k (f x (i+j) t)/\I (i+j+1) (f x (i+j) t))->eg step fin l i t=fin (cF f l i t)
 | [],i,t,_,_=>rfl
 | x::r,i,t,hI,h=>by
  simp only [eg,cF]
  obtain ⟨h1,h2⟩:=h 0 x t (fun t'=>eg step fin r (i+1) t') rfl hI
  rw [Nat.add_zero] at h1 h2
  rw [h1]
  exact VP I r (i+1) _ h2 (fun j y t k hy ht=>by
   have:=h (j+1) y t k (by simpa using hy)
   rw [show i+(j+1)=i+1+j by omega] at this
   exact this ht)
theorem Qdg {α σ τ:Type} {f:α->Nat->σ->σ} {g:α->Nat->τ->τ}:∀ (l:List α) (i:Nat) (a:σ) (b:τ),cF (fun x k (t:σ×τ)=>(f x k t.1,g x k t.2)) l i (a,b)=(cF f l i a,cF g l i b)
 | [],_,_,_=>rfl
 | x::r,i,a,b=>by simp only [cF];exact Qdg r (i+1) _ _
theorem Qhf {α γ:Type} {e:α->γ}:∀ (l:List α) (i:Nat) (a:List γ),cF (fun x _ t=>t++[e x]) l i a=a++l.map e
 | [],_,a=>by simp [cF]
 | x::r,i,a=>by simp only [cF];rw [Qhf r (i+1)];simp
def jR (p:Nat->Int) (n k:Nat):List Int:=(List.range k).map p++List.replicate (n - k) 0
theorem Qwt {p:Nat->Int} {n k:Nat} (h:k<=n):(jR p n k).length=n:=by simp [jR];omega
theorem Qpn {p:Nat->Int} {n k:Nat} (h:k < n):(jR p n k).set k (p k)=jR p n (k+1):=by
 unfold jR
 rw [show n - k=(n - (k+1))+1 by omega,List.replicate_succ,List.set_append_right _ _ (by simp),List.length_map,List.length_range,Nat.sub_self,List.set_cons_zero,List.range_succ]
 simp
theorem Qux {d:Nat} {l:List aA} (T:Tr l) {kx:List Int->List Int->List Int->List Int->Option Ld}:∀ (m k fuel:Nat),k+m=(aG l).length->m < fuel ->
  Q8 (ia d (Bw l) ((aG l).map (aV l)) kx) fuel ((k:Int),tb (aG l).length (kP (pF l) k),tb (aG l).length (jQ (pF l) k),jR (pF l) (aG l).length k,tb (aG l).length (jP (pF l) k))=kx (tb (aG l).length (jP (pF l) (aG l).length)) (tb (aG l).length (kP (pF l) (aG l).length)) (tb (aG l).length (jQ (pF l) (aG l).length)) (jR (pF l) (aG l).length (aG l).length)
 | m,k,0,_,h=>by omega
 | 0,k,fuel+1,hk,_=>by
  rw [Nat.add_zero] at hk
  subst hk
  simp only [Q8,ia,List.length_map]
  rw [bB,Q5]
 | m+1,k,fuel+1,hk,hf=>by
  have ng:k < (aG l).length:=by omega
  have hW:=Hu T
  have iz:=T.ef
  have hg:=Z6 ng
  have hi:=(jK T).1 (Zc hg)
  have next:=Qux (d:=d) T (kx:=kx) m (k+1) fuel (by omega) (by omega)
  have hp:=Me hg
  simp only [Q8,ia,List.length_map]
  rw [Z5 (show (k:Int) < (((aG l).length:Nat):Int) by omega),Q4,nn,Q4,Q3,Qk ng,Q4,List.getElem?_map,hg,Option.map_some,Q9,Pw T]
  rw [show bP l (aV l (aG l)[k]).2.1=bQ l (aG l)[k] from rfl]
  have iO:(jR (pF l) (aG l).length k).length=(aG l).length:=Qwt (by omega)
  have hpg:(jR (pF l) (aG l).length k)[k]? = some ((jR (pF l) (aG l).length k)[k]'(by omega)):=Z6 (by omega)
  by_cases h0:0<=bQ l (aG l)[k]
  .rw [if_pos h0]
   have hv:=Hq h0
   obtain ⟨a,a1,a2⟩:=Cb T hv
   have ha:=(Z0 a1).1
   rw [a2] at hp
   rw [a2]
   simp only [Option.isSome_some,Zl,Q5,Option.getD_some,nn,Q4,Q3,EB]
   rw [iO,Qk ng,Q4,hpg,Q9,Qk ha,Q4,CP ha,Q9]
   have e3:(jR (pF l) (aG l).length k).set k (a:Int)=jR (pF l) (aG l).length (k+1):=by rw [<- hp];exact Qpn ng
   have e4:(tb (aG l).length (jP (pF l) k)).set a (k:Int)=tb (aG l).length (jP (pF l) (k+1)):=by
    rw [VL ha]
    refine EC fun q hq=>?_
    simp only [jP]
    rw [hp]
    by_cases h:(q:Int)=(a:Int)
    .rw [if_pos h,if_pos h.symm]
    .rw [if_neg h,if_neg (fun e=>h e.symm)]
   have tail:∀ (b:Bool) (X Y:List Int),mw d (Bw l) (Q8 (ia d (Bw l) ((aG l).map (aV l)) kx) fuel) (k:Int) (jR (pF l) (aG l).length k) (tb (aG l).length (jP (pF l) k)) (aV l (aG l)[k]) b X Y=Q8 (ia d (Bw l) ((aG l).map (aV l)) kx) fuel (((k+1:Nat):Int),X,Y,jR (pF l) (aG l).length (k+1),tb (aG l).length (jP (pF l) (k+1))):=by
    intro b X Y
    unfold mw
    rw [Pw T,show bP l (aV l (aG l)[k]).2.1=bQ l (aG l)[k] from rfl,if_pos h0,a2]
    simp only [Option.getD_some,nn,Q4,Q3,EB]
    rw [Qk ha,Q4,CP ha,Q9,aN (by omega),e3,e4]
   rcases CO (pF l) (a:Int) k with ⟨g1,g2⟩ | ⟨r,g1,g2,g3,g4⟩
   .rw [g1,Z5 (show (-1:Int) < 0 by omega),Q4,CP ha,Q9,tail]
    rw [show (tb (aG l).length (kP (pF l) k)).set a (k:Int)=tb (aG l).length (kP (pF l) (k+1)) by
     rw [VL ha]
     refine EC fun q hq=>?_
     simp only [kP]
     rw [hp]
     by_cases h:(q:Int)=(a:Int)
     .rw [if_pos h,h,if_pos ⟨rfl,by omega⟩]
     .rw [if_neg h,if_neg (fun e=>h e.1.symm)]]
    rw [show tb (aG l).length (jQ (pF l) k)=tb (aG l).length (jQ (pF l) (k+1)) by
     refine EC fun q hq=>?_
     simp only [jQ]
     rw [hp,g1,if_neg (by omega)]]
    exact next
   .have VQ:r < (aG l).length:=by omega
    rw [g1,Z4 (show ¬ (r:Int) < 0 by omega),Q5,Q4,Q9,nn,Q4,Q3,Qk VQ,Q4,CP VQ,Q9,tail]
    rw [show (tb (aG l).length (jQ (pF l) k)).set r (k:Int)=tb (aG l).length (jQ (pF l) (k+1)) by
     rw [VL VQ]
     refine EC fun q hq=>?_
     simp only [jQ]
     rw [hp,g1]
     by_cases h:(q:Int)=(r:Int)
     .rw [if_pos h,if_pos ⟨by omega,h.symm⟩]
     .rw [if_neg h,if_neg (fun e=>h e.2.symm)]]
    rw [show tb (aG l).length (kP (pF l) k)=tb (aG l).length (kP (pF l) (k+1)) by
     refine EC fun q hq=>?_
     simp only [kP]
     rw [hp,if_neg]
     rintro ⟨e1,e2⟩
     rw [<- e1,g1] at e2;omega]
    exact next
  .rw [if_neg h0]
   have Px:pF l k=-1:=by rw [hp];exact vk T (by omega)
   have e3:(jR (pF l) (aG l).length k).set k (-1)=jR (pF l) (aG l).length (k+1):=by rw [<- Px];exact Qpn ng
   simp only [Option.isSome_none,Bool.not_false,Q4]
   rw [iO,Qk ng,Q4,hpg,Q9,aN (by omega),e3]
   rw [show tb (aG l).length (kP (pF l) k)=tb (aG l).length (kP (pF l) (k+1)) by
    refine EC fun q hq=>?_
    simp only [kP]
    rw [Px,if_neg (by omega)]]
   rw [show tb (aG l).length (jQ (pF l) k)=tb (aG l).length (jQ (pF l) (k+1)) by
    refine EC fun q hq=>?_
    simp only [jQ]
    rw [Px,if_neg (by omega)]]
   rw [show tb (aG l).length (jP (pF l) k)=tb (aG l).length (jP (pF l) (k+1)) by
    refine EC fun q hq=>?_
    simp only [jP]
    rw [Px,if_neg (by omega)]]
   exact next
def ke (l:List aA):List Int:=(aG l).mapIdx (nX l)
theorem Py {l:List aA}:(ke l).length=(aG l).length:=by simp [ke]
theorem Qpo {l:List aA} {k:Nat} {i:Int} (h:(aG l)[k]? = some i):(ke l)[k]? = some (nX l k i):=by simp [ke,h]
theorem Quy {d:Nat} {l:List aA} (T:Tr l) {kx:List Int->Option Ld}:∀ (m fuel:Nat),m<=(aG l).length->m < fuel ->
  Q8 (mo d (tb (aG l).length (jP (pF l) (aG l).length)) kx) fuel ((m:Int) - 1,List.replicate m 0++(ke l).drop m)=kx (ke l)
 | m,0,_,h=>by omega
 | 0,fuel+1,_,_=>by
  simp only [Q8,mo]
  rw [Z4 (by omega),Q5];rfl
 | k+1,fuel+1,hk,hf=>by
  have ng:k < (aG l).length:=by omega
  have hW:=Hu T
  have iz:=T.ef
  have hg:=Z6 ng
  have hi:=(jK T).1 (Zc hg)
  have VK:pW l (aG l)[k]=(k:Int):=sI (rP T) hg
  have next:=Quy (d:=d) T (kx:=kx) k fuel (by omega) (by omega)
  have hlen:(List.replicate (k+1) (0:Int)++(ke l).drop (k+1)).length=(aG l).length:=by simp [Py];omega
  have jx:=Qwq T hi
  rw [VK] at jx
  have qS:∀ u v:Int,((List.replicate (k+1) (0:Int)++(ke l).drop (k+1)).set k u).set k v=List.replicate k 0++v::(ke l).drop (k+1):=by
   intro u v
   rw [List.set_set,List.set_append_left _ _ (by simp),List.replicate_succ',List.set_append_right _ _ (by simp)]
   simp
  have nE:∀ v:Int,(List.replicate (k+1) (0:Int)++(ke l).drop (k+1)).set k v=List.replicate k 0++v::(ke l).drop (k+1):=by
   intro v
   rw [List.set_append_left _ _ (by simp),List.replicate_succ',List.set_append_right _ _ (by simp)]
   simp
  have ED:nX l k (aG l)[k]::(ke l).drop (k+1)=(ke l).drop k:=by
   have Ak:k < (ke l).length:=by rw [Py];exact ng
   rw [List.drop_eq_getElem_cons Ak]
   have:=Qpo hg
   rw [Z6 Ak] at this
   injection this with this
   rw [this]
  simp only [Q8,mo,EB]
  rw [show (((k+1:Nat):Int) - 1)=(k:Int) by omega,Z5 (show (k:Int)>=0 by omega)]
  simp only [nn,Q4,Q3]
  rw [hlen,Qk ng,Q4,Z6 (show k < (List.replicate (k+1) (0:Int)++(ke l).drop (k+1)).length by omega),Q9,Q4,CP ng,Q9,jx,aN (by omega),wr (n:=(k:Int) - 1) (by omega) (by omega)]
  rcases Qzj T hg with ⟨e1,e2⟩ | ⟨m,c,e1,e2,e3,e4⟩
  .rw [e1,List.getLastD_nil,vk T (show (-1:Int) < 0 by omega),Z4 (show ¬ (-1:Int)>=0 by omega),Q5,nE,show ((k+1:Nat):Int)=nX l k (aG l)[k] by rw [e2];omega,ED]
   exact next
  .have hm:=(Z0 e1).1
   rw [e2,Z5 (show (m:Int)>=0 by omega),Q4,Q9]
   simp only [nn,Q4,Q3,List.length_set]
   rw [hlen,Qk hm,Q4,nE]
   have hgm:(List.replicate k (0:Int)++((k+1:Nat):Int)::(ke l).drop (k+1))[m]? = some (nX l m c):=by
    rw [Zq (by simp;omega),List.length_replicate,show m - k=(m - (k+1))+1 by omega,List.getElem?_cons_succ,Zp,show k+1+(m - (k+1))=m by omega]
    exact Qpo e1
   rw [hgm,Q9]
   have gr:(List.replicate k (0:Int)++((k+1:Nat):Int)::(ke l).drop (k+1)).length=(aG l).length:=by simp [Py];omega
   rw [Z6 (show k < (List.replicate k (0:Int)++((k+1:Nat):Int)::(ke l).drop (k+1)).length by omega),Qk ng,Q4,Q9]
   have e5:(List.replicate k (0:Int)++((k+1:Nat):Int)::(ke l).drop (k+1)).set k (nX l m c)=List.replicate k 0++(ke l).drop k:=by
    rw [List.set_append_right _ _ (by simp),List.length_replicate,Nat.sub_self,List.set_cons_zero,<- e4,ED]
   rw [e5]
   exact next
theorem Qwu {d:Nat} {c:Cf} (hl:c.2.1.length<=1000):GS (d+3) c=some (jO c.2.1):=by
 rw [UL]
 refine (Qd (fun (t:Int) (i:Int)=>(t,i)) c.2.1 (fun x i t k=>aa (x.2.1==0) (some ((i:Nat):Int)) (k t)) (fun _=>some (-1)) ?_ ?_ (by rw [Q6];omega) 0).trans (Eu c.2.1 0 _)
 .intro ag t i x hx;have hi:=(Z0 hx).1;simp only [ga,bX hx,nn,Q3,hx,Q9,Q4];rw [aN (by omega)]
 .intro ag t;simp only [ga,bB,Q5];rfl
theorem Qlr {c:Cf} (G:Gd c) {id:Int} (h:vI c.2.1 (bP c.2.1 id)):1<=id/\id<=999:=by
 obtain ⟨k,x,h1,h2,h3⟩:=w6 h.1
 have hc:=G.cl
 unfold kD rQ at hc
 simp only [Z8,Zj,o_] at hc
 have:=hc.2.1 k x h2
 unfold Ah at this
 simp only [Z8,Zj] at this
 omega
theorem Qwv {c:Cf} (G:Gd c):c.1.size<=8:=by
 have:=G.nm
 unfold Bu at this
 simp only [Z8,Zj] at this
 exact this.1.2
theorem Qzl {d:Nat} {c:Cf} (G:Gd c):Q8 (mh d c (Bw c.2.1) (qA d c (Bw c.2.1))) Qc (0,nY c (aG c.2.1) c.2.2.1 [] (-1))=some (bU c):=by
 have T:=G.tr
 have Ce:=G.f16
 refine (Qd (fun (t:List Int) (k:Int)=>(k,nY c (aG c.2.1) c.2.2.1 t (-1))) c.2.2.1 (fun f _ t k=>aa (Nat.ble ((t.length+[pW c.2.1 (bP c.2.1 f.2.2.2.2)].length)*8) Q7) (k (t++[pW c.2.1 (bP c.2.1 f.2.2.2.2)])) none) (fun t=>some (nY c (aG c.2.1) c.2.2.1 t (vX c))) ?_ ?_ (by rw [Q6];omega) []).trans ?_
 .intro ag t k f hx
  have hk:=(Z0 hx).1
  obtain ⟨v1,_⟩:=G.L9 f (Zc hx)
  simp only [mh,bX hx,nn,Q3,hx,Q9,Q4]
  rw [Pw T,if_pos v1.1,aN (by omega)]
  rfl
 .intro ag t
  simp only [mh,bB,Q5]
  unfold qA vX
  by_cases h:c.2.2.2=0
  .rw [show (c.2.2.2 != 0)=false by simp [h],Q5,if_pos h]
  .obtain ⟨v1,_⟩:=G.K4 h
   rw [show (c.2.2.2 != 0)=true by simp [h],Q4,Pw T,if_pos v1.1,if_neg h]
   rfl
 .rw [Vy (e:=fun f:dJ=>pW c.2.1 (bP c.2.1 f.2.2.2.2)) (w:=8) c.2.2.1 0 [] (by simp;omega)]
  rfl
theorem Qss {d:Nat} {c:Cf} (G:Gd c):jq (d+3) c c.1 (-1) (Bw c.2.1) ((aG c.2.1).map (aV c.2.1)) [] [] [] [] c.2.2.1 []=some (bU c):=by
 have T:=G.tr
 have iz:=T.ef
 have hW:=Hu T
 unfold jq
 rw [List.length_map,show d+3+1=(d+1)+3 by omega,Qpi (by omega),Q9,Q9]
 simp only [nn,Q4,Q3]
 rw [show (Nat.ble (aG c.2.1).length (aG c.2.1).length&&Nat.ble ((aG c.2.1).length*8) Q7)=true by rw [Z8,Nat.ble_eq,Nat.ble_eq];unfold Q7;omega,Q4,Q4,Q9]
 have e0:(List.replicate (aG c.2.1).length (-1:Int))=tb (aG c.2.1).length (kP (pF c.2.1) 0):=VM
 have e1:(List.replicate (aG c.2.1).length (-1:Int))=tb (aG c.2.1).length (jQ (pF c.2.1) 0):=VM
 have e2:(List.replicate (aG c.2.1).length (-1:Int))=tb (aG c.2.1).length (jP (pF c.2.1) 0):=VM
 have e3:(List.replicate (aG c.2.1).length (0:Int))=jR (pF c.2.1) (aG c.2.1).length 0:=by simp [jR]
 have st:((0:Int),List.replicate (aG c.2.1).length (-1:Int),List.replicate (aG c.2.1).length (-1:Int),List.replicate (aG c.2.1).length (0:Int),List.replicate (aG c.2.1).length (-1:Int))=(((0:Nat):Int),tb (aG c.2.1).length (kP (pF c.2.1) 0),tb (aG c.2.1).length (jQ (pF c.2.1) 0),jR (pF c.2.1) (aG c.2.1).length 0,tb (aG c.2.1).length (jP (pF c.2.1) 0)):=by
  rw [<- e0,<- e1,<- e2,<- e3];rfl
 rw [st,Qux T (aG c.2.1).length 0 Qc (by omega) (by rw [Q6];omega)]
 unfold zM
 rw [List.length_map,Q3,wr (by omega) (by omega)]
 have:=Quy (d:=d+3) T (kx:=qB (d+3) c c.1 (-1) (Bw c.2.1) ((aG c.2.1).map (aV c.2.1)) c.2.2.1 [] (tb (aG c.2.1).length (kP (pF c.2.1) (aG c.2.1).length)) (tb (aG c.2.1).length (jQ (pF c.2.1) (aG c.2.1).length)) (jR (pF c.2.1) (aG c.2.1).length (aG c.2.1).length)) (aG c.2.1).length Qc (Zd _) (by rw [Q6];omega)
 rw [show (ke c.2.1).drop (aG c.2.1).length=[] by rw [<- Py];exact List.drop_length,List.append_nil] at this
 rw [this]
 unfold qB
 have f1:tb (aG c.2.1).length (kP (pF c.2.1) (aG c.2.1).length)=(aG c.2.1).map (fun i=>pW c.2.1 (wq c.2.1 i)):=Quw fun k i hk=>by
  have hi:=(jK T).1 (Zc hk)
  rw [<- Qsr T hi,show pW c.2.1 i=(k:Int) from sI (rP T) hk]
 have f2:tb (aG c.2.1).length (jQ (pF c.2.1) (aG c.2.1).length)=(aG c.2.1).map (fun i=>pW c.2.1 (vl c.2.1 i)):=Quw fun k i hk=>Qwr T hk
 have f3:jR (pF c.2.1) (aG c.2.1).length (aG c.2.1).length=(aG c.2.1).map (fun i=>pW c.2.1 (bQ c.2.1 i)):=by
  unfold jR
  rw [Nat.sub_self,List.replicate_zero,List.append_nil]
  apply List.ext_getElem?
  intro j
  rcases Nat.lt_or_ge j (aG c.2.1).length with hj | hj
  .have hg:=Z6 hj
   rw [List.getElem?_map,List.getElem?_map,hg,List.getElem?_range hj]
   simp only [Option.map_some]
   rw [Me hg]
  .rw [List.getElem?_eq_none (by simp;exact hj),List.getElem?_eq_none (by simp;exact hj)]
 rw [f1,f2,f3]
 exact Qzl G
theorem Qzm {d:Nat} {c:Cf} (G:Gd c) {r:Pr} (hr:r.2.2.1=aG c.2.1):Q8 (mA (d+3) c r (jq (d+3) c)) Qc (0,(c.1,[],[],[],[],[],c.2.2.1,[],(-1)),([[([]:List (Int×Int))]]:List (List (List (Int×Int)))))=some (bU c):=by
 have T:=G.tr
 have iz:=T.ef
 have hW:=Hu T
 refine (Qd (fun (t:List aA×List (Int×Int)) (i:Int)=>(i,((c.1,t.1,[],[],[],[],c.2.2.1,[],(-1)):Ld),([[t.2]]:List (List (List (Int×Int)))))) (aG c.2.1) (fun i k t cont=>aa (Nat.ble ((t.1.length+[aV c.2.1 i].length)*64) Q7) (cont (t.1++[aV c.2.1 i],gW t.2 (aV c.2.1 i).1 ((k:Nat):Int))) none) (fun t=>jq (d+3) c c.1 (-1) t.2 t.1 [] [] [] [] c.2.2.1 []) ?_ ?_ (by rw [Q6];omega) ([],[])).trans ?_
 .intro ag t k i hx
  have hk:=(Z0 hx).1
  have hi:=(jK T).1 (Zc hx)
  simp only [mA,hr,bX hx,nn,Q3,hx,Q9,Q4,tG hx]
  rw [Z5 hi.1,Q4,fu hi,Q9,Q4,Q9,aN (by omega)]
  rfl
 .intro ag t
  simp only [mA,hr,bB,Q5]
  rfl
 .rw [VP (f:=fun (i:Int) k (t:List aA×List (Int×Int))=>(t.1++[aV c.2.1 i],gW t.2 (aV c.2.1 i).1 ((k:Nat):Int))) (fun k t=>t.1.length=k) (aG c.2.1) 0 ([],[]) rfl ?_]
  .rw [Qdg (f:=fun (i:Int) _ (t:List aA)=>t++[aV c.2.1 i]) (g:=fun (i:Int) k (t:List (Int×Int))=>gW t (aV c.2.1 i).1 ((k:Nat):Int)),Qhf,List.nil_append]
   exact Qss G
  .intro j x t k hx ht
   have hk:=(Z0 hx).1
   rw [Zo] at ht ⊢
   rw [room (by simp;omega),Q4]
   exact ⟨rfl,by simp;omega⟩
theorem ZR {d:Nat} {c:Cf} (G:Gd c):CD (d+14) c=some (bU c):=by
 have T:=G.tr
 have N:=VD G.cl
 have iz:=T.ef
 have Ce:=G.f16
 have hn8:=Qwv G
 have Hv:(Nat.ble c.2.1.length c.2.1.length&&Nat.ble (c.2.1.length*8) Q7)=true:=by rw [Z8,Nat.ble_eq,Nat.ble_eq];unfold Q7;omega
 obtain ⟨t1,t2,t3,t4⟩:=Hs T
 have hwk:=Vv T (f:=8) t1
 have tail:∀ s3:ByteArray,s3.size<=1000->Ok (eN (d+12) c c.2.2.1 s3) fun b=>b=bU c:=by
  intro s3 CQ
  unfold eN
  simp only [Q3]
  refine Ok.cat (by omega) (by (try simp only [Za,cg,Z9,Zb] at *);omega) ?_
  refine Ok.bind (JA (d:=d+10) (by omega) (by omega) (by (try simp only [Za,cg,Z9,Zb] at *);omega) (by simp)) fun r4 hr4=>?_
  obtain ⟨a1,a2,a3⟩:=hr4
  obtain ⟨rc,rl,ro,rf,rr⟩:=r4
  simp only at a1 a2 a3
  injection a3 with a3 a4
  injection a4 with a4 a5
  subst a1 a3 a4 a5
  rw [show d+12=(d+9)+3 by omega,Qwu (by omega),Q9,show d+9+3=d+4+8 by omega]
  refine Ok.bind (Quu T N 8 (jO rc.2.1) _ 1 t1 (by have:=Jx t1;omega) (by omega) (by omega) rfl (by simp;omega) (by simp) (by simp) (by simp only;rw [a2];simp;omega)) fun r6 hr6=>?_
  obtain ⟨b1,b2,b3,b4,b5⟩:=hr6
  simp only [List.nil_append] at b2
  have e0:dw rc.2.1 8 (jO rc.2.1)=aG rc.2.1:=rfl
  rw [e0] at b2 b5 hwk
  refine Pt (fun (t:Pr) (k:Int)=>(k,t)) rc.2.2.1 (fun k t=>t.1=rc/\t.2.2.1=aG rc.2.1/\t.2.1.length<=100+k) ?_ ?_ Qc 0 _ (by rw [Q6];omega) (by omega) ⟨b1,b2,by simp at a2 b5;omega⟩
  .rintro ag ⟨yc,yl,yo,yf,yr⟩ k f hx ⟨c1,c2,c3⟩ ez
   simp only at c1 c2 c3
   subst c1
   have hk:=(Z0 hx).1
   obtain ⟨v1,v2,v3⟩:=G.L9 f (Zc hx)
   obtain ⟨i1,i2⟩:=Qlr G v1
   simp only [gb,bX hx,nn,Q3,hx,Q9,Q4]
   rw [show d+4+8=(d+9)+3 by omega]
   refine Ok.bind (Qha v3 (by omega)) fun s hs=>?_
   rw [show d+9+3=(d+10)+2 by omega]
   refine Ok.bind (JA (by omega) (by omega) (by omega) (by simp only;omega)) fun r8 VR=>?_
   obtain ⟨a1,a2,a3⟩:=VR
   rw [aN (by omega)]
   refine ez r8 ⟨a1,?_,?_⟩
   .rw [a3];exact c2
   .simp only at a2;omega
  .rintro ag ⟨yc,yl,yo,yf,yr⟩ ⟨c1,c2,c3⟩
   simp only at c1 c2 c3
   subst c1
   simp only [gb,bB,Q5]
   unfold jr
   rw [show d+4+8=(d+10)+2 by omega]
   refine Ok.bind (JA (by omega) (by omega) (by decide) (by simp only;omega)) fun r8 VR=>?_
   obtain ⟨a1,a2,a3⟩:=VR
   have bn:r8.2.2.1=aG yc.2.1:=by rw [a3];exact c2
   rw [show d+10+2=(d+9)+3 by omega]
   exact ⟨_,Qzm G bn,rfl⟩
 refine Ok.val ?_
 rw [UR,SL (by omega),Q9]
 simp only [nn,Q4,Q3]
 rw [Hv,Q4,Q4]
 refine Ok.cat (by (try simp only [Za,cg,Z9,Zb] at *);omega) (by omega) ?_
 by_cases h:c.2.2.2=0
 .rw [show (c.2.2.2 != 0)=false by simp [h],Q5]
  exact tail _ (by (try simp only [Za,cg,Z9,Zb] at *);omega)
 .obtain ⟨v1,_⟩:=G.K4 h
  obtain ⟨i1,i2⟩:=Qlr G v1
  rw [show (c.2.2.2 != 0)=true by simp [h],Q4]
  refine Ok.bind (EA (d:=d+11) (by omega) (by omega)) fun r3 hr3=>?_
  refine Ok.cat (by (try simp only [Za,cg,Z9,Zb] at *);omega) (by omega) ?_
  refine Ok.cat (by (try simp only [Za,cg,Z9,Zb] at *);omega) (by (try simp only [Za,cg,Z9,Zb] at *);omega) ?_
  exact tail _ (by (try simp only [Za,cg,Z9,Zb] at *);omega)
def cJ {α:Type} (key:α->Int) (l:List α):Prop:=l.Pairwise fun x y=>key x<=key y
def Kf {α:Type} (key:α->Int) (k:Int) (l:List α):List α:=l.filter fun x=>decide (key x=k)
structure cS {α:Type} (key:α->Int) (l r:List α):Prop where
 tI:cJ key r
 fl:∀ k,Kf key k r=Kf key k l
 perm:r.Perm l
theorem n_ {α:Type} {key:α->Int} {k:Int} (a b:List α):Kf key k (a++b)=Kf key k a++Kf key k b:=List.filter_append ..
theorem VS {α:Type} {key:α->Int} {k:Int} (x:α) (b:List α):Kf key k (x::b)=Kf key k [x]++Kf key k b:=n_ [x] b
theorem Qzn {α:Type} {key:α->Int} {k:Int} {a:List α} (h:∀ x∈a,key x≠k):Kf key k a=[]:=by
 unfold Kf;rw [List.filter_eq_nil_iff];intro x hx;simpa using h x hx
theorem Pz {α:Type} {key:α->Int} {k:Int} {a:List α} {x:α}:x∈Kf key k a↔x∈a/\key x=k:=by
 unfold Kf;simp [List.mem_filter]
theorem VT {α:Type} {key:α->Int} {k:Int} {a b:List α} (h:∀ x∈b,∀ y∈a,key x < key y):Kf key k (b++a)=Kf key k (a++b):=by
 rw [n_,n_]
 by_cases hb:∃ x∈b,key x=k
 .obtain ⟨x,hx,hk⟩:=hb
  have:Kf key k a=[]:=Qzn fun y hy e=>by have:=h x hx y hy;omega
  rw [this];simp
 .have:Kf key k b=[]:=Qzn fun y hy e=>hb ⟨y,hy,e⟩
  rw [this];simp
theorem cS.self {α:Type} {key:α->Int} {l:List α} (h:cJ key l):cS key l l:=⟨h,fun _=>rfl,List.Perm.refl _⟩
theorem cS.trans {α:Type} {key:α->Int} {x y r:List α} (h:cS key y r) (hf:∀ k,Kf key k y=Kf key k x) (hp:y.Perm x):cS key x r :=
 ⟨h.tI,fun k=>(h.fl k).trans (hf k),h.perm.trans hp⟩
theorem cS.len {α:Type} {key:α->Int} {x r:List α} (h:cS key x r):r.length=x.length:=h.perm.length_eq
theorem cS.mem {α:Type} {key:α->Int} {x r:List α} (h:cS key x r) {z:α}:z∈r↔z∈x:=h.perm.mem_iff
theorem cS.cat {α:Type} {key:α->Int} {x1 x2 r1 r2:List α} (h1:cS key x1 r1) (h2:cS key x2 r2) (h:∀ a∈x1,∀ b∈x2,key a<=key b):cS key (x1++x2) (r1++r2):=by
 refine ⟨?_,fun k=>by rw [n_,n_,h1.fl,h2.fl],h1.perm.append h2.perm⟩
 unfold cJ
 rw [List.pairwise_append]
 exact ⟨h1.tI,h2.tI,fun a ha b hb=>h a (h1.mem.1 ha) b (h2.mem.1 hb)⟩
theorem cS.ins {α:Type} {key:α->Int} {x s1 s2:List α} {y:α} (h:cS key x (s1++s2)) (h1:∀ a∈s1,key a<=key y) (h2:∀ a∈s2,key y < key a):cS key (x++[y]) (s1++y::s2):=by
 have hs:=h.tI
 unfold cJ at hs
 rw [List.pairwise_append] at hs
 obtain ⟨q1,q2,q3⟩:=hs
 refine ⟨?_,fun k=>?_,?_⟩
 .unfold cJ
  rw [List.pairwise_append]
  refine ⟨q1,List.pairwise_cons.2 ⟨fun a ha=>Int.le_of_lt (h2 a ha),q2⟩,fun a ha b hb=>?_⟩
  rcases Z2 hb with rfl | hb
  .exact h1 a ha
  .exact q3 a ha b hb
 .have:=h.fl k
  rw [n_] at this
  rw [n_,VS,n_,<- this,List.append_assoc]
  congr 1
  have e:=VT (key:=key) (k:=k) (a:=s2) (b:=[y]) (fun a ha b hb=>by simp at ha;subst ha;exact h2 b hb)
  rw [n_,n_] at e;exact e
 .refine List.perm_middle.trans ?_
  exact ((List.Perm.cons y h.perm).trans (List.perm_append_singleton y x).symm)
theorem cJ.left {α:Type} {key:α->Int} {a b:List α} (h:cJ key (a++b)):cJ key a:=(List.pairwise_append.1 h).1
theorem cJ.right {α:Type} {key:α->Int} {a b:List α} (h:cJ key (a++b)):cJ key b:=(List.pairwise_append.1 h).2.1
theorem cJ.mJ {α:Type} {key:α->Int} {a b:List α} (h:cJ key (a++b)):∀ x∈a,∀ y∈b,key x<=key y:=(List.pairwise_append.1 h).2.2
theorem cJ.one {α:Type} {key:α->Int} (x:α):cJ key [x]:=List.pairwise_singleton ..
theorem cJ.get {α:Type} {key:α->Int} {l:List α} (h:cJ key l) {i j:Nat} {x y:α} (lg:i<=j) (hx:l[i]? = some x) (hy:l[j]? = some y):key x<=key y:=by
 rcases Nat.eq_or_lt_of_le lg with rfl | au
 .rw [hx] at hy;injection hy with hy;subst hy;exact Int.le_refl _
 .obtain ⟨hi,rfl⟩:=Z0 hx
  obtain ⟨hj,rfl⟩:=Z0 hy
  exact List.pairwise_iff_getElem.1 h i j hi hj au
theorem cJ.uniq {α:Type} {key:α->Int}:∀ {r q:List α},cJ key r->cJ key q->(∀ k,Kf key k r=Kf key k q)->r=q
 | [],[],_,_,_=>rfl
 | [],y::q,_,_,h=>by
  have:=h (key y)
  simp [Kf] at this
 | x::r,[],_,_,h=>by
  have:=h (key x)
  simp [Kf] at this
 | x::r,y::q,hr,hq,h=>by
  have dI:=List.pairwise_cons.1 hr
  have EE:=List.pairwise_cons.1 hq
  have e1:key x<=key y:=by
   have hy:y∈Kf key (key y) (x::r):=by rw [h];exact Pz.2 ⟨by simp,rfl⟩
   rcases Z2 (Pz.1 hy).1 with e | e
   .rw [e];exact Int.le_refl _
   .exact dI.1 y e
  have e2:key y<=key x:=by
   have hx:x∈Kf key (key x) (y::q):=by rw [<- h];exact Pz.2 ⟨by simp,rfl⟩
   rcases Z2 (Pz.1 hx).1 with e | e
   .rw [e];exact Int.le_refl _
   .exact EE.1 x e
  have e3:key x=key y:=by omega
  have h0:=h (key x)
  have hx:x=y:=by
   unfold Kf at h0
   rw [List.filter_cons_of_pos (by simp),List.filter_cons_of_pos (by simp [e3])] at h0
   injection h0
  subst hx
  congr 1
  refine cJ.uniq dI.2 EE.2 fun k=>?_
  have:=h k
  rw [VS,VS (b:=q)] at this
  exact List.append_cancel_left this
theorem cS.uniq {α:Type} {key:α->Int} {l r q:List α} (h:cS key l r) (g:cS key l q):r=q :=
 h.tI.uniq g.tI fun k=>(h.fl k).trans (g.fl k).symm
theorem Bx {α:Type} {p s:List α} {u:α} {i:Nat} (h:i=p.length):(p++u::s)[i]? = some u:=by
 subst h;simp
theorem VU {α:Type} {p q s:List α} {u v:α}:((p++u::(q++v::s)).set p.length v).set (p.length+1+q.length) u=p++v::(q++u::s):=by
 rw [List.set_append_right _ _ (Zd _),Nat.sub_self,List.set_cons_zero,List.set_append_right _ _ (by omega)]
 rw [show p.length+1+q.length - p.length=q.length+1 by omega,List.set_cons_succ,List.set_append_right _ _ (Zd _),Nat.sub_self,List.set_cons_zero]
theorem Qpp {α:Type} {p q s:List α} {u v:α}:((p++u::(q++v::s)).set (p.length+1+q.length) u).set p.length v=p++v::(q++u::s):=by
 rw [List.set_comm _ _ (by omega)];exact VU
theorem Qst {α β:Type} {l:List α} {i j:Nat} {u v:α} (hi:l[i]? = some u) (hj:l[j]? = some v) (K:List α->Option β) :
  aa (decide (0<=(j:Int))) (aa (Nat.blt ((j:Int).toNat) l.length) (Q1 (l[(j:Int).toNat]?) fun x9=>aa (decide (0<=(i:Int))) (aa (Nat.blt ((i:Int).toNat) l.length) (Q1 (l[(i:Int).toNat]?) fun aR =>
   aa (decide (0<=(i:Int))) (aa (Nat.blt ((i:Int).toNat) l.length) (Q1 (l[(i:Int).toNat]?) fun bN=>aa (decide (0<=(j:Int))) (aa (Nat.blt ((j:Int).toNat) ((l.set ((i:Int).toNat) x9).length)) (Q1 ((l.set ((i:Int).toNat) x9)[(j:Int).toNat]?) fun dy =>
    K ((l.set ((i:Int).toNat) x9).set ((j:Int).toNat) aR)) none) none) none) none) none) none) none) none=K ((l.set i v).set j u):=by
 have h1:=(Z0 hi).1
 have h2:=(Z0 hj).1
 have h3:∃ z,(l.set i v)[j]? = some z:=⟨(l.set i v)[j]'(by simpa using h2),Z6 _⟩
 obtain ⟨z,h3⟩:=h3
 have b1:Nat.blt i l.length=true:=Nat.ble_eq_true_of_le h1
 have b2:Nat.blt j l.length=true:=Nat.ble_eq_true_of_le h2
 have b3:Nat.blt j (l.set i v).length=true:=by rw [List.length_set];exact b2
 have p1:decide (0<=(i:Int))=true:=Z5 (by omega)
 have p2:decide (0<=(j:Int))=true:=Z5 (by omega)
 simp only [Int.toNat_natCast,p1,p2,b1,b2,hi,hj,Q4,Q9,b3,h3]
theorem PA {α β:Type} {l:List α} {i j:Nat} {u v:α} {Q:β->Prop} (hi:l[i]? = some u) (hj:l[j]? = some v) (K:List α->Option β) (h:Ok (K ((l.set i v).set j u)) Q) :
  Ok (aa (decide (0<=(j:Int))) (aa (Nat.blt ((j:Int).toNat) l.length) (Q1 (l[(j:Int).toNat]?) fun x9=>aa (decide (0<=(i:Int))) (aa (Nat.blt ((i:Int).toNat) l.length) (Q1 (l[(i:Int).toNat]?) fun aR =>
   aa (decide (0<=(i:Int))) (aa (Nat.blt ((i:Int).toNat) l.length) (Q1 (l[(i:Int).toNat]?) fun bN=>aa (decide (0<=(j:Int))) (aa (Nat.blt ((j:Int).toNat) ((l.set ((i:Int).toNat) x9).length)) (Q1 ((l.set ((i:Int).toNat) x9)[(j:Int).toNat]?) fun dy =>
    K ((l.set ((i:Int).toNat) x9).set ((j:Int).toNat) aR)) none) none) none) none) none) none) none) none) Q:=by rw [Qst hi hj K];exact h
theorem Al {a b:Nat} (h:a+b<=4000000000):IntKind.i64.wrap ((IntKind.u64.wrap (IntKind.i64.wrap ((a:Int)+(b:Int)))).fdiv (2 ^ (min (1:Int).toNat IntKind.u64.bits)))=(((a+b) / 2:Nat):Int):=by
 have e0:(2:Int) ^ (min (1:Int).toNat IntKind.u64.bits)=2:=rfl
 rw [e0,wr (n:=(a:Int)+(b:Int)) (by omega) (by omega)]
 have e1:IntKind.u64.wrap ((a:Int)+(b:Int))=(a:Int)+(b:Int):=by
  exact IntWalk.u64_in _ ⟨by omega,by omega⟩
 rw [e1,Int.fdiv_eq_ediv_of_nonneg _ (by omega),wr (by omega) (by omega)]
 omega
theorem Am {a b:Nat} (h:a+b<=4000000000):IntKind.i64.wrap ((a:Int)+(b:Int))=((a+b:Nat):Int):=by
 rw [wr (by omega) (by omega)];omega
theorem qT {a b:Nat} (h:b<=a) (ha:a<=4000000000):IntKind.i64.wrap ((a:Int) - (b:Int))=((a - b:Nat):Int):=by
 rw [wr (by omega) (by omega)];omega
theorem Mg {a:Nat} (h:1<=a) (ha:a<=4000000000):IntKind.i64.wrap ((a:Int) - 1)=((a - 1:Nat):Int):=by
 rw [wr (by omega) (by omega)];omega
theorem Hw {α:Type} {l:List α} {i:Nat} (h:i<=l.length):∃ a b,l=a++b/\a.length=i:=⟨l.take i,l.drop i,(List.take_append_drop i l).symm,by simp;omega⟩
inductive dQ {α:Type} (key:α->Int) (n:Nat):List α->List α->Prop
 | last (X D:List α):X.length<=n->cS key X D->dQ key n X D
 | cons (X1 D1 X D:List α):X1.length=n->cS key X1 D1->dQ key n X D->dQ key n (X1++X) (D1++D)
theorem dQ.len {α:Type} {key:α->Int} {n:Nat} {X D:List α} (h:dQ key n X D):D.length=X.length:=by
 induction h with
 | last X D _ h=>exact h.len
 | cons X1 D1 X D _ h _ ih=>simp [h.len,ih]
theorem dQ.one {α:Type} {key:α->Int} {n:Nat} {X D:List α} (h:dQ key n X D) (hn:X.length<=n):cS key X D:=by
 cases h with
 | last _ _ _ h=>exact h
 | cons X1 D1 X D h1 h2 h3 =>
  simp only [Zf] at hn
  have e1:X=[]:=Z1 (by omega)
  have e2:D=[]:=Z1 (by rw [h3.len];omega)
  subst e1 e2;simpa using h2
theorem dQ.two {α:Type} {key:α->Int} {n:Nat} {X D:List α} (h:dQ key n X D) (hn:n < X.length):∃ X1 D1 X' D',X=X1++X'/\D=D1++D'/\X1.length=n/\cS key X1 D1/\dQ key n X' D':=by
 cases h with
 | last _ _ h _=>omega
 | cons X1 D1 X D h1 h2 h3=>exact ⟨X1,D1,X,D,rfl,rfl,h1,h2,h3⟩
theorem cS.comp {α:Type} {key:α->Int} {x1 x2 d1 d2 r:List α} (h:cS key (d1++d2) r) (h1:cS key x1 d1) (h2:cS key x2 d2):cS key (x1++x2) r :=
 h.trans (fun k=>by rw [n_,n_,h1.fl,h2.fl]) (h1.perm.append h2.perm)
abbrev oa:=Int×Int×Int×Int×Int×Int×Int×Int
def bO (x:oa):Int:=x.1
theorem Lb {d:Nat} {a b:Int}:∃ c,qh (d+1) a b=some c/\decide (c < 0)=decide (a < b):=by
 rw [Uu];simp only [vf]
 refine ⟨_,rfl,?_⟩
 by_cases h:a < b
 .rw [Z5 h];simp
 .rw [Z4 h]
  by_cases h2:a > b
  .rw [Z5 h2];simp
  .rw [Z4 h2];simp
theorem VV {d:Nat} {p U M V s:List oa} {n a b:Nat} {f:Bool} (hu:U.length=n) (hv:V.length=n) (ha:a=p.length) (hb:b=p.length+n+M.length) (hL:p.length+(n+M.length+n)+s.length<=1000000) :
  Ok (zu (d+1) (p++(U++(M++(V++s)))) a b n f) fun r=>r=p++(V++(M++(U++s))):=by
 rw [Uw]
 refine mH (fun k st=>∃ U1 U2 V1 V2,U=U1++U2/\V=V1++V2/\U1.length=V1.length/\st.1=((U1.length:Nat):Int)/\st.2=p++(V1++(U2++(M++(U1++(V2++s)))))/\k=U2.length) ?_ _ n _ (by rw [Q6];omega) ⟨[],U,[],V,rfl,rfl,rfl,rfl,by simp,hu.symm⟩
 rintro k ⟨i,L⟩ ag ⟨U1,U2,V1,V2,rfl,rfl,h1,h2,h3,h4⟩ ez
 simp only at h2 h3
 subst h2
 simp only [Zf] at hu hv
 simp only [zq]
 cases U2 with
 | nil =>
  simp only [Zb] at hu
  obtain rfl:V2=[]:=Z1 (by omega)
  rw [Z4 (by omega),Q5]
  unfold zo
  exact Ok.some (by rw [h3];simp)
 | cons u U2 =>
  cases V2 with
  | nil=>simp only [Z9,Zb] at hu hv;omega
  | cons v V2 =>
   simp only [Z9] at hu hv
   rw [Z5 (by omega),Q4,Am (by omega),Am (by omega)]
   have e:L=(p++V1)++u::((U2++(M++U1))++v::(V2++s)):=by rw [h3];simp
   have hi:L[a+U1.length]? = some u:=by rw [e];exact Bx (by simp<;>omega)
   have hj:L[b+U1.length]? = some v:=by
    rw [e,show (p++V1)++u::((U2++(M++U1))++v::(V2++s))=((p++V1)++u::(U2++(M++U1)))++v::(V2++s) by simp]
    exact Bx (by simp<;>omega)
   refine PA hi hj (fun L'=>ag (IntKind.i64.wrap (((U1.length:Nat):Int)+1),L')) ?_
   rw [e,show a+U1.length=(p++V1).length by simp<;>omega,show b+U1.length=(p++V1).length+1+(U2++(M++U1)).length by simp<;>omega,VU,aN (by omega)]
   refine ez U2.length _ (by rw [h4];simp) ⟨U1++[u],U2,V1++[v],V2,by simp,by simp,by simp [h1],by simp,by simp,rfl⟩
theorem Qzp {d:Nat} {p U V s:List oa} {a m b:Nat} {f:Bool} (hu:0 < U.length) (hv:0 < V.length) (ha:a=p.length) (hm:m=p.length+U.length) (hb:b=p.length+U.length+V.length) (hL:p.length+U.length+V.length+s.length<=1000000) :
  Ok (GL (d+2) (p++(U++(V++s))) a m b f) fun r=>r=p++(V++(U++s)):=by
 rw [show d+2=(d+1)+1 from rfl,Ux,qT (by omega) (by omega),qT (by omega) (by omega)]
 refine mH (fun k st=>∃ p' U' V' s',0 < U'.length/\0 < V'.length/\st=(((U'.length:Nat):Int),((V'.length:Nat):Int),p'++(U'++(V'++s')))/\p'.length+U'.length=m/\p'.length+U'.length+V'.length+s'.length<=1000000/\p'++(V'++(U'++s'))=p++(V++(U++s))/\k=U'.length+V'.length) ?_ _ (U.length+V.length) _ (by rw [Q6];omega) ⟨p,U,V,s,hu,hv,by rw [show m - a=U.length by omega,show b - m=V.length by omega],by omega,by omega,rfl,rfl⟩
 rintro k st ag ⟨p',U',V',s',h1,h2,rfl,h3,h4,h5,rfl⟩ ez
 simp only [zw]
 rw [qT (a:=m) (b:=U'.length) (by omega) (by omega)]
 by_cases he:U'.length=V'.length
 .rw [show ((((U'.length:Nat):Int)) != ((V'.length:Nat):Int))=false by rw [he];simp,Q5]
  unfold zv
  rw [qT (a:=m) (b:=U'.length) (by omega) (by omega)]
  refine Ok.bind (VV (d:=d) (p:=p') (U:=U') (M:=[]) (V:=V') (s:=s') (n:=U'.length) rfl he.symm (by omega) (by simp<;>omega) (by simp<;>omega)) fun r hr=>?_
  subst hr
  exact Ok.some (by rw [<- h5];simp)
 .rw [show ((((U'.length:Nat):Int)) != ((V'.length:Nat):Int))=true by simp<;>omega,Q4]
  by_cases hg:((U'.length:Nat):Int) > ((V'.length:Nat):Int)
  .rw [Z5 hg,Q4]
   obtain ⟨Ua,Ub,rfl,hua⟩:=Hw (l:=U') (i:=V'.length) (by omega)
   simp only [Zf] at h1 h3 h4 hg he ⊢
   have:=VV (d:=d) (p:=p') (U:=Ua) (M:=Ub) (V:=V') (s:=s') (n:=V'.length) (a:=m - (Ua.length+Ub.length)) (b:=m) (f:=false) hua rfl (by omega) (by omega) (by omega)
   rw [show p'++(Ua++Ub++(V'++s'))=p'++(Ua++(Ub++(V'++s'))) by simp]
   refine Ok.bind this fun r hr=>?_
   subst hr
   rw [qT (by omega) (by omega)]
   refine ez (Ub.length+Ua.length) _ (by rw [Zf];omega) ⟨p'++V',Ub,Ua,s',by omega,by omega,?_,by simp<;>omega,by simp<;>omega,by rw [<- h5];simp,rfl⟩
   rw [show Ua.length+Ub.length - V'.length=Ub.length by omega,hua];simp
  .rw [Z4 hg,Q5]
   obtain ⟨Va,Vb,rfl,hva⟩:=Hw (l:=V') (i:=V'.length - U'.length) (by omega)
   simp only [Zf] at h2 h3 h4 hg he hva ⊢
   have VE:Vb.length=U'.length:=by omega
   rw [show ((m:Nat):Int)+(((Va.length+Vb.length:Nat):Int))=((m+(Va.length+Vb.length):Nat):Int) by omega,wr (n:=((m+(Va.length+Vb.length):Nat):Int)) (by omega) (by omega),qT (by omega) (by omega)]
   have:=VV (d:=d) (p:=p') (U:=U') (M:=Va) (V:=Vb) (s:=s') (n:=U'.length) (a:=m - U'.length) (b:=m+(Va.length+Vb.length) - U'.length) (f:=false) rfl VE (by omega) (by omega) (by omega)
   rw [show p'++(U'++(Va++Vb++s'))=p'++(U'++(Va++(Vb++s'))) by simp]
   refine Ok.bind this fun r hr=>?_
   subst hr
   rw [qT (by omega) (by omega)]
   refine ez (Vb.length+Va.length) _ (by rw [Zf];omega) ⟨p',Vb,Va,U'++s',by omega,by omega,?_,by omega,by simp<;>omega,by rw [<- h5];simp,rfl⟩
   rw [show Va.length+Vb.length - U'.length=Va.length by omega,VE]
theorem Qhg {d:Nat} {p X s:List oa} {a b:Nat} {f:Bool} (ha:a=p.length) (hb:b=p.length+X.length) (hL:p.length+X.length+s.length<=1000000) :
  Ok (Cs (d+3) (p++(X++s)) a b f) fun r=>∃ R,r=p++(R++s)/\cS bO X R:=by
 rw [show d+3=(d+1)+2 from rfl,Uv,aN (by omega)]
 cases X with
 | nil =>
  obtain ⟨n,hn⟩:∃ n,Qc=n+1:=⟨4194303,Q6⟩
  rw [hn]
  simp only [Q8,qk]
  rw [Z4 (by simp at hb;omega),Q5]
  unfold qi
  exact Ok.some ⟨[],rfl,cS.self List.Pairwise.nil⟩
 | cons x X =>
  simp only [Z9] at hb hL
  refine mH (fun k st=>∃ X0 S Y,x::X=X0++Y/\cS bO X0 S/\st.1=((p.length+S.length:Nat):Int)/\st.2=p++(S++(Y++s))/\k=Y.length) ?_ _ X.length _ (by rw [Q6];omega) ⟨[x],[x],X,rfl,cS.self (cJ.one x),by simp [ha],rfl,rfl⟩
  rintro k ⟨i,L⟩ ag ⟨X0,S,Y,h0,h1,h2,h3,h4⟩ ez
  simp only at h2 h3
  subst h2
  have hlen:=congrArg List.length h0
  simp only [Z9,Zf] at hlen
  have hS:=h1.len
  simp only [qk]
  cases Y with
  | nil =>
   simp only [Zb] at hlen
   rw [Z4 (by omega),Q5]
   unfold qi
   exact Ok.some ⟨S,by rw [h3];simp,by rw [h0];simpa using h1⟩
  | cons y Y =>
   simp only [Z9] at hlen
   rw [Z5 (by omega),Q4]
   have fin:∀ (n1 n2:Int) (b1 b2:Bool) (S1 S2:List oa),S=S1++S2->(∀ z∈S1,bO z<=bO y)->(∀ z∈S2,bO y < bO z)->Ok (qj (d+1) ag ((p.length+S.length:Nat):Int) n1 n2 b1 b2 (p++(S1++(y::(S2++(Y++s)))))) fun r=>∃ R,r=p++(R++s)/\cS bO (x::X) R:=by
    intro n1 n2 b1 b2 S1 S2 e g1 g2
    subst e
    simp only [Zf] at hS hlen ⊢
    unfold qj
    rw [aN (by omega)]
    refine ez Y.length _ (by rw [h4];simp) ⟨X0++[y],S1++y::S2,Y,by rw [h0];simp,h1.ins g1 g2,by simp<;>omega,by simp,rfl⟩
   refine mH (fun q st=>∃ S1 S2,S=S1++S2/\(∀ z∈S2,bO y < bO z)/\st.1=((p.length+S1.length:Nat):Int)/\st.2=p++(S1++(y::(S2++(Y++s))))/\q=S1.length) ?_ _ S.length _ (by rw [Q6];omega) ⟨S,[],by simp,by simp,rfl,by rw [h3];simp,rfl⟩
   rintro q ⟨j,M⟩ bW ⟨S1,S2,e,g2,g3,g4,rfl⟩ An
   simp only at g3 g4
   subst g3
   have Aj:=congrArg List.length e
   simp only [Zf] at Aj
   simp only [zn]
   rcases List.eq_nil_or_concat S1 with rfl | ⟨S1,z,rfl⟩
   .rw [Z4 (by simp [ha]),Q5]
    unfold lR
    rw [Q5,g4]
    exact fin _ _ _ _ [] S2 e (by simp) g2
   .simp only [List.concat_eq_append,Zf,Z9,Zb] at e g4 Aj An ⊢
    have hz:M[p.length+S1.length]? = some z:=by
     rw [g4,show p++(S1++[z]++(y::(S2++(Y++s))))=(p++S1)++z::(y::(S2++(Y++s))) by simp]
     exact Bx (by simp)
    have hy:M[p.length+(S1.length+(0+1))]? = some y:=by
     rw [g4,show p++(S1++[z]++(y::(S2++(Y++s))))=(p++S1++[z])++y::(S2++(Y++s)) by simp]
     exact Bx (by simp<;>omega)
    have oE:=(Z0 hz).1
    have gr:=(Z0 hy).1
    rw [Z5 (by omega),Q4,Mg (by omega) (by omega),show p.length+(S1.length+(0+1)) - 1=p.length+S1.length by omega]
    simp only [nn,Q3,Q4,Qk oE,Qk gr,hz,hy,Q9]
    obtain ⟨c,hc,au⟩:=Lb (d:=d) (a:=y.1) (b:=z.1)
    rw [hc,Q9]
    unfold lR
    rw [au]
    cases hd:decide (y.1 < z.1) with
    | true =>
     simp only [Zj] at hd
     rw [Q4,Mg (by omega) (by omega),show p.length+(S1.length+(0+1)) - 1=p.length+S1.length by omega]
     refine PA (i:=p.length+(S1.length+(0+1))) (j:=p.length+S1.length) hy hz (fun L'=>bW (((p.length+S1.length:Nat):Int),L')) ?_
     rw [g4,show p++(S1++[z]++(y::(S2++(Y++s))))=(p++S1)++z::([]++y::(S2++(Y++s))) by simp,show p.length+(S1.length+(0+1))=(p++S1).length+1+([]:List oa).length by simp<;>omega,show p.length+S1.length=(p++S1).length by simp,Qpp]
     refine An S1.length _ (by omega) ⟨S1,z::S2,by rw [e];simp,fun w hw=>?_,by simp,by simp,rfl⟩
     rcases Z2 hw with rfl | hw
     .exact hd
     .exact g2 w hw
    | false =>
     simp only [decide_eq_false_iff_not] at hd
     rw [Q5,g4]
     have hs:=h1.tI
     rw [e] at hs
     have:=fin ((p.length+(S1.length+(0+1)):Nat):Int) ((p.length+(S1.length+(0+1)):Nat):Int) (decide (((p.length+(S1.length+(0+1)):Nat):Int) > (a:Int))) true (S1++[z]) S2 e (fun w hw=>?_) g2
     .exact this
     .rcases List.mem_append.1 hw with hw | hw
      .have:=(cJ.left hs).mJ w hw z (by simp)
       have oF:z.1<=y.1:=by omega
       exact Int.le_trans this oF
      .simp at hw;subst hw;show w.1<=y.1;omega
theorem Qzq {d:Nat} {p B s:List oa} {x:oa} {a i:Nat} (ha:a=p.length) (hi:i=p.length+1+B.length) (hL:p.length+1+B.length+s.length<=1000000) :
  Ok (Q8 (qm d (i:Int) (ql d)) Qc ((a:Int),p++(x::(B++s)))) fun r=>r=p++(B++(x::s)):=by
 refine mH (fun k st=>∃ B1 B2,B=B1++B2/\st.1=((p.length+B1.length:Nat):Int)/\st.2=p++(B1++(x::(B2++s)))/\k=B2.length) ?_ _ B.length _ (by rw [Q6];omega) ⟨[],B,rfl,by simp [ha],rfl,rfl⟩
 rintro k ⟨k0,L⟩ ag ⟨B1,B2,rfl,h1,h2,h3⟩ ez
 simp only at h1 h2
 subst h1
 simp only [Zf] at hi hL
 simp only [qm]
 rw [Mg (by omega) (by omega)]
 cases B2 with
 | nil =>
  rw [Z4 (by simp at hi;omega),Q5]
  unfold ql
  exact Ok.some (by rw [h2];simp)
 | cons y B2 =>
  simp only [Z9] at hi hL h3
  rw [Z5 (by omega),Q4,aN (by omega)]
  have hx:L[p.length+B1.length]? = some x:=by
   rw [h2,show p++(B1++(x::(y::B2++s)))=(p++B1)++x::(y::B2++s) by simp]
   exact Bx (by simp)
  have hy:L[p.length+B1.length+1]? = some y:=by
   rw [h2,show p++(B1++(x::(y::B2++s)))=(p++B1++[x])++y::(B2++s) by simp]
   exact Bx (by simp<;>omega)
  refine PA (i:=p.length+B1.length) (j:=p.length+B1.length+1) hx hy (fun L'=>ag (((p.length+B1.length+1:Nat):Int),L')) ?_
  rw [h2,show p++(B1++(x::(y::B2++s)))=(p++B1)++x::([]++y::(B2++s)) by simp,show p.length+B1.length+1=(p++B1).length+1+([]:List oa).length by simp,show p.length+B1.length=(p++B1).length by simp,VU]
  refine ez B2.length _ (by omega) ⟨B1++[y],B2,by simp,by simp<;>omega,by simp,rfl⟩
theorem Qzr {d:Nat} {p A s:List oa} {y:oa} {m i:Nat} (hi:i=p.length) (hm:m=p.length+A.length) (hL:p.length+1+A.length+s.length<=1000000) :
  Ok (Q8 (qp d (i:Int) (qo d)) Qc ((m:Int),p++(A++(y::s)))) fun r=>r=p++(y::(A++s)):=by
 refine mH (fun k st=>∃ A1 A2,A=A1++A2/\st.1=((p.length+A1.length:Nat):Int)/\st.2=p++(A1++(y::(A2++s)))/\k=A1.length) ?_ _ A.length _ (by rw [Q6];omega) ⟨A,[],by simp,by simp [hm],by simp,rfl⟩
 rintro k ⟨k0,L⟩ ag ⟨A1,A2,rfl,h1,h2,h3⟩ ez
 simp only at h1 h2
 subst h1
 simp only [Zf] at hm hL
 simp only [qp]
 rcases List.eq_nil_or_concat A1 with rfl | ⟨A1,z,rfl⟩
 .rw [Z4 (by simp<;>omega),Q5]
  unfold qo
  exact Ok.some (by rw [h2];simp)
 .simp only [List.concat_eq_append,Zf,Z9,Zb] at h2 h3 hL ez ⊢
  rw [Z5 (by omega),Q4,Mg (by omega) (by omega),show p.length+(A1.length+(0+1)) - 1=p.length+A1.length by omega]
  have hz:L[p.length+A1.length]? = some z:=by
   rw [h2,show p++(A1++[z]++(y::(A2++s)))=(p++A1)++z::(y::(A2++s)) by simp]
   exact Bx (by simp)
  have hy:L[p.length+(A1.length+(0+1))]? = some y:=by
   rw [h2,show p++(A1++[z]++(y::(A2++s)))=(p++A1++[z])++y::(A2++s) by simp]
   exact Bx (by simp<;>omega)
  refine PA (i:=p.length+(A1.length+(0+1))) (j:=p.length+A1.length) hy hz (fun L'=>ag (((p.length+A1.length:Nat):Int),L')) ?_
  rw [h2,show p++(A1++[z]++(y::(A2++s)))=(p++A1)++z::([]++y::(A2++s)) by simp,show p.length+(A1.length+(0+1))=(p++A1).length+1+([]:List oa).length by simp<;>omega,show p.length+A1.length=(p++A1).length by simp,Qpp]
  refine ez A1.length _ (by omega) ⟨A1,z::A2,by simp,by simp,by simp,rfl⟩
theorem PC {p A s:List oa} {i:Nat} {x:oa} (h:A[i]? = some x):(p++(A++s))[p.length+i]? = some x:=by
 have hi:=(Z0 h).1
 rw [Zq (by omega),List.getElem?_append_left (by omega),show p.length+i - p.length=i by omega];exact h
theorem VW {β:Type} {F:(Int×Int->Option β)->Int×Int->Option β} {P:Nat->Bool} {lo hi:Nat} {K:Int->Option β} {Q:β->Prop} (hlh:lo<=hi) (hh:hi<=1000000)
  (h:∀ ag (i j:Nat),lo<=i->i < j->j<=hi->F ag ((i:Int),(j:Int))=aa (P ((i+j) / 2)) (ag ((((i+j) / 2+1:Nat):Int),(j:Int))) (ag ((i:Int),(((i+j) / 2:Nat):Int))))
  (h2:∀ ag (i:Nat),F ag ((i:Int),(i:Int))=K (i:Int))
  (hK:∀ c:Nat,lo<=c->c<=hi->(lo < c->P (c - 1)=true)->(c < hi->P c=false)->Ok (K (c:Int)) Q):Ok (Q8 F Qc ((lo:Int),(hi:Int))) Q:=by
 refine mH (fun k st=>∃ i j:Nat,st=((i:Int),(j:Int))/\lo<=i/\i<=j/\j<=hi/\(lo < i->P (i - 1)=true)/\(j < hi->P j=false)/\k=j - i) ?_ _ (hi - lo) _ (by rw [Q6];omega) ⟨lo,hi,rfl,by omega,by omega,by omega,by omega,by omega,rfl⟩
 rintro k st ag ⟨i,j,rfl,g1,g2,g3,g4,g5,rfl⟩ ez
 rcases Nat.eq_or_lt_of_le g2 with rfl | au
 .rw [h2];exact hK i g1 g3 g4 g5
 .rw [h ag i j g1 au g3]
  cases hp:P ((i+j) / 2) with
  | true=>rw [Q4];exact ez (j - ((i+j) / 2+1)) _ (by omega) ⟨(i+j) / 2+1,j,rfl,by omega,by omega,g3,fun _=>by rw [Nat.add_sub_cancel];exact hp,g5,rfl⟩
  | false=>rw [Q5];exact ez ((i+j) / 2 - i) _ (by omega) ⟨i,(i+j) / 2,rfl,g1,by omega,by omega,g4,fun _=>hp,rfl⟩
theorem PD:∀ (j:Nat) {d:Nat} {p A B s:List oa} {a m b:Nat} {f:Bool},A.length+B.length<=2 ^ j->0 < A.length->0 < B.length->cJ bO A->cJ bO B->a=p.length->m=p.length+A.length->b=p.length+A.length+B.length->p.length+A.length+B.length+s.length<=1000000 ->
  Ok (uA (d+j+3) (p++(A++(B++s))) a m b f) fun r=>∃ R,r=p++(R++s)/\cS bO (A++B) R
 | 0,d,p,A,B,s,a,m,b,f,h,h1,h2,_,_,_,_,_,_=>by simp at h;omega
 | j+1,d,p,A,B,s,a,m,b,f,h,h1,h2,sa,sb,ha,hm,hb,hL=>by
  rw [show d+(j+1)+3=(d+j+1+1)+2 by omega,Uz,qT (by omega) (by omega),qT (by omega) (by omega)]
  by_cases c1:A.length=1
  .obtain ⟨x,rfl⟩:∃ x,A=[x]:=List.length_eq_one_iff.1 c1
   simp only [Z9,Zb] at hm hb hL
   rw [show (((m - a:Nat):Int)==1)=true by rw [show m - a=1 by omega];rfl,Q4]
   refine VW (P:=fun c=>match B[c - m]? with | some y=>decide (y.1 < x.1) | none=>false) (K:=fun i=>lS (d+j+1+1) (p++([x]++(B++s))) (a:Int) i) (by omega) (by omega) (fun ag i k q1 q2 q3=>?_) (fun ag i=>?_) (fun c q1 q2 q3 q4=>?_)
   .simp only [qn]
    rw [Z5 (by omega),Q4,Al (by omega)]
    obtain ⟨y,hy⟩:∃ y,B[(i+k) / 2 - m]? = some y:=⟨_,Z6 (by omega)⟩
    have EF:(p++([x]++(B++s)))[(i+k) / 2]? = some y:=by
     have:=PC (p:=p++[x]) (s:=s) hy
     rw [show (p++[x]).length+((i+k) / 2 - m)=(i+k) / 2 by simp<;>omega] at this
     simpa using this
    have sH:(p++([x]++(B++s)))[a]? = some x:=Bx (s:=B++s) ha
    have l1:=(Z0 EF).1
    have l2:=(Z0 sH).1
    simp only [nn,Q3,Q4,Qk l1,Qk l2,sH,EF,Q9]
    obtain ⟨c,hc,au⟩:=Lb (d:=d+j+1) (a:=y.1) (b:=x.1)
    rw [hc,Q9,au,hy,aN (by omega)]
   .simp only [qn]
    rw [Z4 (by omega),Q5]
   .obtain ⟨B1,B2,rfl,wu⟩:=Hw (l:=B) (i:=c - m) (by omega)
    simp only [Zf] at hb hL
    have k1:∀ z∈B1,bO z < bO x:=by
     intro z hz
     by_cases hc:m < c
     .have:=q3 hc
      obtain ⟨i,hi,rfl⟩:=List.getElem_of_mem hz
      have jx:(B1++B2)[c - 1 - m]? = some (B1[c - 1 - m]'(by omega)):=by rw [List.getElem?_append_left (by omega),Z6]
      simp only [jx,Zj] at this
      have hle:=(cJ.left sb).get (i:=i) (j:=c - 1 - m) (by omega) (Z6 hi) (Z6 (by omega))
      exact Int.lt_of_le_of_lt hle this
     .obtain rfl:B1=[]:=Z1 (by omega)
      simp at hz
    have k2:∀ z∈B2,bO x<=bO z:=by
     intro z hz
     obtain ⟨i,hi,rfl⟩:=List.getElem_of_mem hz
     have:=q4 (by omega)
     have Hx:(B1++B2)[c - m]? = some (B2[0]'(by omega)):=by rw [Zq (by omega),show c - m - B1.length=0 by omega,Z6]
     simp only [Hx,decide_eq_false_iff_not] at this
     have hle:=(cJ.right sb).get (i:=0) (j:=i) (by omega) (Z6 (by omega)) (Z6 hi)
     have:bO x<=bO (B2[0]'(by omega)):=by show x.1<=_;have h3:¬ (B2[0]'(by omega)).1 < x.1:=this;show x.1<=(B2[0]'(by omega)).1;omega
     exact Int.le_trans this hle
    show Ok (lS (d+j+1+1) (p++([x]++(B1++B2++s))) (a:Int) (c:Int)) _
    unfold lS
    rw [show p++([x]++(B1++B2++s))=p++(x::(B1++(B2++s))) by simp]
    refine Ok.mono (Qzq (p:=p) (B:=B1) (s:=B2++s) (x:=x) ha (by omega) (by simp<;>omega)) fun r hr=>?_
    subst hr
    refine ⟨B1++(x::B2),by simp,?_⟩
    have t1:cS bO (B1++(x::B2)) (B1++(x::B2)):=by
     refine cS.self ?_
     unfold cJ
     rw [List.pairwise_append]
     refine ⟨cJ.left sb,List.pairwise_cons.2 ⟨k2,cJ.right sb⟩,fun u hu w hw=>?_⟩
     rcases Z2 hw with rfl | hw
     .exact Int.le_of_lt (k1 u hu)
     .exact cJ.mJ sb u hu w hw
    refine t1.trans (fun k=>?_) ?_
    .have:=VT (key:=bO) (k:=k) (a:=[x]) (b:=B1) (fun u hu w hw=>by simp at hw;subst hw;exact k1 u hu)
     rw [show B1++x::B2=(B1++[x])++B2 by simp,n_,this,<- n_,List.append_assoc]
    .rw [show [x]++(B1++B2)=x::(B1++B2) from rfl];exact List.perm_middle
  .rw [show (((m - a:Nat):Int)==1)=false by rw [beq_eq_false_iff_ne];omega,Q5]
   by_cases c2:B.length=1
   .obtain ⟨y,rfl⟩:∃ y,B=[y]:=List.length_eq_one_iff.1 c2
    simp only [Z9,Zb] at hb hL
    rw [show (((b - m:Nat):Int)==1)=true by rw [show b - m=1 by omega];rfl,Q4]
    refine VW (P:=fun c=>match A[c - a]? with | some x => !decide (y.1 < x.1) | none=>false) (K:=fun i=>lT (d+j+1+1) (p++(A++([y]++s))) (m:Int) i) (by omega) (by omega) (fun ag i k q1 q2 q3=>?_) (fun ag i=>?_) (fun c q1 q2 q3 q4=>?_)
    .simp only [qq]
     rw [Z5 (by omega),Q4,Al (by omega)]
     obtain ⟨x,hx⟩:∃ x,A[(i+k) / 2 - a]? = some x:=⟨_,Z6 (by omega)⟩
     have sH:(p++(A++([y]++s)))[(i+k) / 2]? = some x:=by
      have:=PC (p:=p) (s:=[y]++s) hx
      rw [show p.length+((i+k) / 2 - a)=(i+k) / 2 by omega] at this
      exact this
     have EF:(p++(A++([y]++s)))[m]? = some y:=by
      rw [show p++(A++([y]++s))=(p++A)++y::s by simp]
      exact Bx (by simp<;>omega)
     have l1:=(Z0 EF).1
     have l2:=(Z0 sH).1
     simp only [nn,Q3,Q4,Qk l1,Qk l2,sH,EF,Q9]
     obtain ⟨c,hc,au⟩:=Lb (d:=d+j+1) (a:=y.1) (b:=x.1)
     rw [hc,Q9,au,hx,aN (by omega)]
    .simp only [qq]
     rw [Z4 (by omega),Q5]
    .obtain ⟨A1,A2,rfl,hA1⟩:=Hw (l:=A) (i:=c - a) (by omega)
     simp only [Zf] at hm hb hL
     have k1:∀ z∈A1,bO z<=bO y:=by
      intro z hz
      by_cases hc:a < c
      .have:=q3 hc
       obtain ⟨i,hi,rfl⟩:=List.getElem_of_mem hz
       have jx:(A1++A2)[c - 1 - a]? = some (A1[c - 1 - a]'(by omega)):=by rw [List.getElem?_append_left (by omega),Z6]
       simp only [jx,Bool.not_eq_true',decide_eq_false_iff_not] at this
       have hle:=(cJ.left sa).get (i:=i) (j:=c - 1 - a) (by omega) (Z6 hi) (Z6 (by omega))
       have h3:(A1[c - 1 - a]'(by omega)).1<=y.1:=by omega
       exact Int.le_trans hle h3
      .obtain rfl:A1=[]:=Z1 (by omega)
       simp at hz
     have k2:∀ z∈A2,bO y < bO z:=by
      intro z hz
      obtain ⟨i,hi,rfl⟩:=List.getElem_of_mem hz
      have:=q4 (by omega)
      have Hx:(A1++A2)[c - a]? = some (A2[0]'(by omega)):=by rw [Zq (by omega),show c - a - A1.length=0 by omega,Z6]
      simp only [Hx,Bool.not_eq_false',Zj] at this
      have hle:=(cJ.right sa).get (i:=0) (j:=i) (by omega) (Z6 (by omega)) (Z6 hi)
      exact Int.lt_of_lt_of_le this hle
     show Ok (lT (d+j+1+1) (p++(A1++A2++([y]++s))) (m:Int) (c:Int)) _
     unfold lT
     rw [show p++(A1++A2++([y]++s))=(p++A1)++(A2++(y::s)) by simp]
     refine Ok.mono (Qzr (p:=p++A1) (A:=A2) (s:=s) (y:=y) (by simp<;>omega) (by simp<;>omega) (by simp<;>omega)) fun r hr=>?_
     subst hr
     refine ⟨A1++(y::A2),by simp,?_⟩
     exact (cS.self sa).ins k1 k2
   .rw [show (((b - m:Nat):Int)==1)=false by rw [beq_eq_false_iff_ne];omega,Q5,Al (by omega)]
    have hq:(p.length+(p.length+A.length+B.length)) / 2=(a+b) / 2:=by rw [ha,hb]
    rw [decide_eq_decide.2 (show ((m:Nat):Int) > (((a+b) / 2:Nat):Int)↔(a+b) / 2 < m by omega)]
    have key:∀ c:Nat,a<=c->c<=m->m<=(a+b) / 2+m - c->(a+b) / 2+m - c<=b ->
      (∀ x∈(A.drop (c - a)),∀ y∈B.take ((a+b) / 2 - c),bO y < bO x)->(∀ x∈A.take (c - a),∀ y∈B.drop ((a+b) / 2 - c),bO x<=bO y) ->
      Ok (lZ (d+j+1+1) (p++(A++(B++s))) (a:Int) (m:Int) (b:Int) (c:Int)) fun r=>∃ R,r=p++(R++s)/\cS bO (A++B) R:=by
     intro c q1 q2 q3 q4 g1 g2
     obtain ⟨A1,A2,hA,hA1⟩:=Hw (l:=A) (i:=c - a) (by omega)
     obtain ⟨B1,B2,hB,wu⟩:=Hw (l:=B) (i:=(a+b) / 2 - c) (by omega)
     subst hA hB
     rw [<- hA1,List.drop_left] at g1
     rw [<- hA1,List.take_left] at g2
     rw [<- wu,List.take_left] at g1
     rw [<- wu,List.drop_left] at g2
     simp only [Zf] at h h1 h2 hm hb hL c1 c2 hq
     have CR:(a+b) / 2+m - c=m+B1.length:=by omega
     have s5:∀ R1,cS bO (A1++B1) R1->Ok (lV (d+j+1+1) (a:Int) (m:Int) (b:Int) (c:Int) (p++(R1++(A2++(B2++s))))) fun r=>∃ R,r=p++(R++s)/\cS bO ((A1++A2)++(B1++B2)) R:=by
      intro R1 B6
      have oE:=B6.len
      simp only [Zf] at oE
      have fin:∀ R2,cS bO (A2++B2) R2->∃ R,p++(R1++(R2++s))=p++(R++s)/\cS bO ((A1++A2)++(B1++B2)) R:=by
       intro R2 B7
       refine ⟨R1++R2,by simp,(B6.cat B7 ?_).trans (fun k=>?_) ?_⟩
       .intro x hx y hy
        rcases List.mem_append.1 hx with hx | hx<;>rcases List.mem_append.1 hy with hy | hy
        .exact cJ.mJ sa x hx y hy
        .exact g2 x hx y hy
        .exact Int.le_of_lt (g1 y hy x hx)
        .exact cJ.mJ sb x hx y hy
       .have e:=VT (key:=bO) (k:=k) (a:=A2) (b:=B1) (fun x hx y hy=>g1 y hy x hx)
        rw [n_,n_] at e
        simp only [n_,List.append_assoc]
        rw [<- List.append_assoc (Kf bO k B1),e,List.append_assoc]
       .rw [List.append_assoc,List.append_assoc]
        exact List.Perm.append_left A1 (List.perm_append_comm_assoc B1 A2 B2)
      unfold lV
      rw [Al (by omega),Am (by omega),qT (by omega) (by omega),CR]
      by_cases k1:(a+b) / 2 < m+B1.length
      .rw [Z5 (by omega),Q4]
       unfold lU
       by_cases k2:m+B1.length < b
       .rw [Z5 (by omega),Q4,Al (by omega),Am (by omega),qT (by omega) (by omega),CR]
        have:=PD j (d:=d) (p:=p++R1) (A:=A2) (B:=B2) (s:=s) (a:=(a+b) / 2) (m:=m+B1.length) (b:=b) (f:=false) (by omega) (by omega) (by omega) (cJ.right sa) (cJ.right sb) (by simp<;>omega) (by simp<;>omega) (by simp<;>omega) (by simp<;>omega)
        rw [show d+j+1+1+1=d+j+3 by omega,show p++(R1++(A2++(B2++s)))=(p++R1)++(A2++(B2++s)) by simp]
        refine Ok.bind this fun r hr=>?_
        obtain ⟨R2,rfl,B7⟩:=hr
        refine Ok.some ?_
        rw [List.append_assoc];exact fin R2 B7
       .rw [Z4 (by omega),Q5]
        obtain rfl:B2=[]:=Z1 (by omega)
        refine Ok.some ?_
        have:=fin A2 (by simpa using cS.self (cJ.right sa))
        simpa using this
      .rw [Z4 (by omega),Q5]
       unfold lU
       rw [Q5]
       obtain rfl:A2=[]:=Z1 (by omega)
       refine Ok.some ?_
       have:=fin B2 (by simpa using cS.self (cJ.right sb))
       simpa using this
     have s7:Ok (lX (d+j+1+1) (a:Int) (m:Int) (b:Int) (c:Int) (p++(A1++(B1++(A2++(B2++s)))))) fun r=>∃ R,r=p++(R++s)/\cS bO ((A1++A2)++(B1++B2)) R:=by
      unfold lX
      by_cases k1:a < c
      .rw [Z5 (by omega),Q4,Al (by omega)]
       unfold lW
       by_cases k2:c < (a+b) / 2
       .rw [Z5 (by omega),Q4,Al (by omega)]
        have:=PD j (d:=d) (p:=p) (A:=A1) (B:=B1) (s:=A2++(B2++s)) (a:=a) (m:=c) (b:=(a+b) / 2) (f:=false) (by omega) (by omega) (by omega) (cJ.left sa) (cJ.left sb) ha (by omega) (by omega) (by simp<;>omega)
        rw [show d+j+1+1+1=d+j+3 by omega]
        refine Ok.bind this fun r hr=>?_
        obtain ⟨R1,rfl,B6⟩:=hr
        exact s5 R1 B6
       .rw [Z4 (by omega),Q5]
        obtain rfl:B1=[]:=Z1 (by omega)
        exact s5 A1 (by simpa using cS.self (cJ.left sa))
      .rw [Z4 (by omega),Q5]
       unfold lW
       rw [Q5]
       obtain rfl:A1=[]:=Z1 (by omega)
       exact s5 B1 (by simpa using cS.self (cJ.left sb))
     unfold lZ
     rw [Al (by omega),Am (by omega),qT (by omega) (by omega),CR]
     have e1:p++(A1++A2++(B1++B2++s))=(p++A1)++(A2++(B1++(B2++s))):=by simp
     by_cases k1:c < m
     .rw [Z5 (by omega),Q4]
      unfold lY
      by_cases k2:m < m+B1.length
      .rw [Z5 (by omega),Q4,Al (by omega),Am (by omega),qT (by omega) (by omega),CR,e1]
       have:=Qzp (d:=d+j+1) (p:=p++A1) (U:=A2) (V:=B1) (s:=B2++s) (a:=c) (m:=m) (b:=m+B1.length) (f:=false) (by omega) (by omega) (by simp<;>omega) (by simp<;>omega) (by simp<;>omega) (by simp<;>omega)
       rw [show d+j+1+1+1=d+j+1+2 by omega]
       refine Ok.bind this fun r hr=>?_
       subst hr
       rw [show p++A1++(B1++(A2++(B2++s)))=p++(A1++(B1++(A2++(B2++s)))) by simp]
       exact s7
      .rw [Z4 (by omega),Q5]
       obtain rfl:B1=[]:=Z1 (by omega)
       simpa using s7
     .rw [Z4 (by omega),Q5]
      unfold lY
      rw [Q5]
      obtain rfl:A2=[]:=Z1 (by omega)
      simpa using s7
    have Mh:∀ lo hi:Nat,a<=lo->lo<=hi->hi<=m->(∀ c,lo<=c->c < hi->m<=(a+b) / 2+m - 1 - c/\(a+b) / 2+m - 1 - c < b)->m<=(a+b) / 2+m - hi->(a+b) / 2+m - lo<=b->(lo=a\/(a+b) / 2+m - lo=b)->(hi=m\/(a+b) / 2+m - hi=m) ->
      Ok (iQ (d+j+1+1) (p++(A++(B++s))) (a:Int) (m:Int) (b:Int) (lo:Int) (hi:Int)) fun r=>∃ R,r=p++(R++s)/\cS bO (A++B) R:=by
     intro lo hi q1 q2 q3 q4 q5 q6 q7 q8
     unfold iQ
     refine VW (P:=fun c=>match A[c - a]?,B[(a+b) / 2 - 1 - c]? with | some x,some y => !decide (y.1 < x.1) | _,_=>false) (K:=fun i=>lZ (d+j+1+1) (p++(A++(B++s))) (a:Int) (m:Int) (b:Int) i) q2 (by omega) (fun ag i k r1 r2 r3=>?_) (fun ag i=>?_) (fun c r1 r2 r3 r4=>?_)
     .simp only [qt]
      obtain ⟨t1,t2⟩:=q4 ((i+k) / 2) (by omega) (by omega)
      rw [Z5 (by omega),Q4,Al (by omega),Al (by omega),Am (by omega),Mg (by omega) (by omega),qT (by omega) (by omega)]
      obtain ⟨x,hx⟩:∃ x,A[(i+k) / 2 - a]? = some x:=⟨_,Z6 (by omega)⟩
      obtain ⟨y,hy⟩:∃ y,B[(a+b) / 2 - 1 - (i+k) / 2]? = some y:=⟨_,Z6 (by omega)⟩
      have sH:(p++(A++(B++s)))[(i+k) / 2]? = some x:=by
       have:=PC (p:=p) (s:=B++s) hx
       rw [show p.length+((i+k) / 2 - a)=(i+k) / 2 by omega] at this
       exact this
      have EF:(p++(A++(B++s)))[(a+b) / 2+m - 1 - (i+k) / 2]? = some y:=by
       have:=PC (p:=p++A) (s:=s) hy
       rw [show (p++A).length+((a+b) / 2 - 1 - (i+k) / 2)=(a+b) / 2+m - 1 - (i+k) / 2 by simp<;>omega] at this
       simpa using this
      have l1:=(Z0 EF).1
      have l2:=(Z0 sH).1
      simp only [nn,Q3,Q4,Qk l1,Qk l2,sH,EF,Q9]
      obtain ⟨c,hc,au⟩:=Lb (d:=d+j+1) (a:=y.1) (b:=x.1)
      rw [hc,Q9,au,hx,hy,aN (by omega)]
     .simp only [qt]
      rw [Z4 (by omega),Q5]
     .refine key c (by omega) (by omega) (by omega) (by omega) (fun x hx y hy=>?_) (fun x hx y hy=>?_)
      .obtain ⟨i,eW,rfl⟩:=List.getElem_of_mem hx
       obtain ⟨k,hk,rfl⟩:=List.getElem_of_mem hy
       simp only [List.length_drop,List.length_take] at eW hk
       have hc:c < hi:=by
        rcases q8 with h | h<;>omega
       have:=r4 hc
       have Mi:A[c - a]? = some (A[c - a]'(by omega)):=Z6 _
       have Hy:B[(a+b) / 2 - 1 - c]? = some (B[(a+b) / 2 - 1 - c]'(by omega)):=Z6 _
       rw [Mi,Hy] at this
       simp only [Bool.not_eq_false',Zj] at this
       have e1:=sa.get (i:=c - a) (j:=c - a+i) (by omega) Mi (Z6 (by omega))
       have e2:=sb.get (i:=k) (j:=(a+b) / 2 - 1 - c) (by omega) (Z6 (by omega)) Hy
       rw [List.getElem_drop,List.getElem_take]
       exact Int.lt_of_le_of_lt e2 (Int.lt_of_lt_of_le this e1)
      .obtain ⟨i,eW,rfl⟩:=List.getElem_of_mem hx
       obtain ⟨k,hk,rfl⟩:=List.getElem_of_mem hy
       simp only [List.length_drop,List.length_take] at eW hk
       have hc:lo < c:=by
        rcases q7 with h | h<;>omega
       have:=r3 hc
       have Mi:A[c - 1 - a]? = some (A[c - 1 - a]'(by omega)):=Z6 _
       have Hy:B[(a+b) / 2 - 1 - (c - 1)]? = some (B[(a+b) / 2 - 1 - (c - 1)]'(by omega)):=Z6 _
       rw [Mi,Hy] at this
       simp only [Bool.not_eq_true',decide_eq_false_iff_not] at this
       have e1:=sa.get (i:=i) (j:=c - 1 - a) (by omega) (Z6 (by omega)) Mi
       have e2:=sb.get (i:=(a+b) / 2 - 1 - (c - 1)) (j:=(a+b) / 2 - c+k) (by omega) Hy (Z6 (by omega))
       rw [List.getElem_drop,List.getElem_take]
       have h3:bO (A[c - 1 - a]'(by omega))<=bO (B[(a+b) / 2 - 1 - (c - 1)]'(by omega)):=by
        show (A[c - 1 - a]'(by omega)).1<=(B[(a+b) / 2 - 1 - (c - 1)]'(by omega)).1
        omega
       exact Int.le_trans e1 (Int.le_trans h3 e2)
    by_cases c3:(a+b) / 2 < m
    .rw [Z5 c3,Q4,Am (by omega),qT (by omega) (by omega)]
     exact Mh _ _ (by omega) (by omega) (by omega) (fun c g1 g2=>by omega) (by omega) (by omega) (by omega) (by omega)
    .rw [Z4 c3,Q5]
     exact Mh _ _ (by omega) (by omega) (by omega) (fun c g1 g2=>by omega) (by omega) (by omega) (by omega) (by omega)
theorem Qpq {d:Nat} {X:List oa} {f:Bool} (hL:X.length<=1000000):Ok (GN (d+24) X ((X.length:Nat):Int) f) fun r=>cS bO X r:=by
 rw [show d+24=(d+23)+1 from rfl,UA]
 refine mH (fun k st=>∃ p Y,st=(((p.length:Nat):Int),((p.length+20:Nat):Int),p++Y)/\p.length+Y.length=X.length/\(∀ D,dQ bO 20 Y D->dQ bO 20 X (p++D))/\k=Y.length) ?_ _ X.length _ (by rw [Q6];omega) ⟨[],X,rfl,by simp,fun D h=>h,rfl⟩
 rintro k st ag ⟨p,Y,rfl,h1,h2,rfl⟩ ez
 simp only [zE]
 by_cases c1:p.length+20<=X.length
 .rw [Z5 (by omega),Q4]
  obtain ⟨Y1,Y2,rfl,hY⟩:=Hw (l:=Y) (i:=20) (by omega)
  simp only [Zf] at h1 ez
  have:=Qhg (d:=d+20) (p:=p) (X:=Y1) (s:=Y2) (a:=p.length) (b:=p.length+20) (f:=false) rfl (by omega) (by omega)
  rw [show p++(Y1++Y2)=p++(Y1++Y2) from rfl]
  refine Ok.bind this fun r hr=>?_
  obtain ⟨R,rfl,hR⟩:=hr
  have JD:=hR.len
  rw [show (((p.length+20:Nat):Int)+20)=((p.length+20+20:Nat):Int) by omega,wr (n:=((p.length+20+20:Nat):Int)) (by omega) (by omega)]
  refine ez Y2.length _ (by omega) ⟨p++R,Y2,by rw [Zf,JD,hY];simp,by rw [Zf,JD];omega,fun D hD=>?_,rfl⟩
  rw [List.append_assoc]
  exact h2 _ (dQ.cons Y1 R Y2 D hY hR hD)
 .rw [Z4 (by omega),Q5]
  unfold zD
  have:=Qhg (d:=d+20) (p:=p) (X:=Y) (s:=[]) (a:=p.length) (b:=X.length) (f:=false) rfl (by omega) (by simp<;>omega)
  rw [show p++Y=p++(Y++[]) by simp]
  refine Ok.bind this fun r hr=>?_
  obtain ⟨R,rfl,hR⟩:=hr
  have hB:=h2 R (dQ.last Y R (by omega) hR)
  clear this ez
  generalize ((p.length:Nat):Int)=n5
  generalize ((p.length+20:Nat):Int)=n6
  refine mH (fun k st=>∃ (bs:Nat) (x y:Int) (D:List oa),st=((bs:Int),x,y,D)/\1<=bs/\bs<=2000020/\dQ bO bs X D/\k=2000020 - bs) ?_ _ 2000000 _ (by rw [Q6];omega) ⟨20,n5,n6,p++(R++[]),rfl,by omega,by omega,by simpa using hB,by omega⟩
  rintro k st ag ⟨bs,x,y,D,rfl,b1,b2,b3,rfl⟩ ez
  simp only [zB]
  by_cases c2:bs < X.length
  .rw [Z5 (by omega),Q4,show ((2:Int)*(bs:Int))=((2*bs:Nat):Int) by omega,wr (n:=((2*bs:Nat):Int)) (by omega) (by omega)]
   have hD:=b3.len
   refine mH (fun k st=>∃ p Y0 Y,st=(((p.length:Nat):Int),((p.length+2*bs:Nat):Int),p++Y)/\p.length+Y.length=X.length/\dQ bO bs Y0 Y/\(∀ D,dQ bO (2*bs) Y0 D->dQ bO (2*bs) X (p++D))/\k=Y.length) ?_ _ X.length _ (by rw [Q6];omega) ⟨[],X,D,by simp,by simp [hD],b3,fun D h=>h,hD.symm⟩
   rintro k st bW ⟨p,Y0,Y,rfl,h1,h2,h3,rfl⟩ An
   have VX:=h2.len
   simp only [zA]
   by_cases c3:p.length+2*bs<=X.length
   .rw [Z5 (by omega),Q4,Am (by omega)]
    obtain ⟨X1,D1,X',D',rfl,rfl,g1,g2,g3⟩:=h2.two (by omega)
    have g1l:=g2.len
    simp only [Zf] at VX h1
    obtain ⟨D2,D3,X2,X3,PE,hD',g4,g5,g6⟩:∃ D2 D3 X2 X3,X'=X2++X3/\D'=D2++D3/\X2.length=bs/\cS bO X2 D2/\dQ bO bs X3 D3:=by
     by_cases hc:bs < X'.length
     .obtain ⟨X2,D2,X3,D3,e1,e2,e3,e4,e5⟩:=g3.two hc
      exact ⟨D2,D3,X2,X3,e1,e2,e3,e4,e5⟩
     .have hl:=g3.len
      exact ⟨D',[],X',[],by simp,by simp,by omega,g3.one (by omega),dQ.last _ _ (by simp) (cS.self List.Pairwise.nil)⟩
    subst PE hD'
    have g4l:=g5.len
    have g6l:=g6.len
    simp only [Zf] at VX h1 An
    have:=PD 20 (d:=d) (p:=p) (A:=D1) (B:=D2) (s:=D3) (a:=p.length) (m:=p.length+bs) (b:=p.length+2*bs) (f:=false) (by omega) (by omega) (by omega) g2.tI g5.tI rfl (by omega) (by omega) (by omega)
    rw [show p++(D1++(D2++D3))=p++(D1++(D2++D3)) from rfl]
    refine Ok.bind this fun r hr=>?_
    obtain ⟨R,rfl,hR⟩:=hr
    have JD:=hR.len
    simp only [Zf] at JD
    rw [show ((2:Int)*(bs:Int))=((2*bs:Nat):Int) by omega,wr (n:=((2*bs:Nat):Int)) (by omega) (by omega),Am (by omega)]
    refine An D3.length _ (by omega) ⟨p++R,X3,D3,by rw [Zf,JD,show D1.length+D2.length=2*bs by omega];simp,by rw [Zf,JD];omega,g6,fun D hD=>?_,rfl⟩
    rw [List.append_assoc]
    refine h3 _ ?_
    rw [<- List.append_assoc]
    exact dQ.cons (X1++X2) R X3 D (by simp<;>omega) (hR.comp g2 g5) hD
   .rw [Z4 (by omega),Q5]
    unfold zy
    rw [Am (by omega),show ((bs:Int)*2)=((2*bs:Nat):Int) by omega,wr (n:=((2*bs:Nat):Int)) (by omega) (by omega)]
    by_cases c4:p.length+bs < X.length
    .rw [Z5 (by omega),Q4]
     obtain ⟨X1,D1,X',D',rfl,rfl,g1,g2,g3⟩:=h2.two (by omega)
     have g1l:=g2.len
     have g3l:=g3.len
     simp only [Zf] at VX h1
     have g5:=g3.one (by omega)
     have:=PD 20 (d:=d) (p:=p) (A:=D1) (B:=D') (s:=[]) (a:=p.length) (m:=p.length+bs) (b:=X.length) (f:=false) (by omega) (by omega) (by omega) g2.tI g5.tI rfl (by omega) (by omega) (by simp<;>omega)
     rw [show p++(D1++D')=p++(D1++(D'++[])) by simp]
     refine Ok.bind this fun r hr=>?_
     obtain ⟨R,rfl,hR⟩:=hr
     refine ez _ _ ?_ ⟨2*bs,_,_,_,rfl,by omega,by omega,?_,rfl⟩
     .omega
     .simp only [List.append_nil]
      exact h3 R (dQ.last _ _ (by simp<;>omega) (hR.comp g2 g5))
    .rw [Z4 (by omega),Q5]
     refine ez _ _ ?_ ⟨2*bs,_,_,_,rfl,by omega,by omega,h3 Y (dQ.last _ _ (by omega) (h2.one (by omega))),rfl⟩
     omega
  .rw [Z4 (by omega),Q5]
   unfold zx
   exact Ok.some (b3.one (by omega))
end Go.Proofs.YtcoimfbmgjhcjabGreatDoor
