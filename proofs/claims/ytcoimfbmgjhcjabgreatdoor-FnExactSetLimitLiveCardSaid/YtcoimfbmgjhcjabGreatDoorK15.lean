/-
  Configurations by value. And what stood behind it in 4 texts.
  Conditions: said at the theorems.
-/
import Derived.Test.YtcoimfbmgjhcjabGreatDoorK10
set_option linter.all false
namespace Go.Proofs.YtcoimfbmgjhcjabGreatDoor
open Go.Ev Go.Pv
theorem OW {σ τ α β:Type} (mk:τ->Int->σ) {F:(σ->Option β)->σ->Option β} (l:List α) (I:Nat->τ->Prop) {Q:β->Prop}
  (h1:∀ ag t (i:Nat) x,l[i]? = some x->I i t->(∀ t',I (i+1) t'->Ok (ag (mk t' ((i+1:Nat):Int))) Q)->Ok (F ag (mk t i)) Q)
  (h2:∀ ag t,I l.length t->Ok (F ag (mk t (l.length:Int))) Q):∀ (fuel i:Nat) (t:τ),l.length < fuel+i->i<=l.length->I i t->Ok (Q9 F fuel (mk t i)) Q
 | 0,i,t,h,hi,_=>by omega
 | fuel+1,i,t,h,hi,hI=>by
  simp only [Q9]
  rcases Nat.lt_or_ge i l.length with au | s_
  .exact h1 _ t i l[i] (Z6 au) hI fun t' ht=>OW mk l I h1 h2 fuel (i+1) t' (by omega) (by omega) ht
  .have:i=l.length:=by omega
   subst this
   exact h2 _ t hI
structure Nm (l:List aC):Prop where
 num:∀ x∈l,UQ x
 ai:∀ x∈l,gV l x.1=true->0<=x.2.2.2.2.2.2.2/\x.2.2.2.2.2.2.2<=1000000000
theorem US {l:List aC} (h:kR l=true):Nm l:=by
 have T:=Qz2 h
 unfold kR at h
 simp only [Z8,Zj] at h
 obtain ⟨⟨h1,h2⟩,h3,h4,h5,h6,h7,h8,h9,Lt⟩:=h
 refine ⟨fun x hx=>?_,fun x hx I9=>?_⟩
 .have a:=Z3 h7 x hx
  have b:=Z3 h9 x hx
  obtain ⟨i,hi⟩:=List.getElem?_of_mem hx
  unfold rH at h3
  rw [sj] at h3
  have g:=h3 i x hi
  unfold mw at a
  unfold mU at b
  unfold zJ at g
  simp only [Z8,Zj] at a b g
  unfold UQ
  omega
 .have a:=Z3 Lt x hx
  unfold nQ at a
  rw [if_pos I9] at a
  simp only [Zj] at a
  omega
theorem Qwg {l:List aC} {i:Int} (h:gV l (aU l i).1=true):cg l i=[]:=by
 have:=ZN (l:=l) (id:=(aU l i).1)
 rw [h,beq_iff_eq] at this
 exact List.eq_nil_of_length_eq_zero (by unfold cg;omega)
theorem Qup {d:Nat} {c:Cf} {i:Int} {ls:List ByteArray} {o f1 l1:List Int} (h0:0<=i) (h1:i.toNat < l1.length) {Q:Pr->Prop} (hQ:Q (c,ls,o,f1,l1.set i.toNat ((ls.length:Nat):Int))):Ok (lT d i c.1 c.2.1 c.2.2.1 c.2.2.2 ls o f1 l1) Q:=by
 unfold lT
 rw [Z5 h0,Q4,Qo h1,Q4,Z6 h1,Q8]
 exact Ok.some hQ
theorem Qh8 {α β:Type} {w:α->List β} {l:List α} {k:Nat} {x:α} (h:l[k]? = some x):(l.take (k+1)).flatMap w=(l.take k).flatMap w++w x:=by
 have hk:=(Z0 h)
 obtain ⟨h1,h2⟩:=hk
 rw [List.take_succ,h]
 simp [List.flatMap_append]
theorem Quq {d:Nat} {c:Cf} (T:Tr c.2.1) (N:Nm c.2.1):∀ (f:Nat) (i:Int) (p:Pr) (aJ:Int),vI c.2.1 i->9 - fX c.2.1 i<=f->0<=aJ->aJ+f<=50->p.1=c->p.2.2.1.length+(dm c.2.1 f i).length<=500->p.2.2.2.1.length=c.2.1.length->p.2.2.2.2.length=c.2.1.length->p.2.1.length+2*(dm c.2.1 f i).length<=900 ->
  Ok (B8 (d+4+f) p i aJ) fun r=>r.1=c/\r.2.2.1=p.2.2.1++dm c.2.1 f i/\r.2.2.2.1.length=c.2.1.length/\r.2.2.2.2.length=c.2.1.length/\r.2.1.length<=p.2.1.length+2*(dm c.2.1 f i).length
 | 0,i,p,aJ,hv,hf,_,_,_,_,_,_,_=>by have:=(T.GL i hv).1;unfold fX at *;omega
 | f+1,i,p,aJ,hv,hf,wm,oy,hp,ho,h1,h2,h3=>by
  have iE:=T.fF
  obtain ⟨pc,ls,o,f1,l1⟩:=p
  simp only at hp ho h1 h2 h3
  subst hp
  have hg:=fA hv
  have hm:=Zc hg
  have UT:=hv.2
  have hva:=hv.1
  have hlen:0 < (dm pc.2.1 (f+1) i).length:=by simp [dm]
  rw [show d+4+(f+1)=(d+4+f)+1 by omega,TT]
  simp only []
  have I9:Ga (d+4+f) pc i=some (gV pc.2.1 (aU pc.2.1 i).1):=by
   have:=Ou (d:=d+f) (c:=pc) (n:=i.toNat) hg (by omega)
   rw [Int.toNat_of_nonneg hv.1,show d+f+4=d+4+f by omega] at this
   exact this
  rw [Z5 hv.1,Q4,hg,Q8,room (by simp;omega),Q4,I9,Q8]
  cases hL:gV pc.2.1 (aU pc.2.1 i).1 with
  | true =>
   rw [Q4]
   have hk:=Qwg hL
   have hw:dm pc.2.1 (f+1) i=[i]:=by simp [dm,hk]
   rw [hw] at h3 ho ⊢
   simp only [Z9,Zb] at h3 ho ⊢
   rw [show d+4+f=(d+1+f)+3 by omega]
   refine Ok.bind (Qba (N.num _ hm)) fun r6 g6=>?_
   refine Ok.cat (by (try simp only [Za,cc,Z9,Zb] at *);omega) (by (try simp only [Za,cc,Z9,Zb] at *);omega) ?_
   obtain ⟨q1,q2⟩:=N.ai _ hm hL
   rw [show d+1+f+3=(d+2+f)+2 by omega]
   refine Ok.bind (Lw q1 q2) fun r7 g7=>?_
   refine Ok.cat (by (try simp only [Za,cc,Z9,Zb] at *);omega) (by (try simp only [Za,cc,Z9,Zb] at *);omega) ?_
   refine Ok.cat (by (try simp only [Za,cc,Z9,Zb] at *);omega) (by (try simp only [Za,cc,Z9,Zb] at *);omega) ?_
   refine Ok.bind (I8 wm (by omega) (by (try simp only [Za,cc,Z9,Zb] at *);omega) (by simp only;omega)) fun r8 g8=>?_
   obtain ⟨a1,a2,a3⟩:=g8
   obtain ⟨rc,rl,ro,rf,rr⟩:=r8
   simp only at a1 a2 a3
   subst a1
   injection a3 with a3 a4
   injection a4 with a4 a5
   subst a3 a4 a5
   simp only []
   have ga:i.toNat < rf.length:=by omega
   have so:i.toNat < rr.length:=by omega
   rw [Q4,Qo ga,Q4,Z6 ga,Q8]
   refine Qup hv.1 so ⟨rfl,rfl,?_,?_,?_⟩
   .simp only [List.length_set];exact h1
   .simp only [List.length_set];exact h2
   .simp only;omega
  | false =>
   rw [Q5,show d+4+f=(d+1+f)+3 by omega]
   refine Ok.bind (Qba (N.num _ hm)) fun o_ g10=>?_
   refine Ok.cat (by (try simp only [Za,cc,Z9,Zb] at *);omega) (by (try simp only [Za,cc,Z9,Zb] at *);omega) ?_
   rw [show d+1+f+3=(d+2+f)+2 by omega]
   refine Ok.bind (I8 wm (by omega) (by (try simp only [Za,cc,Z9,Zb] at *);omega) (by simp only;omega)) fun r8 g8=>?_
   obtain ⟨a1,a2,a3⟩:=g8
   obtain ⟨rc,rl,ro,rf,rr⟩:=r8
   simp only at a1 a2 a3
   subst a1
   injection a3 with a3 a4
   injection a4 with a4 a5
   subst a3 a4 a5
   simp only []
   have ga:i.toNat < rf.length:=by omega
   rw [Q4,Qo ga,Q4,Z6 ga,Q8]
   have sq:ye (d+2+f+2) rc i=some (cg rc.2.1 i):=by
    have:=ZP (d:=d+f+3) (c:=rc) (n:=i.toNat) hg (by omega)
    rw [Int.toNat_of_nonneg hv.1,show d+f+3+1=d+2+f+2 by omega] at this
    exact this
   rw [sq,Q8]
   have hkl:=UP T (i:=i)
   have hw:dm rc.2.1 (f+1) i=i::(cg rc.2.1 i).flatMap (dm rc.2.1 f):=rfl
   have UU:∀ k,((cg rc.2.1 i).take k).flatMap (dm rc.2.1 f)++((cg rc.2.1 i).drop k).flatMap (dm rc.2.1 f)=(cg rc.2.1 i).flatMap (dm rc.2.1 f):=fun k=>by rw [<- List.flatMap_append,List.take_append_drop]
   have UW:∀ k,(((cg rc.2.1 i).take k).flatMap (dm rc.2.1 f)).length+(((cg rc.2.1 i).drop k).flatMap (dm rc.2.1 f)).length=((cg rc.2.1 i).flatMap (dm rc.2.1 f)).length:=fun k=>by rw [<- UU k,Zf]
   rw [hw,Z9] at ho h3
   refine OW (fun (t:Pr) (k:Int)=>(k,t)) (cg rc.2.1 i) (fun k t=>t.1=rc/\t.2.2.1=o++[i]++((cg rc.2.1 i).take k).flatMap (dm rc.2.1 f)/\t.2.2.2.1.length=rc.2.1.length/\t.2.2.2.2.length=rc.2.1.length/\t.2.1.length<=ls.length+1+2*(((cg rc.2.1 i).take k).flatMap (dm rc.2.1 f)).length) ?_ ?_ Qd 0 _ (by rw [Q6];omega) (by omega) ⟨rfl,by simp,by simp only [List.length_set];exact h1,h2,by simp only;rw [a2];simp⟩
   .rintro ag ⟨yc,yl,yo,yf,yr⟩ k x hx ⟨b1,b2,b3,b4,b5⟩ er
    simp only at b1 b2 b3 b4 b5
    subst b1
    have hk:=(Z0 hx).1
    obtain ⟨v1,v2,v3⟩:=qH T hv (Zc hx)
    simp only [qk,bW hx,nn,Q3,hx,Q8,Q4,tj hx]
    have hdr:(cg yc.2.1 i).drop k=x::(cg yc.2.1 i).drop (k+1):=by
     rw [List.drop_eq_getElem_cons hk,(Z0 hx).2]
    have hq:=UW k
    rw [hdr,List.flatMap_cons,Zf] at hq
    rw [aN (by omega),wr (n:=aJ+1) (by omega) (by omega),show d+2+f+2=d+4+f by omega]
    refine Ok.bind (Quq T N f x (yc,yl,yo,yf,yr) (aJ+1) v1 (by omega) (by omega) (by omega) rfl ?_ b3 b4 ?_) fun r hr=>?_
    .simp only;rw [b2];simp only [Zf,Z9,Zb];omega
    .simp only;omega
    .obtain ⟨c1,c2,c3,c4,c5⟩:=hr
     refine er r ⟨c1,?_,c3,c4,?_⟩
     .rw [c2,Qh8 hx];simp only;rw [b2];simp
     .rw [Qh8 hx,Zf];simp only at c5;omega
   .rintro ag ⟨yc,yl,yo,yf,yr⟩ ⟨b1,b2,b3,b4,b5⟩
    simp only at b1 b2 b3 b4 b5
    subst b1
    simp only [qk,bB,Q5]
    unfold yJ
    rw [List.take_length] at b2 b5
    have hb3:i.toNat < yr.length:=by omega
    refine Ok.bind (I8 wm (by omega) (by decide) (by simp only;omega)) fun r8 g8=>?_
    obtain ⟨e1,e2,e3⟩:=g8
    obtain ⟨rc',rl',ro',rf',rr'⟩:=r8
    simp only at e1 e2 e3
    have Ly:rc'=yc:=e1
    subst Ly
    injection e3 with e3 e4
    injection e4 with e4 e5
    subst e3 e4 e5
    refine Qup hv.1 hb3 ⟨rfl,?_,b3,?_,?_⟩
    .rw [b2,hw];simp
    .simp only [List.length_set];exact b4
    .rw [hw,Z9];simp only;omega
theorem sr {a b:Nat} (h:a<=b):Nat.ble a b=true:=Lj h
theorem Qh9 {β:Type} {n:Nat} {a b:Option β} (h:n=0->a=b):IW n a b=b:=by
 cases n with
 | zero=>rw [h rfl];simp [IW,both]
 | succ n=>rfl
theorem Sg {d:Nat} {l:List dV} (hl:l.length<=2000000):yp (d+1) l=some l:=by
 rw [Tz,Qh9 (fun h=>?_),room (by simp;omega),Q4,List.nil_append]
 rw [Z1 h];rfl
theorem YU {d:Nat} {l:List aC} (hl:l.length<=1000):BY (d+1) l=some l:=by
 rw [Tx,Qh9 (fun h=>?_),room (by simp;omega),Q4,List.nil_append]
 rw [Z1 h];rfl
theorem Qz5 {d n:Nat} (hn:n<=40):Gj (d+2) (IntKind.u64.wrap ((([(-1:Int)].length:Nat):Int))) (IntKind.u64.wrap (n:Int))=some (0,(n:Int)):=by
 rw [TK,TJ,Q8]
 obtain ⟨m,rfl⟩:∃ m:Fin 41,n=m.val:=⟨⟨n,by omega⟩,rfl⟩
 clear hn
 revert m
 decide +kernel
theorem Qpa {d n:Nat} (hn:n<=40):yI (d+3) [(-1)] ((n:Nat):Int)=some (List.replicate n (-1)):=by
 rw [TL,Z4 (show ¬ ((n:Nat):Int) < 0 by omega),Q5,Qz5 hn,Q8]
 simp only
 rw [show decide ((0:Int) > 0)=false from rfl,Q5,Z4 (show ¬ ((n:Nat):Int) > 9223372036854775807 by omega)]
 unfold qi
 rw [Q5]
 simp only
 rw [wr (n:=(n:Int)) (by omega) (by omega),nn,Q4,Q4,Q3]
 have bh:(Nat.ble n n&&Nat.ble (n*8) Q7)=true:=by rw [sr (Zd _),sr (show n*8<=Q7 by unfold Q7;omega)];rfl
 rw [bh,Q4]
 refine Ok.val (mo (fun j s=>∃ k:Nat,k+j=n/\(n=0\/0 < k)/\s.1=(k:Int)/\s.2=List.replicate k (-1)++List.replicate (n - k) 0) ?_ _ (n - min 1 n) _ (by rw [Q6];omega) ⟨min 1 n,by omega,by omega,by simp,?_⟩)
 .rintro j ⟨x,l⟩ ag ⟨k,hk,eN,h1,h2⟩ er
  simp only at h1 h2
  subst h1
  have hl:l.length=n:=by rw [h2];simp;omega
  simp only [yH]
  rw [hl]
  rcases Nat.lt_or_ge k n with au | s_
  .have e1:(l.take k).length=k:=by simp;omega
   rw [Z5 (show ((k:Nat):Int) < ((n:Nat):Int) by omega),Q4,nn,Q4,Q3,sr (show k<=n by omega),Q4,Q4,Q4,Zo,e1,wr (by omega) (by omega)]
   refine er (n - (k+min k (n - k))) _ (by omega) ⟨k+min k (n - k),by omega,by omega,by simp,?_⟩
   simp only [mT]
   rw [e1,h2]
   have t1:(List.replicate k (-1:Int)++List.replicate (n - k) 0).take k=List.replicate k (-1):=by rw [List.take_left' (by simp)]
   have t2:(List.replicate k (-1:Int)).take (n - k)=List.replicate (min k (n - k)) (-1):=by rw [List.take_replicate,Nat.min_comm]
   have t3:(List.replicate k (-1:Int)++List.replicate (n - k) 0).drop (k+min k (n - k))=List.replicate (n - (k+min k (n - k))) 0:=by
    rw [List.drop_append,List.drop_of_length_le (by simp),List.nil_append,List.drop_replicate]
    congr 1
    simp;omega
   rw [t1,t2,t3,<- List.replicate_append_replicate]
  .have:k=n:=by omega
   subst this
   rw [bB,Q5]
   unfold yG
   exact Ok.some (by rw [h2];simp)
 .simp only [mT,List.take_zero,List.nil_append,Zo]
  rcases Nat.eq_zero_or_pos n with e | e
  .subst e;rfl
  .rw [show min 1 n=1 by omega]
   rw [Zs (by simp;omega),List.drop_replicate]
   simp only [List.length_replicate,List.length_singleton]
   rw [show min 1 n=1 by omega];rfl
def jL (p:Nat->Int):Nat->Int->Int
 | 0,_=>-1
 | k+1,q=>if p k=q then (k:Int) else jL p k q
def kH (p:Nat->Int):Nat->Int->Int
 | 0,_=>-1
 | k+1,q=>if p k=q/\jL p k q < 0 then (k:Int) else kH p k q
def jM (p:Nat->Int):Nat->Int->Int
 | 0,_=>-1
 | k+1,q=>if 0<=p k/\jL p k (p k)=q then (k:Int) else jM p k q
theorem Ch (p:Nat->Int) (q:Int):∀ m,(jL p m q=-1/\∀ j,j < m->p j≠q)\/∃ r:Nat,jL p m q=(r:Int)/\r < m/\p r=q/\∀ j,r < j->j < m->p j≠q
 | 0=>.inl ⟨rfl,fun j h=>by omega⟩
 | m+1=>by
  simp only [jL]
  by_cases h:p m=q
  .rw [if_pos h];exact .inr ⟨m,rfl,by omega,h,fun j h1 h2=>by omega⟩
  .rw [if_neg h]
   rcases Ch p q m with ⟨h1,h2⟩ | ⟨r,h1,h2,h3,h4⟩
   .refine .inl ⟨h1,fun j hj=>?_⟩
    rcases Nat.lt_or_ge j m with g | g
    .exact h2 j g
    .obtain rfl:j=m:=by omega
     exact h
   .refine .inr ⟨r,h1,by omega,h3,fun j g1 g2=>?_⟩
    rcases Nat.lt_or_ge j m with g | g
    .exact h4 j g1 g
    .obtain rfl:j=m:=by omega
     exact h
theorem UX (p:Nat->Int) (q:Int):∀ m,(kH p m q=-1/\∀ j,j < m->p j≠q)\/∃ r:Nat,kH p m q=(r:Int)/\r < m/\p r=q/\∀ j,j < r->p j≠q
 | 0=>.inl ⟨rfl,fun j h=>by omega⟩
 | m+1=>by
  simp only [kH]
  by_cases h:p m=q/\jL p m q < 0
  .rw [if_pos h]
   refine .inr ⟨m,rfl,by omega,h.1,?_⟩
   rcases Ch p q m with ⟨_,h2⟩ | ⟨r,h1,_⟩
   .exact h2
   .omega
  .rw [if_neg h]
   rcases UX p q m with ⟨h1,h2⟩ | ⟨r,h1,h2,h3,h4⟩
   .refine .inl ⟨h1,fun j hj=>?_⟩
    rcases Nat.lt_or_ge j m with g | g
    .exact h2 j g
    .obtain rfl:j=m:=by omega
     intro e
     refine h ⟨e,?_⟩
     rcases Ch p q j with ⟨g1,_⟩ | ⟨r,g1,g2,g3,_⟩
     .omega
     .exact absurd g3 (h2 r g2)
   .exact .inr ⟨r,h1,by omega,h3,h4⟩
theorem UY (p:Nat->Int) (k:Nat) (hk:0<=p k):∀ m,(jM p m k=-1/\∀ j,k < j->j < m->p j≠p k)\/∃ r:Nat,jM p m k=(r:Int)/\k < r/\r < m/\p r=p k/\∀ j,k < j->j < r->p j≠p k
 | 0=>.inl ⟨rfl,fun j _ h=>by omega⟩
 | m+1=>by
  simp only [jM]
  by_cases h:0<=p m/\jL p m (p m)=(k:Int)
  .rw [if_pos h]
   rcases Ch p (p m) m with ⟨g1,_⟩ | ⟨r,g1,g2,g3,g4⟩
   .omega
   .obtain rfl:r=k:=by omega
    exact .inr ⟨m,rfl,g2,by omega,g3.symm,fun j h1 h2=>by rw [g3];exact g4 j h1 h2⟩
  .rw [if_neg h]
   rcases UY p k hk m with ⟨h1,h2⟩ | ⟨r,h1,h2,h3,h4,h5⟩
   .refine .inl ⟨h1,fun j g1 g2=>?_⟩
    rcases Nat.lt_or_ge j m with g | g
    .exact h2 j g1 g
    .obtain rfl:j=m:=by omega
     intro e
     refine h ⟨by omega,?_⟩
     rw [e]
     rcases Ch p (p k) j with ⟨_,q2⟩ | ⟨r,q1,q2,q3,q4⟩
     .exact absurd rfl (q2 k g1)
     .rcases Nat.lt_trichotomy r k with q | q | q
      .exact absurd rfl (q4 k q g1)
      .rw [q1,q]
      .exact absurd q3 (h2 r q q2)
   .exact .inr ⟨r,h1,h2,by omega,h4,h5⟩
theorem Qur (p:Nat->Int) (k:Nat) (hk:p k < 0):∀ m,jM p m k=-1
 | 0=>rfl
 | m+1=>by
  simp only [jM]
  rw [if_neg,Qur p k hk m]
  rintro ⟨h1,h2⟩
  rcases Ch p (p m) m with ⟨g1,_⟩ | ⟨r,g1,g2,g3,g4⟩
  .omega
  .obtain rfl:r=k:=by omega
   omega
def pF (l:List aC) (k:Nat):Int:=pW l (bN l ((aG l).getD k 0))
theorem Lz {l:List aC} (T:Tr l) {a b:Nat} {x y:Int} (ha:(aG l)[a]? = some x) (hb:(aG l)[b]? = some y) (h:a < b) (hp:bN l x=bN l y):x < y:=by
 have:=List.pairwise_iff_getElem.1 (Qh0 T)
 obtain ⟨a1,a2⟩:=Z0 ha
 obtain ⟨b1,b2⟩:=Z0 hb
 have h1:=this a b a1 b1 h
 rw [a2,b2] at h1
 exact h1 hp
theorem LA {l:List aC} {k:Nat} {i:Int} (h:(aG l)[k]? = some i):pF l k=pW l (bN l i):=by
 unfold pF;rw [Zr,h];rfl
theorem Qz6 {l:List aC} (T:Tr l) {x y:Int} (hx:vI l x) (h:pW l x=pW l y):x=y:=by
 obtain ⟨a,a1,a2⟩:=BI T hx
 by_cases hy:vI l y
 .obtain ⟨b,b1,b2⟩:=BI T hy
  have:a=b:=by omega
  subst this
  rw [a1] at b1;injection b1
 .have:pW l y=-1:=Qlg fun hm=>hy ((jI T).1 hm)
  omega
theorem LB {l:List aC} (T:Tr l) {i:Int} (hi:vI l i) {j:Nat} (hj:j < (aG l).length) (h:pF l j=pW l i):∃ x,(aG l)[j]? = some x/\x∈cg l i:=by
 have hg:=Z6 hj
 refine ⟨_,hg,?_⟩
 rw [LA hg] at h
 have:=Qz6 T hi h.symm
 exact (A6 T hi).2 ⟨(jI T).1 (List.getElem_mem hj),this.symm⟩
theorem UZ {l:List aC} (T:Tr l) {i x:Int} (hi:vI l i) (hx:x∈cg l i):∃ m:Nat,(aG l)[m]? = some x/\pW l x=(m:Int)/\m < (aG l).length/\pF l m=pW l i/\bN l x=i:=by
 obtain ⟨v1,v2,_⟩:=qH T hi hx
 obtain ⟨m,m1,m2⟩:=BI T v1
 exact ⟨m,m1,m2,(Z0 m1).1,by rw [LA m1,v2],v2⟩
theorem Qsl {l:List aC} (T:Tr l) {i:Int} (hi:vI l i):kH (pF l) (aG l).length (pW l i)=pW l (vU l i):=by
 unfold vU
 cases hk:cg l i with
 | nil =>
  rw [List.headD_nil,uU T (show (-1:Int) < 0 by omega)]
  rcases UX (pF l) (pW l i) (aG l).length with ⟨h1,_⟩ | ⟨r,h1,h2,h3,_⟩
  .exact h1
  .obtain ⟨x,_,hx⟩:=LB T hi h2 h3
   rw [hk] at hx;simp at hx
 | cons k r0 =>
  rw [List.headD_cons]
  obtain ⟨m,m1,m2,m3,m4,m5⟩:=UZ T hi (show k∈cg l i by rw [hk];simp)
  rw [m2]
  have hs:=Lo (l:=l) (i:=i)
  rw [hk,List.pairwise_cons] at hs
  rcases UX (pF l) (pW l i) (aG l).length with ⟨_,h2⟩ | ⟨r,h1,h2,h3,h4⟩
  .exact absurd m4 (h2 m m3)
  .rw [h1]
   rcases Nat.lt_trichotomy r m with g | g | g
   .obtain ⟨x,x1,x2⟩:=LB T hi h2 h3
    have:=Lz T x1 m1 g (by rw [m5];exact ((A6 T hi).1 x2).2)
    rw [hk] at x2
    rcases Z2 x2 with e | e
    .omega
    .have:=hs.1 x e;omega
   .rw [g]
   .exact absurd m4 (h4 m g)
theorem Qwh {l:List aC} (T:Tr l) {i:Int} (hi:vI l i):jL (pF l) (aG l).length (pW l i)=pW l ((cg l i).getLastD (-1)):=by
 rcases List.eq_nil_or_concat (cg l i) with hk | ⟨K,c,hk⟩
 .rw [hk,List.getLastD_nil,uU T (show (-1:Int) < 0 by omega)]
  rcases Ch (pF l) (pW l i) (aG l).length with ⟨h1,_⟩ | ⟨r,h1,h2,h3,_⟩
  .exact h1
  .obtain ⟨x,_,hx⟩:=LB T hi h2 h3
   rw [hk] at hx;simp at hx
 .rw [List.concat_eq_append] at hk
  rw [hk,List.getLastD_concat]
  obtain ⟨m,m1,m2,m3,m4,m5⟩:=UZ T hi (show c∈cg l i by rw [hk];simp)
  rw [m2]
  have hs:=Lo (l:=l) (i:=i)
  rw [hk,List.pairwise_append] at hs
  rcases Ch (pF l) (pW l i) (aG l).length with ⟨_,h2⟩ | ⟨r,h1,h2,h3,h4⟩
  .exact absurd m4 (h2 m m3)
  .rw [h1]
   rcases Nat.lt_trichotomy r m with g | g | g
   .exact absurd m4 (h4 m g m3)
   .rw [g]
   .obtain ⟨x,x1,x2⟩:=LB T hi h2 h3
    have:=Lz T m1 x1 g (by rw [m5];exact ((A6 T hi).1 x2).2.symm)
    rw [hk] at x2
    rcases List.mem_append.1 x2 with e | e
    .have:=hs.2.2 x e c (by simp);omega
    .simp at e;omega
theorem Qwi {l:List aC} (T:Tr l) {k:Nat} {i:Int} (hk:(aG l)[k]? = some i):jM (pF l) (aG l).length (k:Int)=pW l (uV l i):=by
 have hi:vI l i:=(jI T).1 (Zc hk)
 have hp:pF l k=pW l (bN l i):=LA hk
 unfold uV
 by_cases h0:bN l i < 0
 .rw [if_pos h0,uU T (show (-1:Int) < 0 by omega)]
  exact Qur _ k (by rw [hp,uU T h0];omega) _
 .rw [if_neg h0]
  have hv:=GM (l:=l) (i:=i) (by omega)
  obtain ⟨K1,K2,e⟩:=List.append_of_mem ((A6 T hv).2 ⟨hi,rfl⟩)
  have eN:vT (cg l (bN l i)) i=(K1.length:Int):=sk Qlj (by rw [e];simp)
  obtain ⟨a,_,a2⟩:=BI T hv
  have hs:=Lo (l:=l) (i:=bN l i)
  rw [e,List.pairwise_append,List.pairwise_cons] at hs
  obtain ⟨s1,⟨s2,s3⟩,s4⟩:=hs
  have kid:∀ j,k < j->j < (aG l).length->pF l j=pF l k->∃ x,(aG l)[j]? = some x/\i < x/\x∈K2/\bN l x=bN l i:=by
   intro j h1 h2 h3
   rw [hp] at h3
   obtain ⟨x,x1,x2⟩:=LB T hv h2 h3
   have hpx:=((A6 T hv).1 x2).2
   have au:=Lz T hk x1 h1 hpx.symm
   refine ⟨x,x1,au,?_,hpx⟩
   rw [e] at x2
   rcases List.mem_append.1 x2 with g | g
   .have:=s4 x g i (by simp);omega
   .rcases Z2 g with g | g
    .omega
    .exact g
  rw [eN,Q3,Zr]
  have ah:(cg l (bN l i))[K1.length+1]? = K2[0]?:=by rw [e,Zq (by omega)];simp
  rw [ah]
  cases K2 with
  | nil =>
   rw [show (([]:List Int)[0]?).getD (-1)=-1 from rfl,uU T (show (-1:Int) < 0 by omega)]
   rcases UY (pF l) k (by omega) (aG l).length with ⟨h1,_⟩ | ⟨r,h1,h2,h3,h4,_⟩
   .exact h1
   .obtain ⟨x,_,_,x3,_⟩:=kid r h2 h3 h4
    simp at x3
  | cons y K3 =>
   rw [show ((y::K3)[0]?).getD (-1)=y from rfl]
   obtain ⟨m,m1,m2,m3,m4,m5⟩:=UZ T hv (show y∈cg l (bN l i) by rw [e];simp)
   have hiy:i < y:=s2 y (by simp)
   have AO:k < m:=by
    rcases Nat.lt_trichotomy k m with g | g | g
    .exact g
    .subst g;rw [hk] at m1;injection m1 with m1;omega
    .have:=Lz T m1 hk g m5;omega
   rw [m2]
   rw [List.pairwise_cons] at s3
   rcases UY (pF l) k (by omega) (aG l).length with ⟨_,h2⟩ | ⟨r,h1,h2,h3,h4,h5⟩
   .exact absurd (by rw [m4,hp]) (h2 m AO m3)
   .rw [h1]
    rcases Nat.lt_trichotomy r m with g | g | g
    .obtain ⟨x,x1,x2,x3,x4⟩:=kid r h2 h3 h4
     have:=Lz T x1 m1 g (by rw [x4,m5])
     rcases Z2 x3 with q | q
     .omega
     .have:=s3.1 x q;omega
    .rw [g]
    .exact absurd (by rw [m4,hp]) (h5 m AO g)
theorem Qz7 {l:List aC} (T:Tr l) {k:Nat} {i:Int} (hk:(aG l)[k]? = some i):(cg l i=[]/\nR l k i=(k:Int)+1)\/∃ (m:Nat) (c:Int),(aG l)[m]? = some c/\pW l ((cg l i).getLastD (-1))=(m:Int)/\k < m/\nR l k i=nR l m c:=by
 have hi:vI l i:=(jI T).1 (Zc hk)
 have U0:pW l i=(k:Int):=sk (rG T) hk
 rcases List.eq_nil_or_concat (cg l i) with hn | ⟨K,c,hn⟩
 .refine .inl ⟨hn,?_⟩
  unfold nR
  rw [I6 T hi,hn];simp
 .right
  rw [List.concat_eq_append] at hn
  obtain ⟨A,B,e⟩:=UJ T (fX l i) i (Zd _) hi
  have hc:=(qH T hi (show c∈cg l i by rw [hn];simp)).1
  have es:iR l i=i::(K.flatMap (iR l)++iR l c):=by rw [I6 T hi,hn];simp
  have ec:iR l c=c::(cg l c).flatMap (iR l):=I6 T hc
  have hA:(aG l)[A.length]? = some i:=by rw [e,es];simp
  have hAk:A.length=k:=by have:=sk (rG T) hA;unfold pW at U0;omega
  have e2:aG l=(A++i::K.flatMap (iR l))++(iR l c++B):=by rw [e,es];simp
  have hm:(aG l)[(A++i::K.flatMap (iR l)).length]? = some c:=by
   rw [e2,Zq (Zd _),Nat.sub_self,ec];rfl
  refine ⟨(A++i::K.flatMap (iR l)).length,c,hm,?_,by simp;omega,?_⟩
  .rw [hn,List.getLastD_concat];exact sk (rG T) hm
  .unfold nR
   rw [es]
   simp only [Z9,Zf]
   omega
def tb (n:Nat) (g:Int->Int):List Int:=(List.range n).map fun (q:Nat)=>g (q:Int)
theorem D_ {n:Nat} {g:Int->Int}:(tb n g).length=n:=by simp [tb]
theorem Ci {n:Nat} {g:Int->Int} {q:Nat} (h:q < n):(tb n g)[q]? = some (g (q:Int)):=by simp [tb,h]
theorem Ea {n:Nat} {g h:Int->Int} (e:∀ q:Nat,q < n->g (q:Int)=h (q:Int)):tb n g=tb n h:=by
 unfold tb
 exact List.map_congr_left fun q hq=>e q (List.mem_range.1 hq)
theorem U3 {n:Nat} {g:Int->Int} {q:Nat} {v:Int} (h:q < n):(tb n g).set q v=tb n fun x=>if x=(q:Int) then v else g x:=by
 apply List.ext_getElem?
 intro j
 rcases Nat.lt_or_ge j n with hj | hj
 .rw [Ci hj]
  by_cases hq:j=q
  .subst hq;rw [List.getElem?_set_self (by rw [D_];exact hj),if_pos rfl]
  .rw [List.getElem?_set_ne (by omega),Ci hj,if_neg (by omega)]
 .rw [List.getElem?_eq_none (by rw [List.length_set,D_];exact hj),List.getElem?_eq_none (by rw [D_];exact hj)]
theorem U4 {n:Nat} {v:Int}:List.replicate n v=tb n fun _=>v:=by
 apply List.ext_getElem?
 intro j
 rcases Nat.lt_or_ge j n with hj | hj
 .rw [Ci hj,List.getElem?_replicate,if_pos hj]
 .rw [List.getElem?_eq_none (by simp;exact hj),List.getElem?_eq_none (by rw [D_];exact hj)]
theorem Qus {W:List Int} {g e:Int->Int} (h:∀ (k:Nat) i,W[k]? = some i->g (k:Int)=e i):tb W.length g=W.map e:=by
 apply List.ext_getElem?
 intro j
 rcases Nat.lt_or_ge j W.length with hj | hj
 .rw [Ci hj,List.getElem?_map,Z6 hj,h j _ (Z6 hj)];rfl
 .rw [List.getElem?_eq_none (by rw [D_];exact hj),List.getElem?_eq_none (by simp;exact hj)]
theorem U5 {a v b:Int}:∀ {es:List (Int×Int)},eA (gR es a v) b=if b=a then some v else eA es b
 | []=>by
  by_cases h:b=a
  .rw [if_pos h];simp [gR,eA,h]
  .rw [if_neg h];simp only [gR,eA];rw [show (b==a)=false by simp [h]]
 | (x,u)::r=>by
  simp only [gR]
  by_cases hx:a=x
  .rw [show (a==x)=true by simp [hx]]
   simp only [eA]
   by_cases h:b=a
   .rw [if_pos h,show (b==x)=true by simp [h,hx]]
   .rw [if_neg h,show (b==x)=false by rw [<- hx];simp [h]]
  .rw [show (a==x)=false by simp [hx]]
   simp only [eA]
   by_cases h:b=x
   .rw [show (b==x)=true by simp [h]]
    simp only []
    rw [if_neg (fun e=>hx (by rw [<- e,h]))]
   .rw [show (b==x)=false by simp [h]]
    simp only []
    exact U5
def I_ (l:List aC) (L:List Int) (k:Nat) (es:List (Int×Int)):List (Int×Int):=cF (fun i k es=>gR es (aU l i).1 ((k:Nat):Int)) L k es
theorem U6 {l:List aC} {id:Int}:∀ (L:List Int) (k:Nat) (es:List (Int×Int)),(∀ y∈L,(aU l y).1≠id)->eA (I_ l L k es) id=eA es id
 | [],k,es,_=>rfl
 | x::r,k,es,h=>by
  show eA (I_ l r (k+1) (gR es (aU l x).1 (k:Int))) id=_
  rw [U6 r (k+1) _ (fun y hy=>h y (by simp [hy])),U5,if_neg (fun e=>h x (by simp) e.symm)]
theorem Qz8 {l:List aC}:∀ (L:List Int) (k:Nat) (es:List (Int×Int)) (j:Nat) (x:Int),L[j]? = some x->(∀ y∈L.drop (j+1),(aU l y).1≠(aU l x).1)->eA (I_ l L k es) (aU l x).1=some ((k+j:Nat):Int)
 | [],k,es,j,x,h,_=>by simp at h
 | y::r,k,es,0,x,h,hn=>by
  simp only [List.getElem?_cons_zero,Option.some.injEq] at h
  subst h
  show eA (I_ l r (k+1) (gR es (aU l y).1 (k:Int))) _=_
  rw [U6 r (k+1) _ (by simpa using hn),U5,if_pos rfl,Nat.add_zero]
 | y::r,k,es,j+1,x,h,hn=>by
  show eA (I_ l r (k+1) (gR es (aU l y).1 (k:Int))) _=_
  rw [Qz8 r (k+1) _ j x (by simpa using h) (by simpa using hn)]
  congr 2;omega
def A7 (l:List aC):List (Int×Int):=I_ l (aG l) 0 []
theorem OX {l:List aC} (T:Tr l) {id:Int}:eA (A7 l) id=if 0<=bP l id then some (pW l (bP l id)) else none:=by
 unfold A7
 by_cases h:0<=bP l id
 .rw [if_pos h]
  have hv:vI l (bP l id):=⟨h,BL⟩
  obtain ⟨k,x,h1,h2,h3⟩:=wM h
  obtain ⟨j,j1,j2⟩:=BI T hv
  have e:(aU l (bP l id)).1=id:=by rw [h1,jU h2,h3]
  have:=Qz8 (l:=l) (aG l) 0 [] j _ j1 (fun y hy=>by
   intro e2
   have hyW:=List.mem_of_mem_drop hy
   have:=T.inj _ _ ((jI T).1 hyW) hv e2
   subst this
   obtain ⟨q,hq⟩:=List.getElem?_of_mem hy
   rw [Zp] at hq
   have h1:=sk (rG T) hq
   have h2:=sk (rG T) j1
   omega)
  rw [e] at this
  rw [this,j2,Zo]
 .rw [if_neg h]
  rw [U6 (aG l) 0 [] (fun y hy=>UA.1 (by omega) _ (Zc (fA ((jI T).1 hy))))]
  rfl
theorem U7 {α τ β:Type} {f:α->Nat->τ->τ} {step:α->Nat->τ->(τ->Option β)->Option β} {fin:τ->Option β} (I:Nat->τ->Prop):∀ (l:List α) (i:Nat) (t:τ),I i t->(∀ j x t k,l[j]? = some x->I (i+j) t->step x (i+j) t k=k (f x (i+j) t)/\I (i+j+1) (f x (i+j) t))->ef step fin l i t=fin (cF f l i t)
 | [],i,t,_,_=>rfl
 | x::r,i,t,hI,h=>by
  simp only [ef,cF]
  obtain ⟨h1,h2⟩:=h 0 x t (fun t'=>ef step fin r (i+1) t') rfl hI
  rw [Nat.add_zero] at h1 h2
  rw [h1]
  exact U7 I r (i+1) _ h2 (fun j y t k hy ht=>by
   have:=h (j+1) y t k (by simpa using hy)
   rw [show i+(j+1)=i+1+j by omega] at this
   exact this ht)
theorem Qdc {α σ τ:Type} {f:α->Nat->σ->σ} {g:α->Nat->τ->τ}:∀ (l:List α) (i:Nat) (a:σ) (b:τ),cF (fun x k (t:σ×τ)=>(f x k t.1,g x k t.2)) l i (a,b)=(cF f l i a,cF g l i b)
 | [],_,_,_=>rfl
 | x::r,i,a,b=>by simp only [cF];exact Qdc r (i+1) _ _
theorem Qhc {α γ:Type} {e:α->γ}:∀ (l:List α) (i:Nat) (a:List γ),cF (fun x _ t=>t++[e x]) l i a=a++l.map e
 | [],_,a=>by simp [cF]
 | x::r,i,a=>by simp only [cF];rw [Qhc r (i+1)];simp
def jN (p:Nat->Int) (n k:Nat):List Int:=(List.range k).map p++List.replicate (n - k) 0
theorem Qwk {p:Nat->Int} {n k:Nat} (h:k<=n):(jN p n k).length=n:=by simp [jN];omega
theorem Qpf {p:Nat->Int} {n k:Nat} (h:k < n):(jN p n k).set k (p k)=jN p n (k+1):=by
 unfold jN
 rw [show n - k=(n - (k+1))+1 by omega,List.replicate_succ,List.set_append_right _ _ (by simp),List.length_map,List.length_range,Nat.sub_self,List.set_cons_zero,List.range_succ]
 simp
theorem Qut {d:Nat} {l:List aC} (T:Tr l) {kx:List Int->List Int->List Int->List Int->Option Ld}:∀ (m k fuel:Nat),k+m=(aG l).length->m < fuel ->
  Q9 (hU d (A7 l) ((aG l).map (aU l)) kx) fuel ((k:Int),tb (aG l).length (kH (pF l) k),tb (aG l).length (jM (pF l) k),jN (pF l) (aG l).length k,tb (aG l).length (jL (pF l) k))=kx (tb (aG l).length (jL (pF l) (aG l).length)) (tb (aG l).length (kH (pF l) (aG l).length)) (tb (aG l).length (jM (pF l) (aG l).length)) (jN (pF l) (aG l).length (aG l).length)
 | m,k,0,_,h=>by omega
 | 0,k,fuel+1,hk,_=>by
  rw [Nat.add_zero] at hk
  subst hk
  simp only [Q9,hU,List.length_map]
  rw [bB,Q5]
 | m+1,k,fuel+1,hk,hf=>by
  have mV:k < (aG l).length:=by omega
  have hW:=GQ T
  have iE:=T.fF
  have hg:=Z6 mV
  have hi:=(jI T).1 (Zc hg)
  have next:=Qut (d:=d) T (kx:=kx) m (k+1) fuel (by omega) (by omega)
  have hp:=LA hg
  simp only [Q9,hU,List.length_map]
  rw [Z5 (show (k:Int) < (((aG l).length:Nat):Int) by omega),Q4,nn,Q4,Q3,Qo mV,Q4,List.getElem?_map,hg,Option.map_some,Q8,OX T]
  rw [show bP l (aU l (aG l)[k]).2.1=bN l (aG l)[k] from rfl]
  have iN:(jN (pF l) (aG l).length k).length=(aG l).length:=Qwk (by omega)
  have hpg:(jN (pF l) (aG l).length k)[k]? = some ((jN (pF l) (aG l).length k)[k]'(by omega)):=Z6 (by omega)
  by_cases h0:0<=bN l (aG l)[k]
  .rw [if_pos h0]
   have hv:=GM h0
   obtain ⟨a,a1,a2⟩:=BI T hv
   have ha:=(Z0 a1).1
   rw [a2] at hp
   rw [a2]
   simp only [Option.isSome_some,Zl,Q5,Option.getD_some,nn,Q4,Q3,D_]
   rw [iN,Qo mV,Q4,hpg,Q8,Qo ha,Q4,Ci ha,Q8]
   have e3:(jN (pF l) (aG l).length k).set k (a:Int)=jN (pF l) (aG l).length (k+1):=by rw [<- hp];exact Qpf mV
   have e4:(tb (aG l).length (jL (pF l) k)).set a (k:Int)=tb (aG l).length (jL (pF l) (k+1)):=by
    rw [U3 ha]
    refine Ea fun q hq=>?_
    simp only [jL]
    rw [hp]
    by_cases h:(q:Int)=(a:Int)
    .rw [if_pos h,if_pos h.symm]
    .rw [if_neg h,if_neg (fun e=>h e.symm)]
   have tail:∀ (b:Bool) (X Y:List Int),lY d (A7 l) (Q9 (hU d (A7 l) ((aG l).map (aU l)) kx) fuel) (k:Int) (jN (pF l) (aG l).length k) (tb (aG l).length (jL (pF l) k)) (aU l (aG l)[k]) b X Y=Q9 (hU d (A7 l) ((aG l).map (aU l)) kx) fuel (((k+1:Nat):Int),X,Y,jN (pF l) (aG l).length (k+1),tb (aG l).length (jL (pF l) (k+1))):=by
    intro b X Y
    unfold lY
    rw [OX T,show bP l (aU l (aG l)[k]).2.1=bN l (aG l)[k] from rfl,if_pos h0,a2]
    simp only [Option.getD_some,nn,Q4,Q3,D_]
    rw [Qo ha,Q4,Ci ha,Q8,aN (by omega),e3,e4]
   rcases Ch (pF l) (a:Int) k with ⟨g1,g2⟩ | ⟨r,g1,g2,g3,g4⟩
   .rw [g1,Z5 (show (-1:Int) < 0 by omega),Q4,Ci ha,Q8,tail]
    rw [show (tb (aG l).length (kH (pF l) k)).set a (k:Int)=tb (aG l).length (kH (pF l) (k+1)) by
     rw [U3 ha]
     refine Ea fun q hq=>?_
     simp only [kH]
     rw [hp]
     by_cases h:(q:Int)=(a:Int)
     .rw [if_pos h,h,if_pos ⟨rfl,by omega⟩]
     .rw [if_neg h,if_neg (fun e=>h e.1.symm)]]
    rw [show tb (aG l).length (jM (pF l) k)=tb (aG l).length (jM (pF l) (k+1)) by
     refine Ea fun q hq=>?_
     simp only [jM]
     rw [hp,g1,if_neg (by omega)]]
    exact next
   .have U8:r < (aG l).length:=by omega
    rw [g1,Z4 (show ¬ (r:Int) < 0 by omega),Q5,Q4,Q8,nn,Q4,Q3,Qo U8,Q4,Ci U8,Q8,tail]
    rw [show (tb (aG l).length (jM (pF l) k)).set r (k:Int)=tb (aG l).length (jM (pF l) (k+1)) by
     rw [U3 U8]
     refine Ea fun q hq=>?_
     simp only [jM]
     rw [hp,g1]
     by_cases h:(q:Int)=(r:Int)
     .rw [if_pos h,if_pos ⟨by omega,h.symm⟩]
     .rw [if_neg h,if_neg (fun e=>h e.2.symm)]]
    rw [show tb (aG l).length (kH (pF l) k)=tb (aG l).length (kH (pF l) (k+1)) by
     refine Ea fun q hq=>?_
     simp only [kH]
     rw [hp,if_neg]
     rintro ⟨e1,e2⟩
     rw [<- e1,g1] at e2;omega]
    exact next
  .rw [if_neg h0]
   have OY:pF l k=-1:=by rw [hp];exact uU T (by omega)
   have e3:(jN (pF l) (aG l).length k).set k (-1)=jN (pF l) (aG l).length (k+1):=by rw [<- OY];exact Qpf mV
   simp only [Option.isSome_none,Bool.not_false,Q4]
   rw [iN,Qo mV,Q4,hpg,Q8,aN (by omega),e3]
   rw [show tb (aG l).length (kH (pF l) k)=tb (aG l).length (kH (pF l) (k+1)) by
    refine Ea fun q hq=>?_
    simp only [kH]
    rw [OY,if_neg (by omega)]]
   rw [show tb (aG l).length (jM (pF l) k)=tb (aG l).length (jM (pF l) (k+1)) by
    refine Ea fun q hq=>?_
    simp only [jM]
    rw [OY,if_neg (by omega)]]
   rw [show tb (aG l).length (jL (pF l) k)=tb (aG l).length (jL (pF l) (k+1)) by
    refine Ea fun q hq=>?_
    simp only [jL]
    rw [OY,if_neg (by omega)]]
   exact next
def j8 (l:List aC):List Int:=(aG l).mapIdx (nR l)
theorem OZ {l:List aC}:(j8 l).length=(aG l).length:=by simp [j8]
theorem Qpg {l:List aC} {k:Nat} {i:Int} (h:(aG l)[k]? = some i):(j8 l)[k]? = some (nR l k i):=by simp [j8,h]
theorem Quu {d:Nat} {l:List aC} (T:Tr l) {kx:List Int->Option Ld}:∀ (m fuel:Nat),m<=(aG l).length->m < fuel ->
  Q9 (lX d (tb (aG l).length (jL (pF l) (aG l).length)) kx) fuel ((m:Int) - 1,List.replicate m 0++(j8 l).drop m)=kx (j8 l)
 | m,0,_,h=>by omega
 | 0,fuel+1,_,_=>by
  simp only [Q9,lX]
  rw [Z4 (by omega),Q5];rfl
 | k+1,fuel+1,hk,hf=>by
  have mV:k < (aG l).length:=by omega
  have hW:=GQ T
  have iE:=T.fF
  have hg:=Z6 mV
  have hi:=(jI T).1 (Zc hg)
  have U0:pW l (aG l)[k]=(k:Int):=sk (rG T) hg
  have next:=Quu (d:=d) T (kx:=kx) k fuel (by omega) (by omega)
  have hlen:(List.replicate (k+1) (0:Int)++(j8 l).drop (k+1)).length=(aG l).length:=by simp [OZ];omega
  have ju:=Qwh T hi
  rw [U0] at ju
  have qI:∀ u v:Int,((List.replicate (k+1) (0:Int)++(j8 l).drop (k+1)).set k u).set k v=List.replicate k 0++v::(j8 l).drop (k+1):=by
   intro u v
   rw [List.set_set,List.set_append_left _ _ (by simp),List.replicate_succ',List.set_append_right _ _ (by simp)]
   simp
  have nv:∀ v:Int,(List.replicate (k+1) (0:Int)++(j8 l).drop (k+1)).set k v=List.replicate k 0++v::(j8 l).drop (k+1):=by
   intro v
   rw [List.set_append_left _ _ (by simp),List.replicate_succ',List.set_append_right _ _ (by simp)]
   simp
  have Eb:nR l k (aG l)[k]::(j8 l).drop (k+1)=(j8 l).drop k:=by
   have zM:k < (j8 l).length:=by rw [OZ];exact mV
   rw [List.drop_eq_getElem_cons zM]
   have:=Qpg hg
   rw [Z6 zM] at this
   injection this with this
   rw [this]
  simp only [Q9,lX,D_]
  rw [show (((k+1:Nat):Int) - 1)=(k:Int) by omega,Z5 (show (k:Int)>=0 by omega)]
  simp only [nn,Q4,Q3]
  rw [hlen,Qo mV,Q4,Z6 (show k < (List.replicate (k+1) (0:Int)++(j8 l).drop (k+1)).length by omega),Q8,Q4,Ci mV,Q8,ju,aN (by omega),wr (n:=(k:Int) - 1) (by omega) (by omega)]
  rcases Qz7 T hg with ⟨e1,e2⟩ | ⟨m,c,e1,e2,e3,e4⟩
  .rw [e1,List.getLastD_nil,uU T (show (-1:Int) < 0 by omega),Z4 (show ¬ (-1:Int)>=0 by omega),Q5,nv,show ((k+1:Nat):Int)=nR l k (aG l)[k] by rw [e2];omega,Eb]
   exact next
  .have hm:=(Z0 e1).1
   rw [e2,Z5 (show (m:Int)>=0 by omega),Q4,Q8]
   simp only [nn,Q4,Q3,List.length_set]
   rw [hlen,Qo hm,Q4,nv]
   have hgm:(List.replicate k (0:Int)++((k+1:Nat):Int)::(j8 l).drop (k+1))[m]? = some (nR l m c):=by
    rw [Zq (by simp;omega),List.length_replicate,show m - k=(m - (k+1))+1 by omega,List.getElem?_cons_succ,Zp,show k+1+(m - (k+1))=m by omega]
    exact Qpg e1
   rw [hgm,Q8]
   have gd:(List.replicate k (0:Int)++((k+1:Nat):Int)::(j8 l).drop (k+1)).length=(aG l).length:=by simp [OZ];omega
   rw [Z6 (show k < (List.replicate k (0:Int)++((k+1:Nat):Int)::(j8 l).drop (k+1)).length by omega),Qo mV,Q4,Q8]
   have e5:(List.replicate k (0:Int)++((k+1:Nat):Int)::(j8 l).drop (k+1)).set k (nR l m c)=List.replicate k 0++(j8 l).drop k:=by
    rw [List.set_append_right _ _ (by simp),List.length_replicate,Nat.sub_self,List.set_cons_zero,<- e4,Eb]
   rw [e5]
   exact next
theorem Qwl {d:Nat} {c:Cf} (hl:c.2.1.length<=1000):Gk (d+3) c=some (jK c.2.1):=by
 rw [TU]
 refine (Qc (fun (t:Int) (i:Int)=>(t,i)) c.2.1 (fun x i t k=>aa (x.2.1==0) (some ((i:Nat):Int)) (k t)) (fun _=>some (-1)) ?_ ?_ (by rw [Q6];omega) 0).trans (DZ c.2.1 0 _)
 .intro ag t i x hx;have hi:=(Z0 hx).1;simp only [fV,bW hx,nn,Q3,hx,Q8,Q4];rw [aN (by omega)]
 .intro ag t;simp only [fV,bB,Q5];rfl
theorem Qln {c:Cf} (G:Gd c) {id:Int} (h:vI c.2.1 (bP c.2.1 id)):1<=id/\id<=999:=by
 obtain ⟨k,x,h1,h2,h3⟩:=wM h.1
 have hc:=G.cl
 unfold kR rH at hc
 simp only [Z8,Zj,sj] at hc
 have:=hc.2.1 k x h2
 unfold zJ at this
 simp only [Z8,Zj] at this
 omega
theorem Qwm {c:Cf} (G:Gd c):c.1.size<=8:=by
 have:=G.nm
 unfold A5 at this
 simp only [Z8,Zj] at this
 exact this.1.2
theorem Qz9 {d:Nat} {c:Cf} (G:Gd c):Q9 (lV d c (A7 c.2.1) (qn d c (A7 c.2.1))) Qd (0,nS c (aG c.2.1) c.2.2.1 [] (-1))=some (bT c):=by
 have T:=G.tr
 have Fs:=G.f16
 refine (Qc (fun (t:List Int) (k:Int)=>(k,nS c (aG c.2.1) c.2.2.1 t (-1))) c.2.2.1 (fun f _ t k=>aa (Nat.ble ((t.length+[pW c.2.1 (bP c.2.1 f.2.2.2.2)].length)*8) Q7) (k (t++[pW c.2.1 (bP c.2.1 f.2.2.2.2)])) none) (fun t=>some (nS c (aG c.2.1) c.2.2.1 t (vH c))) ?_ ?_ (by rw [Q6];omega) []).trans ?_
 .intro ag t k f hx
  have hk:=(Z0 hx).1
  obtain ⟨v1,_⟩:=G.Lu f (Zc hx)
  simp only [lV,bW hx,nn,Q3,hx,Q8,Q4]
  rw [OX T,if_pos v1.1,aN (by omega)]
  rfl
 .intro ag t
  simp only [lV,bB,Q5]
  unfold qn vH
  by_cases h:c.2.2.2=0
  .rw [show (c.2.2.2 != 0)=false by simp [h],Q5,if_pos h]
  .obtain ⟨v1,_⟩:=G.Kv h
   rw [show (c.2.2.2 != 0)=true by simp [h],Q4,OX T,if_pos v1.1,if_neg h]
   rfl
 .rw [UO (e:=fun f:dV=>pW c.2.1 (bP c.2.1 f.2.2.2.2)) (w:=8) c.2.2.1 0 [] (by simp;omega)]
  rfl
theorem Qsm {d:Nat} {c:Cf} (G:Gd c):jn (d+3) c c.1 (-1) (A7 c.2.1) ((aG c.2.1).map (aU c.2.1)) [] [] [] [] c.2.2.1 []=some (bT c):=by
 have T:=G.tr
 have iE:=T.fF
 have hW:=GQ T
 unfold jn
 rw [List.length_map,show d+3+1=(d+1)+3 by omega,Qpa (by omega),Q8,Q8]
 simp only [nn,Q4,Q3]
 rw [show (Nat.ble (aG c.2.1).length (aG c.2.1).length&&Nat.ble ((aG c.2.1).length*8) Q7)=true by rw [Z8,Nat.ble_eq,Nat.ble_eq];unfold Q7;omega,Q4,Q4,Q8]
 have e0:(List.replicate (aG c.2.1).length (-1:Int))=tb (aG c.2.1).length (kH (pF c.2.1) 0):=U4
 have e1:(List.replicate (aG c.2.1).length (-1:Int))=tb (aG c.2.1).length (jM (pF c.2.1) 0):=U4
 have e2:(List.replicate (aG c.2.1).length (-1:Int))=tb (aG c.2.1).length (jL (pF c.2.1) 0):=U4
 have e3:(List.replicate (aG c.2.1).length (0:Int))=jN (pF c.2.1) (aG c.2.1).length 0:=by simp [jN]
 have st:((0:Int),List.replicate (aG c.2.1).length (-1:Int),List.replicate (aG c.2.1).length (-1:Int),List.replicate (aG c.2.1).length (0:Int),List.replicate (aG c.2.1).length (-1:Int))=(((0:Nat):Int),tb (aG c.2.1).length (kH (pF c.2.1) 0),tb (aG c.2.1).length (jM (pF c.2.1) 0),jN (pF c.2.1) (aG c.2.1).length 0,tb (aG c.2.1).length (jL (pF c.2.1) 0)):=by
  rw [<- e0,<- e1,<- e2,<- e3];rfl
 rw [st,Qut T (aG c.2.1).length 0 Qd (by omega) (by rw [Q6];omega)]
 unfold yL
 rw [List.length_map,Q3,wr (by omega) (by omega)]
 have:=Quu (d:=d+3) T (kx:=qo (d+3) c c.1 (-1) (A7 c.2.1) ((aG c.2.1).map (aU c.2.1)) c.2.2.1 [] (tb (aG c.2.1).length (kH (pF c.2.1) (aG c.2.1).length)) (tb (aG c.2.1).length (jM (pF c.2.1) (aG c.2.1).length)) (jN (pF c.2.1) (aG c.2.1).length (aG c.2.1).length)) (aG c.2.1).length Qd (Zd _) (by rw [Q6];omega)
 rw [show (j8 c.2.1).drop (aG c.2.1).length=[] by rw [<- OZ];exact List.drop_length,List.append_nil] at this
 rw [this]
 unfold qo
 have f1:tb (aG c.2.1).length (kH (pF c.2.1) (aG c.2.1).length)=(aG c.2.1).map (fun i=>pW c.2.1 (vU c.2.1 i)):=Qus fun k i hk=>by
  have hi:=(jI T).1 (Zc hk)
  rw [<- Qsl T hi,show pW c.2.1 i=(k:Int) from sk (rG T) hk]
 have f2:tb (aG c.2.1).length (jM (pF c.2.1) (aG c.2.1).length)=(aG c.2.1).map (fun i=>pW c.2.1 (uV c.2.1 i)):=Qus fun k i hk=>Qwi T hk
 have f3:jN (pF c.2.1) (aG c.2.1).length (aG c.2.1).length=(aG c.2.1).map (fun i=>pW c.2.1 (bN c.2.1 i)):=by
  unfold jN
  rw [Nat.sub_self,List.replicate_zero,List.append_nil]
  apply List.ext_getElem?
  intro j
  rcases Nat.lt_or_ge j (aG c.2.1).length with hj | hj
  .have hg:=Z6 hj
   rw [List.getElem?_map,List.getElem?_map,hg,List.getElem?_range hj]
   simp only [Option.map_some]
   rw [LA hg]
  .rw [List.getElem?_eq_none (by simp;exact hj),List.getElem?_eq_none (by simp;exact hj)]
 rw [f1,f2,f3]
 exact Qz9 G
theorem Qza {d:Nat} {c:Cf} (G:Gd c) {r:Pr} (hr:r.2.2.1=aG c.2.1):Q9 (mc (d+3) c r (jn (d+3) c)) Qd (0,(c.1,[],[],[],[],[],c.2.2.1,[],(-1)),([[([]:List (Int×Int))]]:List (List (List (Int×Int)))))=some (bT c):=by
 have T:=G.tr
 have iE:=T.fF
 have hW:=GQ T
 refine (Qc (fun (t:List aC×List (Int×Int)) (i:Int)=>(i,((c.1,t.1,[],[],[],[],c.2.2.1,[],(-1)):Ld),([[t.2]]:List (List (List (Int×Int)))))) (aG c.2.1) (fun i k t cont=>aa (Nat.ble ((t.1.length+[aU c.2.1 i].length)*64) Q7) (cont (t.1++[aU c.2.1 i],gR t.2 (aU c.2.1 i).1 ((k:Nat):Int))) none) (fun t=>jn (d+3) c c.1 (-1) t.2 t.1 [] [] [] [] c.2.2.1 []) ?_ ?_ (by rw [Q6];omega) ([],[])).trans ?_
 .intro ag t k i hx
  have hk:=(Z0 hx).1
  have hi:=(jI T).1 (Zc hx)
  simp only [mc,hr,bW hx,nn,Q3,hx,Q8,Q4,tj hx]
  rw [Z5 hi.1,Q4,fA hi,Q8,Q4,Q8,aN (by omega)]
  rfl
 .intro ag t
  simp only [mc,hr,bB,Q5]
  rfl
 .rw [U7 (f:=fun (i:Int) k (t:List aC×List (Int×Int))=>(t.1++[aU c.2.1 i],gR t.2 (aU c.2.1 i).1 ((k:Nat):Int))) (fun k t=>t.1.length=k) (aG c.2.1) 0 ([],[]) rfl ?_]
  .rw [Qdc (f:=fun (i:Int) _ (t:List aC)=>t++[aU c.2.1 i]) (g:=fun (i:Int) k (t:List (Int×Int))=>gR t (aU c.2.1 i).1 ((k:Nat):Int)),Qhc,List.nil_append]
   exact Qsm G
  .intro j x t k hx ht
   have hk:=(Z0 hx).1
   rw [Zo] at ht ⊢
   rw [room (by simp;omega),Q4]
   exact ⟨rfl,by simp;omega⟩
theorem YO {d:Nat} {c:Cf} (G:Gd c):Ca (d+14) c=some (bT c):=by
 have T:=G.tr
 have N:=US G.cl
 have iE:=T.fF
 have Fs:=G.f16
 have hn8:=Qwm G
 have GR:(Nat.ble c.2.1.length c.2.1.length&&Nat.ble (c.2.1.length*8) Q7)=true:=by rw [Z8,Nat.ble_eq,Nat.ble_eq];unfold Q7;omega
 obtain ⟨t1,t2,t3,t4⟩:=GO T
 have hwk:=UL T (f:=8) t1
 have tail:∀ s3:ByteArray,s3.size<=1000->Ok (eM (d+12) c c.2.2.1 s3) fun b=>b=bT c:=by
  intro s3 Cj
  unfold eM
  simp only [Q3]
  refine Ok.cat (by omega) (by (try simp only [Za,cc,Z9,Zb] at *);omega) ?_
  refine Ok.bind (I8 (d:=d+10) (by omega) (by omega) (by (try simp only [Za,cc,Z9,Zb] at *);omega) (by simp)) fun r4 hr4=>?_
  obtain ⟨a1,a2,a3⟩:=hr4
  obtain ⟨rc,rl,ro,rf,rr⟩:=r4
  simp only at a1 a2 a3
  injection a3 with a3 a4
  injection a4 with a4 a5
  subst a1 a3 a4 a5
  rw [show d+12=(d+9)+3 by omega,Qwl (by omega),Q8,show d+9+3=d+4+8 by omega]
  refine Ok.bind (Quq T N 8 (jK rc.2.1) _ 1 t1 (by have:=I5 t1;omega) (by omega) (by omega) rfl (by simp;omega) (by simp) (by simp) (by simp only;rw [a2];simp;omega)) fun r6 hr6=>?_
  obtain ⟨b1,b2,b3,b4,b5⟩:=hr6
  simp only [List.nil_append] at b2
  have e0:dm rc.2.1 8 (jK rc.2.1)=aG rc.2.1:=rfl
  rw [e0] at b2 b5 hwk
  refine OW (fun (t:Pr) (k:Int)=>(k,t)) rc.2.2.1 (fun k t=>t.1=rc/\t.2.2.1=aG rc.2.1/\t.2.1.length<=100+k) ?_ ?_ Qd 0 _ (by rw [Q6];omega) (by omega) ⟨b1,b2,by simp at a2 b5;omega⟩
  .rintro ag ⟨yc,yl,yo,yf,yr⟩ k f hx ⟨c1,c2,c3⟩ er
   simp only at c1 c2 c3
   subst c1
   have hk:=(Z0 hx).1
   obtain ⟨v1,v2,v3⟩:=G.Lu f (Zc hx)
   obtain ⟨i1,i2⟩:=Qln G v1
   simp only [fW,bW hx,nn,Q3,hx,Q8,Q4]
   rw [show d+4+8=(d+9)+3 by omega]
   refine Ok.bind (Qh7 v3 (by omega)) fun s hs=>?_
   rw [show d+9+3=(d+10)+2 by omega]
   refine Ok.bind (I8 (by omega) (by omega) (by omega) (by simp only;omega)) fun r8 U9=>?_
   obtain ⟨a1,a2,a3⟩:=U9
   rw [aN (by omega)]
   refine er r8 ⟨a1,?_,?_⟩
   .rw [a3];exact c2
   .simp only at a2;omega
  .rintro ag ⟨yc,yl,yo,yf,yr⟩ ⟨c1,c2,c3⟩
   simp only at c1 c2 c3
   subst c1
   simp only [fW,bB,Q5]
   unfold jo
   rw [show d+4+8=(d+10)+2 by omega]
   refine Ok.bind (I8 (by omega) (by omega) (by decide) (by simp only;omega)) fun r8 U9=>?_
   obtain ⟨a1,a2,a3⟩:=U9
   have bn:r8.2.2.1=aG yc.2.1:=by rw [a3];exact c2
   rw [show d+10+2=(d+9)+3 by omega]
   exact ⟨_,Qza G bn,rfl⟩
 refine Ok.val ?_
 rw [T1,Sg (by omega),Q8]
 simp only [nn,Q4,Q3]
 rw [GR,Q4,Q4]
 refine Ok.cat (by (try simp only [Za,cc,Z9,Zb] at *);omega) (by omega) ?_
 by_cases h:c.2.2.2=0
 .rw [show (c.2.2.2 != 0)=false by simp [h],Q5]
  exact tail _ (by (try simp only [Za,cc,Z9,Zb] at *);omega)
 .obtain ⟨v1,_⟩:=G.Kv h
  obtain ⟨i1,i2⟩:=Qln G v1
  rw [show (c.2.2.2 != 0)=true by simp [h],Q4]
  refine Ok.bind (D9 (d:=d+11) (by omega) (by omega)) fun r3 hr3=>?_
  refine Ok.cat (by (try simp only [Za,cc,Z9,Zb] at *);omega) (by omega) ?_
  refine Ok.cat (by (try simp only [Za,cc,Z9,Zb] at *);omega) (by (try simp only [Za,cc,Z9,Zb] at *);omega) ?_
  exact tail _ (by (try simp only [Za,cc,Z9,Zb] at *);omega)
def dn {α:Type} (key:α->Int) (l:List α):Prop:=l.Pairwise fun x y=>key x<=key y
def Kf {α:Type} (key:α->Int) (k:Int) (l:List α):List α:=l.filter fun x=>decide (key x=k)
structure cV {α:Type} (key:α->Int) (l r:List α):Prop where
 vV:dn key r
 fl:∀ k,Kf key k r=Kf key k l
 perm:r.Perm l
theorem nU {α:Type} {key:α->Int} {k:Int} (a b:List α):Kf key k (a++b)=Kf key k a++Kf key k b:=List.filter_append ..
theorem U_ {α:Type} {key:α->Int} {k:Int} (x:α) (b:List α):Kf key k (x::b)=Kf key k [x]++Kf key k b:=nU [x] b
theorem Qzb {α:Type} {key:α->Int} {k:Int} {a:List α} (h:∀ x∈a,key x≠k):Kf key k a=[]:=by
 unfold Kf;rw [List.filter_eq_nil_iff];intro x hx;simpa using h x hx
theorem O0 {α:Type} {key:α->Int} {k:Int} {a:List α} {x:α}:x∈Kf key k a↔x∈a/\key x=k:=by
 unfold Kf;simp [List.mem_filter]
theorem Vc {α:Type} {key:α->Int} {k:Int} {a b:List α} (h:∀ x∈b,∀ y∈a,key x < key y):Kf key k (b++a)=Kf key k (a++b):=by
 rw [nU,nU]
 by_cases hb:∃ x∈b,key x=k
 .obtain ⟨x,hx,hk⟩:=hb
  have:Kf key k a=[]:=Qzb fun y hy e=>by have:=h x hx y hy;omega
  rw [this];simp
 .have:Kf key k b=[]:=Qzb fun y hy e=>hb ⟨y,hy,e⟩
  rw [this];simp
theorem cV.self {α:Type} {key:α->Int} {l:List α} (h:dn key l):cV key l l:=⟨h,fun _=>rfl,List.Perm.refl _⟩
theorem cV.trans {α:Type} {key:α->Int} {x y r:List α} (h:cV key y r) (hf:∀ k,Kf key k y=Kf key k x) (hp:y.Perm x):cV key x r :=
 ⟨h.vV,fun k=>(h.fl k).trans (hf k),h.perm.trans hp⟩
theorem cV.len {α:Type} {key:α->Int} {x r:List α} (h:cV key x r):r.length=x.length:=h.perm.length_eq
theorem cV.mem {α:Type} {key:α->Int} {x r:List α} (h:cV key x r) {z:α}:z∈r↔z∈x:=h.perm.mem_iff
theorem cV.cat {α:Type} {key:α->Int} {x1 x2 r1 r2:List α} (h1:cV key x1 r1) (h2:cV key x2 r2) (h:∀ a∈x1,∀ b∈x2,key a<=key b):cV key (x1++x2) (r1++r2):=by
 refine ⟨?_,fun k=>by rw [nU,nU,h1.fl,h2.fl],h1.perm.append h2.perm⟩
 unfold dn
 rw [List.pairwise_append]
 exact ⟨h1.vV,h2.vV,fun a ha b hb=>h a (h1.mem.1 ha) b (h2.mem.1 hb)⟩
theorem cV.ins {α:Type} {key:α->Int} {x s1 s2:List α} {y:α} (h:cV key x (s1++s2)) (h1:∀ a∈s1,key a<=key y) (h2:∀ a∈s2,key y < key a):cV key (x++[y]) (s1++y::s2):=by
 have hs:=h.vV
 unfold dn at hs
 rw [List.pairwise_append] at hs
 obtain ⟨q1,q2,q3⟩:=hs
 refine ⟨?_,fun k=>?_,?_⟩
 .unfold dn
  rw [List.pairwise_append]
  refine ⟨q1,List.pairwise_cons.2 ⟨fun a ha=>Int.le_of_lt (h2 a ha),q2⟩,fun a ha b hb=>?_⟩
  rcases Z2 hb with rfl | hb
  .exact h1 a ha
  .exact q3 a ha b hb
 .have:=h.fl k
  rw [nU] at this
  rw [nU,U_,nU,<- this,List.append_assoc]
  congr 1
  have e:=Vc (key:=key) (k:=k) (a:=s2) (b:=[y]) (fun a ha b hb=>by simp at ha;subst ha;exact h2 b hb)
  rw [nU,nU] at e;exact e
 .refine List.perm_middle.trans ?_
  exact ((List.Perm.cons y h.perm).trans (List.perm_append_singleton y x).symm)
theorem dn.left {α:Type} {key:α->Int} {a b:List α} (h:dn key (a++b)):dn key a:=(List.pairwise_append.1 h).1
theorem dn.right {α:Type} {key:α->Int} {a b:List α} (h:dn key (a++b)):dn key b:=(List.pairwise_append.1 h).2.1
theorem dn.mz {α:Type} {key:α->Int} {a b:List α} (h:dn key (a++b)):∀ x∈a,∀ y∈b,key x<=key y:=(List.pairwise_append.1 h).2.2
theorem dn.one {α:Type} {key:α->Int} (x:α):dn key [x]:=List.pairwise_singleton ..
theorem dn.get {α:Type} {key:α->Int} {l:List α} (h:dn key l) {i j:Nat} {x y:α} (ny:i<=j) (hx:l[i]? = some x) (hy:l[j]? = some y):key x<=key y:=by
 rcases Nat.eq_or_lt_of_le ny with rfl | au
 .rw [hx] at hy;injection hy with hy;subst hy;exact Int.le_refl _
 .obtain ⟨hi,rfl⟩:=Z0 hx
  obtain ⟨hj,rfl⟩:=Z0 hy
  exact List.pairwise_iff_getElem.1 h i j hi hj au
theorem dn.uniq {α:Type} {key:α->Int}:∀ {r q:List α},dn key r->dn key q->(∀ k,Kf key k r=Kf key k q)->r=q
 | [],[],_,_,_=>rfl
 | [],y::q,_,_,h=>by
  have:=h (key y)
  simp [Kf] at this
 | x::r,[],_,_,h=>by
  have:=h (key x)
  simp [Kf] at this
 | x::r,y::q,hr,hq,h=>by
  have dG:=List.pairwise_cons.1 hr
  have Ec:=List.pairwise_cons.1 hq
  have e1:key x<=key y:=by
   have hy:y∈Kf key (key y) (x::r):=by rw [h];exact O0.2 ⟨by simp,rfl⟩
   rcases Z2 (O0.1 hy).1 with e | e
   .rw [e];exact Int.le_refl _
   .exact dG.1 y e
  have e2:key y<=key x:=by
   have hx:x∈Kf key (key x) (y::q):=by rw [<- h];exact O0.2 ⟨by simp,rfl⟩
   rcases Z2 (O0.1 hx).1 with e | e
   .rw [e];exact Int.le_refl _
   .exact Ec.1 x e
  have e3:key x=key y:=by omega
  have h0:=h (key x)
  have hx:x=y:=by
   unfold Kf at h0
   rw [List.filter_cons_of_pos (by simp),List.filter_cons_of_pos (by simp [e3])] at h0
   injection h0
  subst hx
  congr 1
  refine dn.uniq dG.2 Ec.2 fun k=>?_
  have:=h k
  rw [U_,U_ (b:=q)] at this
  exact List.append_cancel_left this
theorem cV.uniq {α:Type} {key:α->Int} {l r q:List α} (h:cV key l r) (g:cV key l q):r=q :=
 h.vV.uniq g.vV fun k=>(h.fl k).trans (g.fl k).symm
theorem A8 {α:Type} {p s:List α} {u:α} {i:Nat} (h:i=p.length):(p++u::s)[i]? = some u:=by
 subst h;simp
theorem Vd {α:Type} {p q s:List α} {u v:α}:((p++u::(q++v::s)).set p.length v).set (p.length+1+q.length) u=p++v::(q++u::s):=by
 rw [List.set_append_right _ _ (Zd _),Nat.sub_self,List.set_cons_zero,List.set_append_right _ _ (by omega)]
 rw [show p.length+1+q.length - p.length=q.length+1 by omega,List.set_cons_succ,List.set_append_right _ _ (Zd _),Nat.sub_self,List.set_cons_zero]
theorem Qph {α:Type} {p q s:List α} {u v:α}:((p++u::(q++v::s)).set (p.length+1+q.length) u).set p.length v=p++v::(q++u::s):=by
 rw [List.set_comm _ _ (by omega)];exact Vd
theorem Qsn {α β:Type} {l:List α} {i j:Nat} {u v:α} (hi:l[i]? = some u) (hj:l[j]? = some v) (K:List α->Option β) :
  aa (decide (0<=(j:Int))) (aa (Nat.blt ((j:Int).toNat) l.length) (Q1 (l[(j:Int).toNat]?) fun x9=>aa (decide (0<=(i:Int))) (aa (Nat.blt ((i:Int).toNat) l.length) (Q1 (l[(i:Int).toNat]?) fun aR =>
   aa (decide (0<=(i:Int))) (aa (Nat.blt ((i:Int).toNat) l.length) (Q1 (l[(i:Int).toNat]?) fun bQ=>aa (decide (0<=(j:Int))) (aa (Nat.blt ((j:Int).toNat) ((l.set ((i:Int).toNat) x9).length)) (Q1 ((l.set ((i:Int).toNat) x9)[(j:Int).toNat]?) fun dF =>
    K ((l.set ((i:Int).toNat) x9).set ((j:Int).toNat) aR)) none) none) none) none) none) none) none) none=K ((l.set i v).set j u):=by
 have h1:=(Z0 hi).1
 have h2:=(Z0 hj).1
 have h3:∃ z,(l.set i v)[j]? = some z:=⟨(l.set i v)[j]'(by simpa using h2),Z6 _⟩
 obtain ⟨z,h3⟩:=h3
 have b1:Nat.blt i l.length=true:=Nat.ble_eq_true_of_le h1
 have b2:Nat.blt j l.length=true:=Nat.ble_eq_true_of_le h2
 have b3:Nat.blt j (l.set i v).length=true:=by rw [List.length_set];exact b2
 have p1:decide (0<=(i:Int))=true:=Z5 (by omega)
 have p2:decide (0<=(j:Int))=true:=Z5 (by omega)
 simp only [Int.toNat_natCast,p1,p2,b1,b2,hi,hj,Q4,Q8,b3,h3]
theorem O1 {α β:Type} {l:List α} {i j:Nat} {u v:α} {Q:β->Prop} (hi:l[i]? = some u) (hj:l[j]? = some v) (K:List α->Option β) (h:Ok (K ((l.set i v).set j u)) Q) :
  Ok (aa (decide (0<=(j:Int))) (aa (Nat.blt ((j:Int).toNat) l.length) (Q1 (l[(j:Int).toNat]?) fun x9=>aa (decide (0<=(i:Int))) (aa (Nat.blt ((i:Int).toNat) l.length) (Q1 (l[(i:Int).toNat]?) fun aR =>
   aa (decide (0<=(i:Int))) (aa (Nat.blt ((i:Int).toNat) l.length) (Q1 (l[(i:Int).toNat]?) fun bQ=>aa (decide (0<=(j:Int))) (aa (Nat.blt ((j:Int).toNat) ((l.set ((i:Int).toNat) x9).length)) (Q1 ((l.set ((i:Int).toNat) x9)[(j:Int).toNat]?) fun dF =>
    K ((l.set ((i:Int).toNat) x9).set ((j:Int).toNat) aR)) none) none) none) none) none) none) none) none) Q:=by rw [Qsn hi hj K];exact h
theorem zN {a b:Nat} (h:a+b<=4000000000):IntKind.i64.wrap ((IntKind.u64.wrap (IntKind.i64.wrap ((a:Int)+(b:Int)))).fdiv (2 ^ (min (1:Int).toNat IntKind.u64.bits)))=(((a+b) / 2:Nat):Int):=by
 have e0:(2:Int) ^ (min (1:Int).toNat IntKind.u64.bits)=2:=rfl
 rw [e0,wr (n:=(a:Int)+(b:Int)) (by omega) (by omega)]
 have e1:IntKind.u64.wrap ((a:Int)+(b:Int))=(a:Int)+(b:Int):=by
  exact IntWalk.u64_in _ ⟨by omega,by omega⟩
 rw [e1,Int.fdiv_eq_ediv_of_nonneg _ (by omega),wr (by omega) (by omega)]
 omega
theorem zO {a b:Nat} (h:a+b<=4000000000):IntKind.i64.wrap ((a:Int)+(b:Int))=((a+b:Nat):Int):=by
 rw [wr (by omega) (by omega)];omega
theorem qJ {a b:Nat} (h:b<=a) (ha:a<=4000000000):IntKind.i64.wrap ((a:Int) - (b:Int))=((a - b:Nat):Int):=by
 rw [wr (by omega) (by omega)];omega
theorem LC {a:Nat} (h:1<=a) (ha:a<=4000000000):IntKind.i64.wrap ((a:Int) - 1)=((a - 1:Nat):Int):=by
 rw [wr (by omega) (by omega)];omega
theorem GS {α:Type} {l:List α} {i:Nat} (h:i<=l.length):∃ a b,l=a++b/\a.length=i:=⟨l.take i,l.drop i,(List.take_append_drop i l).symm,by simp;omega⟩
inductive dO {α:Type} (key:α->Int) (n:Nat):List α->List α->Prop
 | last (X D:List α):X.length<=n->cV key X D->dO key n X D
 | cons (X1 D1 X D:List α):X1.length=n->cV key X1 D1->dO key n X D->dO key n (X1++X) (D1++D)
theorem dO.len {α:Type} {key:α->Int} {n:Nat} {X D:List α} (h:dO key n X D):D.length=X.length:=by
 induction h with
 | last X D _ h=>exact h.len
 | cons X1 D1 X D _ h _ ih=>simp [h.len,ih]
theorem dO.one {α:Type} {key:α->Int} {n:Nat} {X D:List α} (h:dO key n X D) (hn:X.length<=n):cV key X D:=by
 cases h with
 | last _ _ _ h=>exact h
 | cons X1 D1 X D h1 h2 h3 =>
  simp only [Zf] at hn
  have e1:X=[]:=Z1 (by omega)
  have e2:D=[]:=Z1 (by rw [h3.len];omega)
  subst e1 e2;simpa using h2
theorem dO.two {α:Type} {key:α->Int} {n:Nat} {X D:List α} (h:dO key n X D) (hn:n < X.length):∃ X1 D1 X' D',X=X1++X'/\D=D1++D'/\X1.length=n/\cV key X1 D1/\dO key n X' D':=by
 cases h with
 | last _ _ h _=>omega
 | cons X1 D1 X D h1 h2 h3=>exact ⟨X1,D1,X,D,rfl,rfl,h1,h2,h3⟩
theorem cV.comp {α:Type} {key:α->Int} {x1 x2 d1 d2 r:List α} (h:cV key (d1++d2) r) (h1:cV key x1 d1) (h2:cV key x2 d2):cV key (x1++x2) r :=
 h.trans (fun k=>by rw [nU,nU,h1.fl,h2.fl]) (h1.perm.append h2.perm)
abbrev nV:=Int×Int×Int×Int×Int×Int×Int×Int
def cu (x:nV):Int:=x.1
theorem Ck {d:Nat} {a b:Int}:∃ c,uc (d+1) a b=some c/\decide (c < 0)=decide (a < b):=by
 rw [TA];simp only [uQ]
 refine ⟨_,rfl,?_⟩
 by_cases h:a < b
 .rw [Z5 h];simp
 .rw [Z4 h]
  by_cases h2:a > b
  .rw [Z5 h2];simp
  .rw [Z4 h2];simp
theorem Ve {d:Nat} {p U M V s:List nV} {n a b:Nat} {f:Bool} (hu:U.length=n) (hv:V.length=n) (ha:a=p.length) (hb:b=p.length+n+M.length) (hL:p.length+(n+M.length+n)+s.length<=1000000) :
  Ok (yw (d+1) (p++(U++(M++(V++s)))) a b n f) fun r=>r=p++(V++(M++(U++s))):=by
 rw [TD]
 refine mo (fun k st=>∃ U1 U2 V1 V2,U=U1++U2/\V=V1++V2/\U1.length=V1.length/\st.1=((U1.length:Nat):Int)/\st.2=p++(V1++(U2++(M++(U1++(V2++s)))))/\k=U2.length) ?_ _ n _ (by rw [Q6];omega) ⟨[],U,[],V,rfl,rfl,rfl,rfl,by simp,hu.symm⟩
 rintro k ⟨i,L⟩ ag ⟨U1,U2,V1,V2,rfl,rfl,h1,h2,h3,h4⟩ er
 simp only at h2 h3
 subst h2
 simp only [Zf] at hu hv
 simp only [yu]
 cases U2 with
 | nil =>
  simp only [Zb] at hu
  obtain rfl:V2=[]:=Z1 (by omega)
  rw [Z4 (by omega),Q5]
  unfold yt
  exact Ok.some (by rw [h3];simp)
 | cons u U2 =>
  cases V2 with
  | nil=>simp only [Z9,Zb] at hu hv;omega
  | cons v V2 =>
   simp only [Z9] at hu hv
   rw [Z5 (by omega),Q4,zO (by omega),zO (by omega)]
   have e:L=(p++V1)++u::((U2++(M++U1))++v::(V2++s)):=by rw [h3];simp
   have hi:L[a+U1.length]? = some u:=by rw [e];exact A8 (by simp<;>omega)
   have hj:L[b+U1.length]? = some v:=by
    rw [e,show (p++V1)++u::((U2++(M++U1))++v::(V2++s))=((p++V1)++u::(U2++(M++U1)))++v::(V2++s) by simp]
    exact A8 (by simp<;>omega)
   refine O1 hi hj (fun L'=>ag (IntKind.i64.wrap (((U1.length:Nat):Int)+1),L')) ?_
   rw [e,show a+U1.length=(p++V1).length by simp<;>omega,show b+U1.length=(p++V1).length+1+(U2++(M++U1)).length by simp<;>omega,Vd,aN (by omega)]
   refine er U2.length _ (by rw [h4];simp) ⟨U1++[u],U2,V1++[v],V2,by simp,by simp,by simp [h1],by simp,by simp,rfl⟩
theorem Qzc {d:Nat} {p U V s:List nV} {a m b:Nat} {f:Bool} (hu:0 < U.length) (hv:0 < V.length) (ha:a=p.length) (hm:m=p.length+U.length) (hb:b=p.length+U.length+V.length) (hL:p.length+U.length+V.length+s.length<=1000000) :
  Ok (Gg (d+2) (p++(U++(V++s))) a m b f) fun r=>r=p++(V++(U++s)):=by
 rw [show d+2=(d+1)+1 from rfl,TE,qJ (by omega) (by omega),qJ (by omega) (by omega)]
 refine mo (fun k st=>∃ p' U' V' s',0 < U'.length/\0 < V'.length/\st=(((U'.length:Nat):Int),((V'.length:Nat):Int),p'++(U'++(V'++s')))/\p'.length+U'.length=m/\p'.length+U'.length+V'.length+s'.length<=1000000/\p'++(V'++(U'++s'))=p++(V++(U++s))/\k=U'.length+V'.length) ?_ _ (U.length+V.length) _ (by rw [Q6];omega) ⟨p,U,V,s,hu,hv,by rw [show m - a=U.length by omega,show b - m=V.length by omega],by omega,by omega,rfl,rfl⟩
 rintro k st ag ⟨p',U',V',s',h1,h2,rfl,h3,h4,h5,rfl⟩ er
 simp only [yy]
 rw [qJ (a:=m) (b:=U'.length) (by omega) (by omega)]
 by_cases he:U'.length=V'.length
 .rw [show ((((U'.length:Nat):Int)) != ((V'.length:Nat):Int))=false by rw [he];simp,Q5]
  unfold yx
  rw [qJ (a:=m) (b:=U'.length) (by omega) (by omega)]
  refine Ok.bind (Ve (d:=d) (p:=p') (U:=U') (M:=[]) (V:=V') (s:=s') (n:=U'.length) rfl he.symm (by omega) (by simp<;>omega) (by simp<;>omega)) fun r hr=>?_
  subst hr
  exact Ok.some (by rw [<- h5];simp)
 .rw [show ((((U'.length:Nat):Int)) != ((V'.length:Nat):Int))=true by simp<;>omega,Q4]
  by_cases hg:((U'.length:Nat):Int) > ((V'.length:Nat):Int)
  .rw [Z5 hg,Q4]
   obtain ⟨Ua,Ub,rfl,hua⟩:=GS (l:=U') (i:=V'.length) (by omega)
   simp only [Zf] at h1 h3 h4 hg he ⊢
   have:=Ve (d:=d) (p:=p') (U:=Ua) (M:=Ub) (V:=V') (s:=s') (n:=V'.length) (a:=m - (Ua.length+Ub.length)) (b:=m) (f:=false) hua rfl (by omega) (by omega) (by omega)
   rw [show p'++(Ua++Ub++(V'++s'))=p'++(Ua++(Ub++(V'++s'))) by simp]
   refine Ok.bind this fun r hr=>?_
   subst hr
   rw [qJ (by omega) (by omega)]
   refine er (Ub.length+Ua.length) _ (by rw [Zf];omega) ⟨p'++V',Ub,Ua,s',by omega,by omega,?_,by simp<;>omega,by simp<;>omega,by rw [<- h5];simp,rfl⟩
   rw [show Ua.length+Ub.length - V'.length=Ub.length by omega,hua];simp
  .rw [Z4 hg,Q5]
   obtain ⟨Va,Vb,rfl,hva⟩:=GS (l:=V') (i:=V'.length - U'.length) (by omega)
   simp only [Zf] at h2 h3 h4 hg he hva ⊢
   have UT:Vb.length=U'.length:=by omega
   rw [show ((m:Nat):Int)+(((Va.length+Vb.length:Nat):Int))=((m+(Va.length+Vb.length):Nat):Int) by omega,wr (n:=((m+(Va.length+Vb.length):Nat):Int)) (by omega) (by omega),qJ (by omega) (by omega)]
   have:=Ve (d:=d) (p:=p') (U:=U') (M:=Va) (V:=Vb) (s:=s') (n:=U'.length) (a:=m - U'.length) (b:=m+(Va.length+Vb.length) - U'.length) (f:=false) rfl UT (by omega) (by omega) (by omega)
   rw [show p'++(U'++(Va++Vb++s'))=p'++(U'++(Va++(Vb++s'))) by simp]
   refine Ok.bind this fun r hr=>?_
   subst hr
   rw [qJ (by omega) (by omega)]
   refine er (Vb.length+Va.length) _ (by rw [Zf];omega) ⟨p',Vb,Va,U'++s',by omega,by omega,?_,by omega,by simp<;>omega,by rw [<- h5];simp,rfl⟩
   rw [show Va.length+Vb.length - U'.length=Va.length by omega,UT]
theorem Qhd {d:Nat} {p X s:List nV} {a b:Nat} {f:Bool} (ha:a=p.length) (hb:b=p.length+X.length) (hL:p.length+X.length+s.length<=1000000) :
  Ok (BZ (d+3) (p++(X++s)) a b f) fun r=>∃ R,r=p++(R++s)/\cV cu X R:=by
 rw [show d+3=(d+1)+2 from rfl,TC,aN (by omega)]
 cases X with
 | nil =>
  obtain ⟨n,hn⟩:∃ n,Qd=n+1:=⟨4194303,Q6⟩
  rw [hn]
  simp only [Q9,qa]
  rw [Z4 (by simp at hb;omega),Q5]
  unfold p9
  exact Ok.some ⟨[],rfl,cV.self List.Pairwise.nil⟩
 | cons x X =>
  simp only [Z9] at hb hL
  refine mo (fun k st=>∃ X0 S Y,x::X=X0++Y/\cV cu X0 S/\st.1=((p.length+S.length:Nat):Int)/\st.2=p++(S++(Y++s))/\k=Y.length) ?_ _ X.length _ (by rw [Q6];omega) ⟨[x],[x],X,rfl,cV.self (dn.one x),by simp [ha],rfl,rfl⟩
  rintro k ⟨i,L⟩ ag ⟨X0,S,Y,h0,h1,h2,h3,h4⟩ er
  simp only at h2 h3
  subst h2
  have hlen:=congrArg List.length h0
  simp only [Z9,Zf] at hlen
  have hS:=h1.len
  simp only [qa]
  cases Y with
  | nil =>
   simp only [Zb] at hlen
   rw [Z4 (by omega),Q5]
   unfold p9
   exact Ok.some ⟨S,by rw [h3];simp,by rw [h0];simpa using h1⟩
  | cons y Y =>
   simp only [Z9] at hlen
   rw [Z5 (by omega),Q4]
   have fin:∀ (n1 n2:Int) (b1 b2:Bool) (S1 S2:List nV),S=S1++S2->(∀ z∈S1,cu z<=cu y)->(∀ z∈S2,cu y < cu z)->Ok (p_ (d+1) ag ((p.length+S.length:Nat):Int) n1 n2 b1 b2 (p++(S1++(y::(S2++(Y++s)))))) fun r=>∃ R,r=p++(R++s)/\cV cu (x::X) R:=by
    intro n1 n2 b1 b2 S1 S2 e g1 g2
    subst e
    simp only [Zf] at hS hlen ⊢
    unfold p_
    rw [aN (by omega)]
    refine er Y.length _ (by rw [h4];simp) ⟨X0++[y],S1++y::S2,Y,by rw [h0];simp,h1.ins g1 g2,by simp<;>omega,by simp,rfl⟩
   refine mo (fun q st=>∃ S1 S2,S=S1++S2/\(∀ z∈S2,cu y < cu z)/\st.1=((p.length+S1.length:Nat):Int)/\st.2=p++(S1++(y::(S2++(Y++s))))/\q=S1.length) ?_ _ S.length _ (by rw [Q6];omega) ⟨S,[],by simp,by simp,rfl,by rw [h3];simp,rfl⟩
   rintro q ⟨j,M⟩ bV ⟨S1,S2,e,g2,g3,g4,rfl⟩ zP
   simp only at g3 g4
   subst g3
   have zL:=congrArg List.length e
   simp only [Zf] at zL
   simp only [yq]
   rcases List.eq_nil_or_concat S1 with rfl | ⟨S1,z,rfl⟩
   .rw [Z4 (by simp [ha]),Q5]
    unfold lH
    rw [Q5,g4]
    exact fin _ _ _ _ [] S2 e (by simp) g2
   .simp only [List.concat_eq_append,Zf,Z9,Zb] at e g4 zL zP ⊢
    have hz:M[p.length+S1.length]? = some z:=by
     rw [g4,show p++(S1++[z]++(y::(S2++(Y++s))))=(p++S1)++z::(y::(S2++(Y++s))) by simp]
     exact A8 (by simp)
    have hy:M[p.length+(S1.length+(0+1))]? = some y:=by
     rw [g4,show p++(S1++[z]++(y::(S2++(Y++s))))=(p++S1++[z])++y::(S2++(Y++s)) by simp]
     exact A8 (by simp<;>omega)
    have oy:=(Z0 hz).1
    have gd:=(Z0 hy).1
    rw [Z5 (by omega),Q4,LC (by omega) (by omega),show p.length+(S1.length+(0+1)) - 1=p.length+S1.length by omega]
    simp only [nn,Q3,Q4,Qo oy,Qo gd,hz,hy,Q8]
    obtain ⟨c,hc,au⟩:=Ck (d:=d) (a:=y.1) (b:=z.1)
    rw [hc,Q8]
    unfold lH
    rw [au]
    cases hd:decide (y.1 < z.1) with
    | true =>
     simp only [Zj] at hd
     rw [Q4,LC (by omega) (by omega),show p.length+(S1.length+(0+1)) - 1=p.length+S1.length by omega]
     refine O1 (i:=p.length+(S1.length+(0+1))) (j:=p.length+S1.length) hy hz (fun L'=>bV (((p.length+S1.length:Nat):Int),L')) ?_
     rw [g4,show p++(S1++[z]++(y::(S2++(Y++s))))=(p++S1)++z::([]++y::(S2++(Y++s))) by simp,show p.length+(S1.length+(0+1))=(p++S1).length+1+([]:List nV).length by simp<;>omega,show p.length+S1.length=(p++S1).length by simp,Qph]
     refine zP S1.length _ (by omega) ⟨S1,z::S2,by rw [e];simp,fun w hw=>?_,by simp,by simp,rfl⟩
     rcases Z2 hw with rfl | hw
     .exact hd
     .exact g2 w hw
    | false =>
     simp only [decide_eq_false_iff_not] at hd
     rw [Q5,g4]
     have hs:=h1.vV
     rw [e] at hs
     have:=fin ((p.length+(S1.length+(0+1)):Nat):Int) ((p.length+(S1.length+(0+1)):Nat):Int) (decide (((p.length+(S1.length+(0+1)):Nat):Int) > (a:Int))) true (S1++[z]) S2 e (fun w hw=>?_) g2
     .exact this
     .rcases List.mem_append.1 hw with hw | hw
      .have:=(dn.left hs).mz w hw z (by simp)
       have oz:z.1<=y.1:=by omega
       exact Int.le_trans this oz
      .simp at hw;subst hw;show w.1<=y.1;omega
theorem Qzd {d:Nat} {p B s:List nV} {x:nV} {a i:Nat} (ha:a=p.length) (hi:i=p.length+1+B.length) (hL:p.length+1+B.length+s.length<=1000000) :
  Ok (Q9 (qc d (i:Int) (qb d)) Qd ((a:Int),p++(x::(B++s)))) fun r=>r=p++(B++(x::s)):=by
 refine mo (fun k st=>∃ B1 B2,B=B1++B2/\st.1=((p.length+B1.length:Nat):Int)/\st.2=p++(B1++(x::(B2++s)))/\k=B2.length) ?_ _ B.length _ (by rw [Q6];omega) ⟨[],B,rfl,by simp [ha],rfl,rfl⟩
 rintro k ⟨k0,L⟩ ag ⟨B1,B2,rfl,h1,h2,h3⟩ er
 simp only at h1 h2
 subst h1
 simp only [Zf] at hi hL
 simp only [qc]
 rw [LC (by omega) (by omega)]
 cases B2 with
 | nil =>
  rw [Z4 (by simp at hi;omega),Q5]
  unfold qb
  exact Ok.some (by rw [h2];simp)
 | cons y B2 =>
  simp only [Z9] at hi hL h3
  rw [Z5 (by omega),Q4,aN (by omega)]
  have hx:L[p.length+B1.length]? = some x:=by
   rw [h2,show p++(B1++(x::(y::B2++s)))=(p++B1)++x::(y::B2++s) by simp]
   exact A8 (by simp)
  have hy:L[p.length+B1.length+1]? = some y:=by
   rw [h2,show p++(B1++(x::(y::B2++s)))=(p++B1++[x])++y::(B2++s) by simp]
   exact A8 (by simp<;>omega)
  refine O1 (i:=p.length+B1.length) (j:=p.length+B1.length+1) hx hy (fun L'=>ag (((p.length+B1.length+1:Nat):Int),L')) ?_
  rw [h2,show p++(B1++(x::(y::B2++s)))=(p++B1)++x::([]++y::(B2++s)) by simp,show p.length+B1.length+1=(p++B1).length+1+([]:List nV).length by simp,show p.length+B1.length=(p++B1).length by simp,Vd]
  refine er B2.length _ (by omega) ⟨B1++[y],B2,by simp,by simp<;>omega,by simp,rfl⟩
theorem Qze {d:Nat} {p A s:List nV} {y:nV} {m i:Nat} (hi:i=p.length) (hm:m=p.length+A.length) (hL:p.length+1+A.length+s.length<=1000000) :
  Ok (Q9 (qf d (i:Int) (qe d)) Qd ((m:Int),p++(A++(y::s)))) fun r=>r=p++(y::(A++s)):=by
 refine mo (fun k st=>∃ A1 A2,A=A1++A2/\st.1=((p.length+A1.length:Nat):Int)/\st.2=p++(A1++(y::(A2++s)))/\k=A1.length) ?_ _ A.length _ (by rw [Q6];omega) ⟨A,[],by simp,by simp [hm],by simp,rfl⟩
 rintro k ⟨k0,L⟩ ag ⟨A1,A2,rfl,h1,h2,h3⟩ er
 simp only at h1 h2
 subst h1
 simp only [Zf] at hm hL
 simp only [qf]
 rcases List.eq_nil_or_concat A1 with rfl | ⟨A1,z,rfl⟩
 .rw [Z4 (by simp<;>omega),Q5]
  unfold qe
  exact Ok.some (by rw [h2];simp)
 .simp only [List.concat_eq_append,Zf,Z9,Zb] at h2 h3 hL er ⊢
  rw [Z5 (by omega),Q4,LC (by omega) (by omega),show p.length+(A1.length+(0+1)) - 1=p.length+A1.length by omega]
  have hz:L[p.length+A1.length]? = some z:=by
   rw [h2,show p++(A1++[z]++(y::(A2++s)))=(p++A1)++z::(y::(A2++s)) by simp]
   exact A8 (by simp)
  have hy:L[p.length+(A1.length+(0+1))]? = some y:=by
   rw [h2,show p++(A1++[z]++(y::(A2++s)))=(p++A1++[z])++y::(A2++s) by simp]
   exact A8 (by simp<;>omega)
  refine O1 (i:=p.length+(A1.length+(0+1))) (j:=p.length+A1.length) hy hz (fun L'=>ag (((p.length+A1.length:Nat):Int),L')) ?_
  rw [h2,show p++(A1++[z]++(y::(A2++s)))=(p++A1)++z::([]++y::(A2++s)) by simp,show p.length+(A1.length+(0+1))=(p++A1).length+1+([]:List nV).length by simp<;>omega,show p.length+A1.length=(p++A1).length by simp,Qph]
  refine er A1.length _ (by omega) ⟨A1,z::A2,by simp,by simp,by simp,rfl⟩
theorem O2 {p A s:List nV} {i:Nat} {x:nV} (h:A[i]? = some x):(p++(A++s))[p.length+i]? = some x:=by
 have hi:=(Z0 h).1
 rw [Zq (by omega),List.getElem?_append_left (by omega),show p.length+i - p.length=i by omega];exact h
theorem Vf {β:Type} {F:(Int×Int->Option β)->Int×Int->Option β} {P:Nat->Bool} {lo hi:Nat} {K:Int->Option β} {Q:β->Prop} (hlh:lo<=hi) (hh:hi<=1000000)
  (h:∀ ag (i j:Nat),lo<=i->i < j->j<=hi->F ag ((i:Int),(j:Int))=aa (P ((i+j) / 2)) (ag ((((i+j) / 2+1:Nat):Int),(j:Int))) (ag ((i:Int),(((i+j) / 2:Nat):Int))))
  (h2:∀ ag (i:Nat),F ag ((i:Int),(i:Int))=K (i:Int))
  (hK:∀ c:Nat,lo<=c->c<=hi->(lo < c->P (c - 1)=true)->(c < hi->P c=false)->Ok (K (c:Int)) Q):Ok (Q9 F Qd ((lo:Int),(hi:Int))) Q:=by
 refine mo (fun k st=>∃ i j:Nat,st=((i:Int),(j:Int))/\lo<=i/\i<=j/\j<=hi/\(lo < i->P (i - 1)=true)/\(j < hi->P j=false)/\k=j - i) ?_ _ (hi - lo) _ (by rw [Q6];omega) ⟨lo,hi,rfl,by omega,by omega,by omega,by omega,by omega,rfl⟩
 rintro k st ag ⟨i,j,rfl,g1,g2,g3,g4,g5,rfl⟩ er
 rcases Nat.eq_or_lt_of_le g2 with rfl | au
 .rw [h2];exact hK i g1 g3 g4 g5
 .rw [h ag i j g1 au g3]
  cases hp:P ((i+j) / 2) with
  | true=>rw [Q4];exact er (j - ((i+j) / 2+1)) _ (by omega) ⟨(i+j) / 2+1,j,rfl,by omega,by omega,g3,fun _=>by rw [Nat.add_sub_cancel];exact hp,g5,rfl⟩
  | false=>rw [Q5];exact er ((i+j) / 2 - i) _ (by omega) ⟨i,(i+j) / 2,rfl,g1,by omega,by omega,g4,fun _=>hp,rfl⟩
theorem O3:∀ (j:Nat) {d:Nat} {p A B s:List nV} {a m b:Nat} {f:Bool},A.length+B.length<=2 ^ j->0 < A.length->0 < B.length->dn cu A->dn cu B->a=p.length->m=p.length+A.length->b=p.length+A.length+B.length->p.length+A.length+B.length+s.length<=1000000 ->
  Ok (uo (d+j+3) (p++(A++(B++s))) a m b f) fun r=>∃ R,r=p++(R++s)/\cV cu (A++B) R
 | 0,d,p,A,B,s,a,m,b,f,h,h1,h2,_,_,_,_,_,_=>by simp at h;omega
 | j+1,d,p,A,B,s,a,m,b,f,h,h1,h2,sa,sb,ha,hm,hb,hL=>by
  rw [show d+(j+1)+3=(d+j+1+1)+2 by omega,TG,qJ (by omega) (by omega),qJ (by omega) (by omega)]
  by_cases c1:A.length=1
  .obtain ⟨x,rfl⟩:∃ x,A=[x]:=List.length_eq_one_iff.1 c1
   simp only [Z9,Zb] at hm hb hL
   rw [show (((m - a:Nat):Int)==1)=true by rw [show m - a=1 by omega];rfl,Q4]
   refine Vf (P:=fun c=>match B[c - m]? with | some y=>decide (y.1 < x.1) | none=>false) (K:=fun i=>lI (d+j+1+1) (p++([x]++(B++s))) (a:Int) i) (by omega) (by omega) (fun ag i k q1 q2 q3=>?_) (fun ag i=>?_) (fun c q1 q2 q3 q4=>?_)
   .simp only [qd]
    rw [Z5 (by omega),Q4,zN (by omega)]
    obtain ⟨y,hy⟩:∃ y,B[(i+k) / 2 - m]? = some y:=⟨_,Z6 (by omega)⟩
    have Ed:(p++([x]++(B++s)))[(i+k) / 2]? = some y:=by
     have:=O2 (p:=p++[x]) (s:=s) hy
     rw [show (p++[x]).length+((i+k) / 2 - m)=(i+k) / 2 by simp<;>omega] at this
     simpa using this
    have sg:(p++([x]++(B++s)))[a]? = some x:=A8 (s:=B++s) ha
    have l1:=(Z0 Ed).1
    have l2:=(Z0 sg).1
    simp only [nn,Q3,Q4,Qo l1,Qo l2,sg,Ed,Q8]
    obtain ⟨c,hc,au⟩:=Ck (d:=d+j+1) (a:=y.1) (b:=x.1)
    rw [hc,Q8,au,hy,aN (by omega)]
   .simp only [qd]
    rw [Z4 (by omega),Q5]
   .obtain ⟨B1,B2,rfl,vW⟩:=GS (l:=B) (i:=c - m) (by omega)
    simp only [Zf] at hb hL
    have k1:∀ z∈B1,cu z < cu x:=by
     intro z hz
     by_cases hc:m < c
     .have:=q3 hc
      obtain ⟨i,hi,rfl⟩:=List.getElem_of_mem hz
      have ju:(B1++B2)[c - 1 - m]? = some (B1[c - 1 - m]'(by omega)):=by rw [List.getElem?_append_left (by omega),Z6]
      simp only [ju,Zj] at this
      have hle:=(dn.left sb).get (i:=i) (j:=c - 1 - m) (by omega) (Z6 hi) (Z6 (by omega))
      exact Int.lt_of_le_of_lt hle this
     .obtain rfl:B1=[]:=Z1 (by omega)
      simp at hz
    have k2:∀ z∈B2,cu x<=cu z:=by
     intro z hz
     obtain ⟨i,hi,rfl⟩:=List.getElem_of_mem hz
     have:=q4 (by omega)
     have GU:(B1++B2)[c - m]? = some (B2[0]'(by omega)):=by rw [Zq (by omega),show c - m - B1.length=0 by omega,Z6]
     simp only [GU,decide_eq_false_iff_not] at this
     have hle:=(dn.right sb).get (i:=0) (j:=i) (by omega) (Z6 (by omega)) (Z6 hi)
     have:cu x<=cu (B2[0]'(by omega)):=by show x.1<=_;have h3:¬ (B2[0]'(by omega)).1 < x.1:=this;show x.1<=(B2[0]'(by omega)).1;omega
     exact Int.le_trans this hle
    show Ok (lI (d+j+1+1) (p++([x]++(B1++B2++s))) (a:Int) (c:Int)) _
    unfold lI
    rw [show p++([x]++(B1++B2++s))=p++(x::(B1++(B2++s))) by simp]
    refine Ok.mono (Qzd (p:=p) (B:=B1) (s:=B2++s) (x:=x) ha (by omega) (by simp<;>omega)) fun r hr=>?_
    subst hr
    refine ⟨B1++(x::B2),by simp,?_⟩
    have t1:cV cu (B1++(x::B2)) (B1++(x::B2)):=by
     refine cV.self ?_
     unfold dn
     rw [List.pairwise_append]
     refine ⟨dn.left sb,List.pairwise_cons.2 ⟨k2,dn.right sb⟩,fun u hu w hw=>?_⟩
     rcases Z2 hw with rfl | hw
     .exact Int.le_of_lt (k1 u hu)
     .exact dn.mz sb u hu w hw
    refine t1.trans (fun k=>?_) ?_
    .have:=Vc (key:=cu) (k:=k) (a:=[x]) (b:=B1) (fun u hu w hw=>by simp at hw;subst hw;exact k1 u hu)
     rw [show B1++x::B2=(B1++[x])++B2 by simp,nU,this,<- nU,List.append_assoc]
    .rw [show [x]++(B1++B2)=x::(B1++B2) from rfl];exact List.perm_middle
  .rw [show (((m - a:Nat):Int)==1)=false by rw [beq_eq_false_iff_ne];omega,Q5]
   by_cases c2:B.length=1
   .obtain ⟨y,rfl⟩:∃ y,B=[y]:=List.length_eq_one_iff.1 c2
    simp only [Z9,Zb] at hb hL
    rw [show (((b - m:Nat):Int)==1)=true by rw [show b - m=1 by omega];rfl,Q4]
    refine Vf (P:=fun c=>match A[c - a]? with | some x => !decide (y.1 < x.1) | none=>false) (K:=fun i=>lJ (d+j+1+1) (p++(A++([y]++s))) (m:Int) i) (by omega) (by omega) (fun ag i k q1 q2 q3=>?_) (fun ag i=>?_) (fun c q1 q2 q3 q4=>?_)
    .simp only [qg]
     rw [Z5 (by omega),Q4,zN (by omega)]
     obtain ⟨x,hx⟩:∃ x,A[(i+k) / 2 - a]? = some x:=⟨_,Z6 (by omega)⟩
     have sg:(p++(A++([y]++s)))[(i+k) / 2]? = some x:=by
      have:=O2 (p:=p) (s:=[y]++s) hx
      rw [show p.length+((i+k) / 2 - a)=(i+k) / 2 by omega] at this
      exact this
     have Ed:(p++(A++([y]++s)))[m]? = some y:=by
      rw [show p++(A++([y]++s))=(p++A)++y::s by simp]
      exact A8 (by simp<;>omega)
     have l1:=(Z0 Ed).1
     have l2:=(Z0 sg).1
     simp only [nn,Q3,Q4,Qo l1,Qo l2,sg,Ed,Q8]
     obtain ⟨c,hc,au⟩:=Ck (d:=d+j+1) (a:=y.1) (b:=x.1)
     rw [hc,Q8,au,hx,aN (by omega)]
    .simp only [qg]
     rw [Z4 (by omega),Q5]
    .obtain ⟨A1,A2,rfl,hA1⟩:=GS (l:=A) (i:=c - a) (by omega)
     simp only [Zf] at hm hb hL
     have k1:∀ z∈A1,cu z<=cu y:=by
      intro z hz
      by_cases hc:a < c
      .have:=q3 hc
       obtain ⟨i,hi,rfl⟩:=List.getElem_of_mem hz
       have ju:(A1++A2)[c - 1 - a]? = some (A1[c - 1 - a]'(by omega)):=by rw [List.getElem?_append_left (by omega),Z6]
       simp only [ju,Bool.not_eq_true',decide_eq_false_iff_not] at this
       have hle:=(dn.left sa).get (i:=i) (j:=c - 1 - a) (by omega) (Z6 hi) (Z6 (by omega))
       have h3:(A1[c - 1 - a]'(by omega)).1<=y.1:=by omega
       exact Int.le_trans hle h3
      .obtain rfl:A1=[]:=Z1 (by omega)
       simp at hz
     have k2:∀ z∈A2,cu y < cu z:=by
      intro z hz
      obtain ⟨i,hi,rfl⟩:=List.getElem_of_mem hz
      have:=q4 (by omega)
      have GU:(A1++A2)[c - a]? = some (A2[0]'(by omega)):=by rw [Zq (by omega),show c - a - A1.length=0 by omega,Z6]
      simp only [GU,Bool.not_eq_false',Zj] at this
      have hle:=(dn.right sa).get (i:=0) (j:=i) (by omega) (Z6 (by omega)) (Z6 hi)
      exact Int.lt_of_lt_of_le this hle
     show Ok (lJ (d+j+1+1) (p++(A1++A2++([y]++s))) (m:Int) (c:Int)) _
     unfold lJ
     rw [show p++(A1++A2++([y]++s))=(p++A1)++(A2++(y::s)) by simp]
     refine Ok.mono (Qze (p:=p++A1) (A:=A2) (s:=s) (y:=y) (by simp<;>omega) (by simp<;>omega) (by simp<;>omega)) fun r hr=>?_
     subst hr
     refine ⟨A1++(y::A2),by simp,?_⟩
     exact (cV.self sa).ins k1 k2
   .rw [show (((b - m:Nat):Int)==1)=false by rw [beq_eq_false_iff_ne];omega,Q5,zN (by omega)]
    have hq:(p.length+(p.length+A.length+B.length)) / 2=(a+b) / 2:=by rw [ha,hb]
    rw [decide_eq_decide.2 (show ((m:Nat):Int) > (((a+b) / 2:Nat):Int)↔(a+b) / 2 < m by omega)]
    have key:∀ c:Nat,a<=c->c<=m->m<=(a+b) / 2+m - c->(a+b) / 2+m - c<=b ->
      (∀ x∈(A.drop (c - a)),∀ y∈B.take ((a+b) / 2 - c),cu y < cu x)->(∀ x∈A.take (c - a),∀ y∈B.drop ((a+b) / 2 - c),cu x<=cu y) ->
      Ok (lQ (d+j+1+1) (p++(A++(B++s))) (a:Int) (m:Int) (b:Int) (c:Int)) fun r=>∃ R,r=p++(R++s)/\cV cu (A++B) R:=by
     intro c q1 q2 q3 q4 g1 g2
     obtain ⟨A1,A2,hA,hA1⟩:=GS (l:=A) (i:=c - a) (by omega)
     obtain ⟨B1,B2,hB,vW⟩:=GS (l:=B) (i:=(a+b) / 2 - c) (by omega)
     subst hA hB
     rw [<- hA1,List.drop_left] at g1
     rw [<- hA1,List.take_left] at g2
     rw [<- vW,List.take_left] at g1
     rw [<- vW,List.drop_left] at g2
     simp only [Zf] at h h1 h2 hm hb hL c1 c2 hq
     have Cl:(a+b) / 2+m - c=m+B1.length:=by omega
     have s5:∀ R1,cV cu (A1++B1) R1->Ok (lM (d+j+1+1) (a:Int) (m:Int) (b:Int) (c:Int) (p++(R1++(A2++(B2++s))))) fun r=>∃ R,r=p++(R++s)/\cV cu ((A1++A2)++(B1++B2)) R:=by
      intro R1 BB
      have oy:=BB.len
      simp only [Zf] at oy
      have fin:∀ R2,cV cu (A2++B2) R2->∃ R,p++(R1++(R2++s))=p++(R++s)/\cV cu ((A1++A2)++(B1++B2)) R:=by
       intro R2 BC
       refine ⟨R1++R2,by simp,(BB.cat BC ?_).trans (fun k=>?_) ?_⟩
       .intro x hx y hy
        rcases List.mem_append.1 hx with hx | hx<;>rcases List.mem_append.1 hy with hy | hy
        .exact dn.mz sa x hx y hy
        .exact g2 x hx y hy
        .exact Int.le_of_lt (g1 y hy x hx)
        .exact dn.mz sb x hx y hy
       .have e:=Vc (key:=cu) (k:=k) (a:=A2) (b:=B1) (fun x hx y hy=>g1 y hy x hx)
        rw [nU,nU] at e
        simp only [nU,List.append_assoc]
        rw [<- List.append_assoc (Kf cu k B1),e,List.append_assoc]
       .rw [List.append_assoc,List.append_assoc]
        exact List.Perm.append_left A1 (List.perm_append_comm_assoc B1 A2 B2)
      unfold lM
      rw [zN (by omega),zO (by omega),qJ (by omega) (by omega),Cl]
      by_cases k1:(a+b) / 2 < m+B1.length
      .rw [Z5 (by omega),Q4]
       unfold lK
       by_cases k2:m+B1.length < b
       .rw [Z5 (by omega),Q4,zN (by omega),zO (by omega),qJ (by omega) (by omega),Cl]
        have:=O3 j (d:=d) (p:=p++R1) (A:=A2) (B:=B2) (s:=s) (a:=(a+b) / 2) (m:=m+B1.length) (b:=b) (f:=false) (by omega) (by omega) (by omega) (dn.right sa) (dn.right sb) (by simp<;>omega) (by simp<;>omega) (by simp<;>omega) (by simp<;>omega)
        rw [show d+j+1+1+1=d+j+3 by omega,show p++(R1++(A2++(B2++s)))=(p++R1)++(A2++(B2++s)) by simp]
        refine Ok.bind this fun r hr=>?_
        obtain ⟨R2,rfl,BC⟩:=hr
        refine Ok.some ?_
        rw [List.append_assoc];exact fin R2 BC
       .rw [Z4 (by omega),Q5]
        obtain rfl:B2=[]:=Z1 (by omega)
        refine Ok.some ?_
        have:=fin A2 (by simpa using cV.self (dn.right sa))
        simpa using this
      .rw [Z4 (by omega),Q5]
       unfold lK
       rw [Q5]
       obtain rfl:A2=[]:=Z1 (by omega)
       refine Ok.some ?_
       have:=fin B2 (by simpa using cV.self (dn.right sb))
       simpa using this
     have s7:Ok (lO (d+j+1+1) (a:Int) (m:Int) (b:Int) (c:Int) (p++(A1++(B1++(A2++(B2++s)))))) fun r=>∃ R,r=p++(R++s)/\cV cu ((A1++A2)++(B1++B2)) R:=by
      unfold lO
      by_cases k1:a < c
      .rw [Z5 (by omega),Q4,zN (by omega)]
       unfold lN
       by_cases k2:c < (a+b) / 2
       .rw [Z5 (by omega),Q4,zN (by omega)]
        have:=O3 j (d:=d) (p:=p) (A:=A1) (B:=B1) (s:=A2++(B2++s)) (a:=a) (m:=c) (b:=(a+b) / 2) (f:=false) (by omega) (by omega) (by omega) (dn.left sa) (dn.left sb) ha (by omega) (by omega) (by simp<;>omega)
        rw [show d+j+1+1+1=d+j+3 by omega]
        refine Ok.bind this fun r hr=>?_
        obtain ⟨R1,rfl,BB⟩:=hr
        exact s5 R1 BB
       .rw [Z4 (by omega),Q5]
        obtain rfl:B1=[]:=Z1 (by omega)
        exact s5 A1 (by simpa using cV.self (dn.left sa))
      .rw [Z4 (by omega),Q5]
       unfold lN
       rw [Q5]
       obtain rfl:A1=[]:=Z1 (by omega)
       exact s5 B1 (by simpa using cV.self (dn.left sb))
     unfold lQ
     rw [zN (by omega),zO (by omega),qJ (by omega) (by omega),Cl]
     have e1:p++(A1++A2++(B1++B2++s))=(p++A1)++(A2++(B1++(B2++s))):=by simp
     by_cases k1:c < m
     .rw [Z5 (by omega),Q4]
      unfold lP
      by_cases k2:m < m+B1.length
      .rw [Z5 (by omega),Q4,zN (by omega),zO (by omega),qJ (by omega) (by omega),Cl,e1]
       have:=Qzc (d:=d+j+1) (p:=p++A1) (U:=A2) (V:=B1) (s:=B2++s) (a:=c) (m:=m) (b:=m+B1.length) (f:=false) (by omega) (by omega) (by simp<;>omega) (by simp<;>omega) (by simp<;>omega) (by simp<;>omega)
       rw [show d+j+1+1+1=d+j+1+2 by omega]
       refine Ok.bind this fun r hr=>?_
       subst hr
       rw [show p++A1++(B1++(A2++(B2++s)))=p++(A1++(B1++(A2++(B2++s)))) by simp]
       exact s7
      .rw [Z4 (by omega),Q5]
       obtain rfl:B1=[]:=Z1 (by omega)
       simpa using s7
     .rw [Z4 (by omega),Q5]
      unfold lP
      rw [Q5]
      obtain rfl:A2=[]:=Z1 (by omega)
      simpa using s7
    have LD:∀ lo hi:Nat,a<=lo->lo<=hi->hi<=m->(∀ c,lo<=c->c < hi->m<=(a+b) / 2+m - 1 - c/\(a+b) / 2+m - 1 - c < b)->m<=(a+b) / 2+m - hi->(a+b) / 2+m - lo<=b->(lo=a\/(a+b) / 2+m - lo=b)->(hi=m\/(a+b) / 2+m - hi=m) ->
      Ok (iP (d+j+1+1) (p++(A++(B++s))) (a:Int) (m:Int) (b:Int) (lo:Int) (hi:Int)) fun r=>∃ R,r=p++(R++s)/\cV cu (A++B) R:=by
     intro lo hi q1 q2 q3 q4 q5 q6 q7 q8
     unfold iP
     refine Vf (P:=fun c=>match A[c - a]?,B[(a+b) / 2 - 1 - c]? with | some x,some y => !decide (y.1 < x.1) | _,_=>false) (K:=fun i=>lQ (d+j+1+1) (p++(A++(B++s))) (a:Int) (m:Int) (b:Int) i) q2 (by omega) (fun ag i k r1 r2 r3=>?_) (fun ag i=>?_) (fun c r1 r2 r3 r4=>?_)
     .simp only [qh]
      obtain ⟨t1,t2⟩:=q4 ((i+k) / 2) (by omega) (by omega)
      rw [Z5 (by omega),Q4,zN (by omega),zN (by omega),zO (by omega),LC (by omega) (by omega),qJ (by omega) (by omega)]
      obtain ⟨x,hx⟩:∃ x,A[(i+k) / 2 - a]? = some x:=⟨_,Z6 (by omega)⟩
      obtain ⟨y,hy⟩:∃ y,B[(a+b) / 2 - 1 - (i+k) / 2]? = some y:=⟨_,Z6 (by omega)⟩
      have sg:(p++(A++(B++s)))[(i+k) / 2]? = some x:=by
       have:=O2 (p:=p) (s:=B++s) hx
       rw [show p.length+((i+k) / 2 - a)=(i+k) / 2 by omega] at this
       exact this
      have Ed:(p++(A++(B++s)))[(a+b) / 2+m - 1 - (i+k) / 2]? = some y:=by
       have:=O2 (p:=p++A) (s:=s) hy
       rw [show (p++A).length+((a+b) / 2 - 1 - (i+k) / 2)=(a+b) / 2+m - 1 - (i+k) / 2 by simp<;>omega] at this
       simpa using this
      have l1:=(Z0 Ed).1
      have l2:=(Z0 sg).1
      simp only [nn,Q3,Q4,Qo l1,Qo l2,sg,Ed,Q8]
      obtain ⟨c,hc,au⟩:=Ck (d:=d+j+1) (a:=y.1) (b:=x.1)
      rw [hc,Q8,au,hx,hy,aN (by omega)]
     .simp only [qh]
      rw [Z4 (by omega),Q5]
     .refine key c (by omega) (by omega) (by omega) (by omega) (fun x hx y hy=>?_) (fun x hx y hy=>?_)
      .obtain ⟨i,eT,rfl⟩:=List.getElem_of_mem hx
       obtain ⟨k,hk,rfl⟩:=List.getElem_of_mem hy
       simp only [List.length_drop,List.length_take] at eT hk
       have hc:c < hi:=by
        rcases q8 with h | h<;>omega
       have:=r4 hc
       have LF:A[c - a]? = some (A[c - a]'(by omega)):=Z6 _
       have GV:B[(a+b) / 2 - 1 - c]? = some (B[(a+b) / 2 - 1 - c]'(by omega)):=Z6 _
       rw [LF,GV] at this
       simp only [Bool.not_eq_false',Zj] at this
       have e1:=sa.get (i:=c - a) (j:=c - a+i) (by omega) LF (Z6 (by omega))
       have e2:=sb.get (i:=k) (j:=(a+b) / 2 - 1 - c) (by omega) (Z6 (by omega)) GV
       rw [List.getElem_drop,List.getElem_take]
       exact Int.lt_of_le_of_lt e2 (Int.lt_of_lt_of_le this e1)
      .obtain ⟨i,eT,rfl⟩:=List.getElem_of_mem hx
       obtain ⟨k,hk,rfl⟩:=List.getElem_of_mem hy
       simp only [List.length_drop,List.length_take] at eT hk
       have hc:lo < c:=by
        rcases q7 with h | h<;>omega
       have:=r3 hc
       have LF:A[c - 1 - a]? = some (A[c - 1 - a]'(by omega)):=Z6 _
       have GV:B[(a+b) / 2 - 1 - (c - 1)]? = some (B[(a+b) / 2 - 1 - (c - 1)]'(by omega)):=Z6 _
       rw [LF,GV] at this
       simp only [Bool.not_eq_true',decide_eq_false_iff_not] at this
       have e1:=sa.get (i:=i) (j:=c - 1 - a) (by omega) (Z6 (by omega)) LF
       have e2:=sb.get (i:=(a+b) / 2 - 1 - (c - 1)) (j:=(a+b) / 2 - c+k) (by omega) GV (Z6 (by omega))
       rw [List.getElem_drop,List.getElem_take]
       have h3:cu (A[c - 1 - a]'(by omega))<=cu (B[(a+b) / 2 - 1 - (c - 1)]'(by omega)):=by
        show (A[c - 1 - a]'(by omega)).1<=(B[(a+b) / 2 - 1 - (c - 1)]'(by omega)).1
        omega
       exact Int.le_trans e1 (Int.le_trans h3 e2)
    by_cases c3:(a+b) / 2 < m
    .rw [Z5 c3,Q4,zO (by omega),qJ (by omega) (by omega)]
     exact LD _ _ (by omega) (by omega) (by omega) (fun c g1 g2=>by omega) (by omega) (by omega) (by omega) (by omega)
    .rw [Z4 c3,Q5]
     exact LD _ _ (by omega) (by omega) (by omega) (fun c g1 g2=>by omega) (by omega) (by omega) (by omega) (by omega)
theorem Qpi {d:Nat} {X:List nV} {f:Bool} (hL:X.length<=1000000):Ok (Gi (d+24) X ((X.length:Nat):Int) f) fun r=>cV cu X r:=by
 rw [show d+24=(d+23)+1 from rfl,TH]
 refine mo (fun k st=>∃ p Y,st=(((p.length:Nat):Int),((p.length+20:Nat):Int),p++Y)/\p.length+Y.length=X.length/\(∀ D,dO cu 20 Y D->dO cu 20 X (p++D))/\k=Y.length) ?_ _ X.length _ (by rw [Q6];omega) ⟨[],X,rfl,by simp,fun D h=>h,rfl⟩
 rintro k st ag ⟨p,Y,rfl,h1,h2,rfl⟩ er
 simp only [yE]
 by_cases c1:p.length+20<=X.length
 .rw [Z5 (by omega),Q4]
  obtain ⟨Y1,Y2,rfl,hY⟩:=GS (l:=Y) (i:=20) (by omega)
  simp only [Zf] at h1 er
  have:=Qhd (d:=d+20) (p:=p) (X:=Y1) (s:=Y2) (a:=p.length) (b:=p.length+20) (f:=false) rfl (by omega) (by omega)
  rw [show p++(Y1++Y2)=p++(Y1++Y2) from rfl]
  refine Ok.bind this fun r hr=>?_
  obtain ⟨R,rfl,hR⟩:=hr
  have Ja:=hR.len
  rw [show (((p.length+20:Nat):Int)+20)=((p.length+20+20:Nat):Int) by omega,wr (n:=((p.length+20+20:Nat):Int)) (by omega) (by omega)]
  refine er Y2.length _ (by omega) ⟨p++R,Y2,by rw [Zf,Ja,hY];simp,by rw [Zf,Ja];omega,fun D hD=>?_,rfl⟩
  rw [List.append_assoc]
  exact h2 _ (dO.cons Y1 R Y2 D hY hR hD)
 .rw [Z4 (by omega),Q5]
  unfold yD
  have:=Qhd (d:=d+20) (p:=p) (X:=Y) (s:=[]) (a:=p.length) (b:=X.length) (f:=false) rfl (by omega) (by simp<;>omega)
  rw [show p++Y=p++(Y++[]) by simp]
  refine Ok.bind this fun r hr=>?_
  obtain ⟨R,rfl,hR⟩:=hr
  have hB:=h2 R (dO.last Y R (by omega) hR)
  clear this er
  generalize ((p.length:Nat):Int)=n5
  generalize ((p.length+20:Nat):Int)=n6
  refine mo (fun k st=>∃ (bs:Nat) (x y:Int) (D:List nV),st=((bs:Int),x,y,D)/\1<=bs/\bs<=2000020/\dO cu bs X D/\k=2000020 - bs) ?_ _ 2000000 _ (by rw [Q6];omega) ⟨20,n5,n6,p++(R++[]),rfl,by omega,by omega,by simpa using hB,by omega⟩
  rintro k st ag ⟨bs,x,y,D,rfl,b1,b2,b3,rfl⟩ er
  simp only [yC]
  by_cases c2:bs < X.length
  .rw [Z5 (by omega),Q4,show ((2:Int)*(bs:Int))=((2*bs:Nat):Int) by omega,wr (n:=((2*bs:Nat):Int)) (by omega) (by omega)]
   have hD:=b3.len
   refine mo (fun k st=>∃ p Y0 Y,st=(((p.length:Nat):Int),((p.length+2*bs:Nat):Int),p++Y)/\p.length+Y.length=X.length/\dO cu bs Y0 Y/\(∀ D,dO cu (2*bs) Y0 D->dO cu (2*bs) X (p++D))/\k=Y.length) ?_ _ X.length _ (by rw [Q6];omega) ⟨[],X,D,by simp,by simp [hD],b3,fun D h=>h,hD.symm⟩
   rintro k st bV ⟨p,Y0,Y,rfl,h1,h2,h3,rfl⟩ zP
   have Vg:=h2.len
   simp only [yB]
   by_cases c3:p.length+2*bs<=X.length
   .rw [Z5 (by omega),Q4,zO (by omega)]
    obtain ⟨X1,D1,X',D',rfl,rfl,g1,g2,g3⟩:=h2.two (by omega)
    have g1l:=g2.len
    simp only [Zf] at Vg h1
    obtain ⟨D2,D3,X2,X3,O4,hD',g4,g5,g6⟩:∃ D2 D3 X2 X3,X'=X2++X3/\D'=D2++D3/\X2.length=bs/\cV cu X2 D2/\dO cu bs X3 D3:=by
     by_cases hc:bs < X'.length
     .obtain ⟨X2,D2,X3,D3,e1,e2,e3,e4,e5⟩:=g3.two hc
      exact ⟨D2,D3,X2,X3,e1,e2,e3,e4,e5⟩
     .have hl:=g3.len
      exact ⟨D',[],X',[],by simp,by simp,by omega,g3.one (by omega),dO.last _ _ (by simp) (cV.self List.Pairwise.nil)⟩
    subst O4 hD'
    have g4l:=g5.len
    have g6l:=g6.len
    simp only [Zf] at Vg h1 zP
    have:=O3 20 (d:=d) (p:=p) (A:=D1) (B:=D2) (s:=D3) (a:=p.length) (m:=p.length+bs) (b:=p.length+2*bs) (f:=false) (by omega) (by omega) (by omega) g2.vV g5.vV rfl (by omega) (by omega) (by omega)
    rw [show p++(D1++(D2++D3))=p++(D1++(D2++D3)) from rfl]
    refine Ok.bind this fun r hr=>?_
    obtain ⟨R,rfl,hR⟩:=hr
    have Ja:=hR.len
    simp only [Zf] at Ja
    rw [show ((2:Int)*(bs:Int))=((2*bs:Nat):Int) by omega,wr (n:=((2*bs:Nat):Int)) (by omega) (by omega),zO (by omega)]
    refine zP D3.length _ (by omega) ⟨p++R,X3,D3,by rw [Zf,Ja,show D1.length+D2.length=2*bs by omega];simp,by rw [Zf,Ja];omega,g6,fun D hD=>?_,rfl⟩
    rw [List.append_assoc]
    refine h3 _ ?_
    rw [<- List.append_assoc]
    exact dO.cons (X1++X2) R X3 D (by simp<;>omega) (hR.comp g2 g5) hD
   .rw [Z4 (by omega),Q5]
    unfold yA
    rw [zO (by omega),show ((bs:Int)*2)=((2*bs:Nat):Int) by omega,wr (n:=((2*bs:Nat):Int)) (by omega) (by omega)]
    by_cases c4:p.length+bs < X.length
    .rw [Z5 (by omega),Q4]
     obtain ⟨X1,D1,X',D',rfl,rfl,g1,g2,g3⟩:=h2.two (by omega)
     have g1l:=g2.len
     have g3l:=g3.len
     simp only [Zf] at Vg h1
     have g5:=g3.one (by omega)
     have:=O3 20 (d:=d) (p:=p) (A:=D1) (B:=D') (s:=[]) (a:=p.length) (m:=p.length+bs) (b:=X.length) (f:=false) (by omega) (by omega) (by omega) g2.vV g5.vV rfl (by omega) (by omega) (by simp<;>omega)
     rw [show p++(D1++D')=p++(D1++(D'++[])) by simp]
     refine Ok.bind this fun r hr=>?_
     obtain ⟨R,rfl,hR⟩:=hr
     refine er _ _ ?_ ⟨2*bs,_,_,_,rfl,by omega,by omega,?_,rfl⟩
     .omega
     .simp only [List.append_nil]
      exact h3 R (dO.last _ _ (by simp<;>omega) (hR.comp g2 g5))
    .rw [Z4 (by omega),Q5]
     refine er _ _ ?_ ⟨2*bs,_,_,_,rfl,by omega,by omega,h3 Y (dO.last _ _ (by omega) (h2.one (by omega))),rfl⟩
     omega
  .rw [Z4 (by omega),Q5]
   unfold yz
   exact Ok.some (b3.one (by omega))
end Go.Proofs.YtcoimfbmgjhcjabGreatDoor
