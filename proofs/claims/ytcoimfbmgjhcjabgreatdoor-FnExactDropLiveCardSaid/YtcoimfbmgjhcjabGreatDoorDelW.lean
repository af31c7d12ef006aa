/-
  The laying of the function that writes a number, at this program (printed by the kit's lay-plain.mjs). And what stood behind it in 4 texts.
  Conditions: said at the theorems.
-/
import Derived.Shelf.LaysM
import Derived.Ground.NamesProg
import Derived.Test.YtcoimfbmgjhcjabGreatDoorProg
import Derived.Test.YtcoimfbmgjhcjabGreatDoorVStr
import Derived.WalkKit
import Derived.Shelf.Strconv.Itoa3
import Derived.Shelf.Abstract
import Derived.Lib.LaidTab
import Derived.KernelRfl
import Derived.Shelf.Lays
import Derived.Shelf.Strings.Repeat
import Derived.Test.YtcoimfbmgjhcjabGreatDoorCode
import Derived.Deep.RegionLaw
import Derived.Lib.SliceRun
set_option linter.all false
namespace Go.Proofs
open Go.Shelf
def Tryz.lu:Go.Shelf.Ren:=⟨fun | 171=>190 | 243=>201 | 246=>212 | 283=>219 | 284=>220 | 285=>221 | 286=>222 | 129=>227 | 317=>226 | 318=>228 | 319=>229 | 320=>230 | 337=>233 | 338=>234 | n=>n,fun | 3=>3 | 9=>9 | 2=>2 | 4=>4 | 171=>212 | 0=>0 | 53=>196 | 37=>202 | 5=>5 | 173=>215 | 212=>220 | 51=>193 | 20=>20 | 213=>221 | 46=>184 | 232=>227 | 233=>228 | n=>n,fun | 17=>1 | 18=>3 | 19=>4 | n=>n⟩
theorem Tryz.wV:Go.Proofs.LaysM.n171 Tryz.prog Tryz.lu:={
 mixed:=by kernel_rfl
 f129:=Tryz.func227.trans (congrArg some (by kernel_rfl))
 f171:=Tryz.func190.trans (congrArg some (by kernel_rfl))
 f243:=Tryz.func201.trans (congrArg some (by kernel_rfl))
 f246:=Tryz.func212.trans (congrArg some (by kernel_rfl))
 f283:=Tryz.func219.trans (congrArg some (by kernel_rfl))
 f284:=Tryz.func220.trans (congrArg some (by kernel_rfl))
 f285:=Tryz.func221.trans (congrArg some (by kernel_rfl))
 f286:=Tryz.func222.trans (congrArg some (by kernel_rfl))
 f317:=Tryz.func226.trans (congrArg some (by kernel_rfl))
 f318:=Tryz.func228.trans (congrArg some (by kernel_rfl))
 f319:=Tryz.func229.trans (congrArg some (by kernel_rfl))
 f320:=Tryz.func230.trans (congrArg some (by kernel_rfl))
 f337:=Tryz.func233.trans (congrArg some (by kernel_rfl))
 f338:=Tryz.func234.trans (congrArg some (by kernel_rfl))
 t0:=Tryz.underlying0
 a0:=Tryz.isAgg0
 z0:=Tryz.sizeOf0
 v0:=Tryz.zeroValue0
 t2:=Tryz.underlying2
 a2:=Tryz.isAgg2
 z2:=Tryz.sizeOf2
 v2:=Tryz.zeroValue2
 t3:=Tryz.underlying3
 a3:=Tryz.isAgg3
 z3:=Tryz.sizeOf3
 v3:=Tryz.zeroValue3
 t4:=Tryz.underlying4
 a4:=Tryz.isAgg4
 z4:=Tryz.sizeOf4
 v4:=Tryz.zeroValue4
 t5:=Tryz.underlying5
 a5:=Tryz.isAgg5
 z5:=Tryz.sizeOf5
 v5:=Tryz.zeroValue5
 t9:=Tryz.underlying9
 a9:=Tryz.isAgg9
 z9:=Tryz.sizeOf9
 v9:=Tryz.zeroValue9
 t20:=Tryz.underlying20
 a20:=Tryz.isAgg20
 z20:=Tryz.sizeOf20
 v20:=Tryz.zeroValue20
 t37:=Tryz.underlying202
 a37:=Tryz.isAgg202
 z37:=Tryz.sizeOf202
 v37:=Tryz.zeroValue202
 t46:=Tryz.underlying184
 a46:=Tryz.isAgg184
 z46:=Tryz.sizeOf184
 v46:=Tryz.zeroValue184
 t51:=Tryz.underlying193
 a51:=Tryz.isAgg193
 z51:=Tryz.sizeOf193
 v51:=Tryz.zeroValue193
 t53:=Tryz.underlying196
 a53:=Tryz.isAgg196
 z53:=Tryz.sizeOf196
 v53:=Tryz.zeroValue196
 t171:=Tryz.underlying212
 a171:=Tryz.isAgg212
 z171:=Tryz.sizeOf212
 v171:=Tryz.zeroValue212
 t173:=Tryz.underlying215
 a173:=Tryz.isAgg215
 z173:=Tryz.sizeOf215
 v173:=Tryz.zeroValue215
 t212:=Tryz.underlying220
 a212:=Tryz.isAgg220
 z212:=Tryz.sizeOf220
 v212:=Tryz.zeroValue220
 t213:=Tryz.underlying221
 a213:=Tryz.isAgg221
 z213:=Tryz.sizeOf221
 t232:=Tryz.underlying227
 a232:=Tryz.isAgg227
 z232:=Tryz.sizeOf227
 v232:=Tryz.zeroValue227
 t233:=Tryz.underlying228
 a233:=Tryz.isAgg228
 z233:=Tryz.sizeOf228
 v233:=Tryz.zeroValue228
 g17:=by kernel_rfl
 g18:=by kernel_rfl
 g19:=by kernel_rfl
 i0:=by kernel_rfl
 i2:=by kernel_rfl
 i3:=by kernel_rfl
 i4:=by kernel_rfl
 i5:=by kernel_rfl
 i9:=by kernel_rfl
 i20:=by kernel_rfl
 i37:=by kernel_rfl
 i46:=by kernel_rfl
 i51:=by kernel_rfl
 i53:=by kernel_rfl
 i171:=by kernel_rfl
 i173:=by kernel_rfl
 i212:=by kernel_rfl
 i232:=by kernel_rfl
 i233:=by kernel_rfl
 m17:=by kernel_rfl
 m18:=by kernel_rfl
 m19:=by kernel_rfl }
end Go.Proofs
namespace Go.Proofs.YtcoimfbmgjhcjabGreatDoor
open Go.RowKit Go.Pv Go.Shelf
theorem Qeq:Tryz.prog.globalNamed "internal/strconv.uint64pow10" = some 1:=by kernel_rfl
theorem ZF:((Lib.pow10Tab.map fun z=>Value.int .u64 z).toArray)=(#[.int .u64 1,.int .u64 10,.int .u64 100,.int .u64 1000,.int .u64 10000,.int .u64 100000,.int .u64 1000000,.int .u64 10000000,.int .u64 100000000,.int .u64 1000000000,.int .u64 10000000000,.int .u64 100000000000,.int .u64 1000000000000,.int .u64 10000000000000,.int .u64 100000000000000,.int .u64 1000000000000000,.int .u64 10000000000000000,.int .u64 100000000000000000,.int .u64 1000000000000000000,.int .u64 10000000000000000000]:Array Value):=by kernel_rfl
theorem Qyw {w:World} (h:Go.Ev.GW w):Lib.TabIs Tryz.prog w "internal/strconv.uint64pow10" .u64 Lib.pow10Tab:=by
 obtain ⟨_,t,f,h2⟩:=h.2 (1,[.int .u64 1,.int .u64 10,.int .u64 100,.int .u64 1000,.int .u64 10000,.int .u64 100000,.int .u64 1000000,.int .u64 10000000,.int .u64 100000000,.int .u64 1000000000,.int .u64 10000000000,.int .u64 100000000000,.int .u64 1000000000000,.int .u64 10000000000000,.int .u64 100000000000000,.int .u64 1000000000000000,.int .u64 10000000000000000,.int .u64 100000000000000000,.int .u64 1000000000000000000,.int .u64 10000000000000000000]) (by unfold Go.Ev.gTabs;simp)
 unfold Lib.TabIs World.var?
 rw [Qeq,ZF]
 simp only [Option.bind_some]
 rw [h2]
theorem Qot {w:World} (h:Lib.TabIs Tryz.prog w "internal/strconv.uint64pow10" .u64 Lib.pow10Tab):1 < w.heap.size/\∃ t f,w.heap[1]? = some (.cells ([.int .u64 1,.int .u64 10,.int .u64 100,.int .u64 1000,.int .u64 10000,.int .u64 100000,.int .u64 1000000,.int .u64 10000000,.int .u64 100000000,.int .u64 1000000000,.int .u64 10000000000,.int .u64 100000000000,.int .u64 1000000000000,.int .u64 10000000000000,.int .u64 100000000000000,.int .u64 1000000000000000,.int .u64 10000000000000000,.int .u64 100000000000000000,.int .u64 1000000000000000000,.int .u64 10000000000000000000]:List Value).toArray t f):=by
 unfold Lib.TabIs World.var? at h
 rw [Qeq,ZF] at h
 simp only [Option.bind_some] at h
 split at h
 .rename_i cs t f hc
  injection h with h
  have au:1 < w.heap.size:=by
   rcases Nat.lt_or_ge 1 w.heap.size with g | g
   .exact g
   .rw [Array.getElem?_eq_none g] at hc;simp at hc
  exact ⟨au,t,f,by rw [hc,h]⟩
 .simp at h
theorem Qou:ZG Tryz.prog 190:=fun n w h0 h1 hg=>Any.strconv_Itoa Tryz.wV n h0 h1 w (Qyw hg)
theorem Qsb:∀ args ai H v H',FP args ai H=some (v,H')->Go.Ev.fR Tryz.prog 190 args ai H v H' :=
 Qru (enters_of Tryz.func190 (by kernel_rfl) rfl) Qou
end Go.Proofs.YtcoimfbmgjhcjabGreatDoor
namespace Go.Proofs
open Go.Shelf
def Tryz.iB:Go.Shelf.Ren:=⟨fun | 105=>202 | 212=>195 | 99=>213 | 165=>214 | 166=>215 | 170=>216 | 169=>217 | 263=>208 | 264=>209 | 206=>223 | 240=>224 | 241=>225 | 276=>231 | 277=>232 | n=>n,fun | 9=>9 | 3=>3 | 4=>4 | 20=>20 | 0=>0 | 46=>184 | 109=>185 | 5=>5 | 72=>204 | 76=>208 | 51=>193 | 146=>194 | 53=>196 | 148=>197 | 70=>201 | 37=>202 | 75=>207 | 127=>217 | 164=>223 | 80=>211 | n=>n,fun | n=>n⟩
theorem Tryz.BZ:Go.Proofs.Lays.n105 Tryz.prog Tryz.iB:={
 mixed:=by kernel_rfl
 f99:=Tryz.func213.trans (congrArg some (by kernel_rfl))
 f105:=Tryz.func202.trans (congrArg some (by kernel_rfl))
 f165:=Tryz.func214.trans (congrArg some (by kernel_rfl))
 f166:=Tryz.func215.trans (congrArg some (by kernel_rfl))
 f169:=Tryz.func217.trans (congrArg some (by kernel_rfl))
 f170:=Tryz.func216.trans (congrArg some (by kernel_rfl))
 f206:=Tryz.func223.trans (congrArg some (by kernel_rfl))
 f212:=Tryz.func195.trans (congrArg some (by kernel_rfl))
 f240:=Tryz.func224.trans (congrArg some (by kernel_rfl))
 f241:=Tryz.func225.trans (congrArg some (by kernel_rfl))
 f263:=Tryz.func208.trans (congrArg some (by kernel_rfl))
 f264:=Tryz.func209.trans (congrArg some (by kernel_rfl))
 f276:=Tryz.func231.trans (congrArg some (by kernel_rfl))
 f277:=Tryz.func232.trans (congrArg some (by kernel_rfl))
 t0:=Tryz.underlying0
 a0:=Tryz.isAgg0
 z0:=Tryz.sizeOf0
 v0:=Tryz.zeroValue0
 t3:=Tryz.underlying3
 a3:=Tryz.isAgg3
 z3:=Tryz.sizeOf3
 v3:=Tryz.zeroValue3
 t4:=Tryz.underlying4
 a4:=Tryz.isAgg4
 z4:=Tryz.sizeOf4
 v4:=Tryz.zeroValue4
 t5:=Tryz.underlying5
 a5:=Tryz.isAgg5
 z5:=Tryz.sizeOf5
 v5:=Tryz.zeroValue5
 t9:=Tryz.underlying9
 a9:=Tryz.isAgg9
 z9:=Tryz.sizeOf9
 v9:=Tryz.zeroValue9
 t20:=Tryz.underlying20
 a20:=Tryz.isAgg20
 z20:=Tryz.sizeOf20
 v20:=Tryz.zeroValue20
 t37:=Tryz.underlying202
 a37:=Tryz.isAgg202
 z37:=Tryz.sizeOf202
 v37:=Tryz.zeroValue202
 t46:=Tryz.underlying184
 a46:=Tryz.isAgg184
 z46:=Tryz.sizeOf184
 v46:=Tryz.zeroValue184
 t51:=Tryz.underlying193
 a51:=Tryz.isAgg193
 z51:=Tryz.sizeOf193
 v51:=Tryz.zeroValue193
 t53:=Tryz.underlying196
 a53:=Tryz.isAgg196
 z53:=Tryz.sizeOf196
 v53:=Tryz.zeroValue196
 t70:=Tryz.underlying201
 a70:=Tryz.isAgg201
 z70:=Tryz.sizeOf201
 v70:=Tryz.zeroValue201
 t72:=Tryz.underlying204
 a72:=Tryz.isAgg204
 z72:=Tryz.sizeOf204
 v72:=Tryz.zeroValue204
 t75:=Tryz.underlying207
 a75:=Tryz.isAgg207
 z75:=Tryz.sizeOf207
 v75:=Tryz.zeroValue207
 t76:=Tryz.underlying208
 a76:=Tryz.isAgg208
 z76:=Tryz.sizeOf208
 v76:=Tryz.zeroValue208
 t109:=Tryz.underlying185
 a109:=Tryz.isAgg185
 z109:=Tryz.sizeOf185
 v109:=Tryz.zeroValue185
 t127:=Tryz.underlying217
 a127:=Tryz.isAgg217
 z127:=Tryz.sizeOf217
 v127:=Tryz.zeroValue217
 t146:=Tryz.underlying194
 a146:=Tryz.isAgg194
 z146:=Tryz.sizeOf194
 v146:=Tryz.zeroValue194
 t148:=Tryz.underlying197
 a148:=Tryz.isAgg197
 z148:=Tryz.sizeOf197
 v148:=Tryz.zeroValue197
 t164:=Tryz.underlying223
 a164:=Tryz.isAgg223
 z164:=Tryz.sizeOf223
 v164:=Tryz.zeroValue223 }
end Go.Proofs
namespace Go.Proofs.YtcoimfbmgjhcjabGreatDoor
open Go.RowKit Go.Pv Go.Shelf
theorem Sc:Builder.Extra Tryz.prog Tryz.iB where
 sizeBuilder:=by kernel_rfl
 liesBuilder:=by kernel_rfl
 t5:=Tryz.underlying5
 a5:=Tryz.isAgg5
 z5:=Tryz.sizeOf5
 v5:=Tryz.zeroValue5
 infoByte:=by kernel_rfl
 cellsByte:=by kernel_rfl
 sizeByte:=by kernel_rfl
 neB5:=by decide
theorem Qsc:ZH Tryz.prog 202:=fun s n w hn hs=>Any.strings_Repeat Tryz.BZ Sc s n w (by omega) (by
 have:s.size*n<=1000000*1000000:=Nat.mul_le_mul hs hn
 omega)
theorem Qw5:∀ args ai H v H',FQ args ai H=some (v,H')->Go.Ev.fR Tryz.prog 202 args ai H v H' :=
 Qum (enters_of Tryz.func202 (by kernel_rfl) rfl) Qsc
theorem Qsd:(Tryz.prog.info? 54).map (fun i=>(i.zero,i.size,i.bytes))=some (some (.agg #[.int .i64 0,.int .i64 0,.int .i64 0,.int .i64 0,.int .i64 0,.int .i64 0,.int .i64 0,.int .i64 0]),8,64):=by kernel_rfl
def wW:List Value:=[.int .i64 0,.int .i64 0,.int .i64 0,.int .i64 0,.int .i64 0,.int .i64 0,.int .i64 0,.int .i64 0]
set_option maxHeartbeats 4000000 in
set_option maxRecDepth 1000000 in
theorem Qse:ZI Tryz.prog 88 8 wW:=by
 intro b off n cap i j cs w mY hj iH hn hlen cx h1 dH hf
 obtain ⟨eN,m,dH,hm⟩:=dH
 obtain ⟨i0,ZJ,jf,DL,jk⟩:=info_parts Qsd
 obtain ⟨A,hA,o7⟩:∃ A:Addr,(if cap=j then some (⟨b,off,none⟩:Addr) else some ⟨b,off+j*8,none⟩)=some A/\Hid (∀ t u,cs[t]? = some u->w.drew.cell? (A.add t)=some u):=by
  by_cases h:cap=j
  .refine ⟨⟨b,off,none⟩,by simp [h],fun t u hu=>?_⟩
   have h0:cs.length=0:=by rw [hlen,show n - j=0 by omega]
   rw [List.length_eq_zero_iff.1 h0] at hu
   simp at hu
  .refine ⟨⟨b,off+j*8,none⟩,by simp [h],fun t u hu=>?_⟩
   rw [Addr.add_lit]
   exact cx t u hu
 have s1:Hid (cs.length=(n - j)*8):=hlen
 have s2:Hid (∀ u∈cs,u.oneCell'=true):=h1
 have s3:Hid (∀ t,t < cs.length->(w.drew.cell? ⟨b,off+i*8+t,none⟩).isSome=true/\w.drew.frozen? ⟨b,off+i*8+t,none⟩=false):=by
  intro t ht
  rw [hlen] at ht
  have:=hf (i*8+t) (by omega)
  rw [<- Nat.add_assoc] at this
  exact ⟨by show (w.cell? _).isSome=true;exact Go.Ev.cA dH (by omega),this⟩
 obtain ⟨W1,OQ⟩:∃ W1,W1=w.drew.setCells b (off+i*8) cs:=⟨_,rfl⟩
 have fc:∀ ty,(Builtin.clear_ #[33] ty #[.slice (some ⟨b,off+(i+(n - j))*8,none⟩) (n - (i+(n - j))) (cap - (i+(n - j)))]).run Tryz.prog W1=.ok (.tuple #[]) (W1.setCells b (off+(i+(n - j))*8) (List.replicate (j - i) wW).flatten):=by
  intro ty
  have OR:((List.replicate (j - i) wW).flatten).length=(j - i)*8:=by simp [wW]
  have eF:=run_storeCells_cells (P:=Tryz.prog) b (off+(i+(n - j))*8) (List.replicate (j - i) wW).flatten 0 W1
   (fun q hq=>by rw [OR] at hq;rw [OQ];exact Go.Ev.cA (by rw [Go.Ev.cK];exact dH) (by omega))
   (fun q hq=>by rw [OR] at hq;rw [OQ,World.frozen?_setCells];have:=hf ((i+(n - j))*8+q) (by omega);rw [Nat.add_zero,Nat.add_assoc];exact this)
   (fun v hv=>by
    simp only [List.mem_flatten,List.mem_replicate] at hv
    obtain ⟨y,⟨_,rfl⟩,hv⟩:=hv
    have hall:wW.all (fun v=>v.oneCell')=true:=by decide
    exact List.all_eq_true.1 hall v hv)
  simp only [Nat.add_zero] at eF
  have I7:(Builtin.zeroCells (Value.agg #[.int .i64 0,.int .i64 0,.int .i64 0,.int .i64 0,.int .i64 0,.int .i64 0,.int .i64 0,.int .i64 0]).cells (j - i)).toList=(List.replicate (j - i) wW).flatten:=by
   rw [Go.Ev.dN];rfl
  obtain ⟨q,hq⟩:∃ q,j - i=q+1:=⟨j - i - 1,by omega⟩
  rw [show n - (i+(n - j))=q+1 by omega]
  rw [hq] at I7 eF ⊢
  simp [Builtin.clear_,run_underlying Tryz.underlying33,zeroValue,typeInfo,ZJ,jf,I7,eF]
 have hW:Hid (W1=w.drew.setCells b (off+i*8) cs):=OQ
 have hic:i<=cap:=by omega
 have hjc:j<=cap:=by omega
 clear OQ hf cx h1
 go_enter Tryz.func88,Tryz.ntmps88
 go_wp2_with fail
 go_region_law (refine step_append_room rfl (.tmp 22) (.tmp 25) 33 rfl 54 i0 8 Tryz.underlying33 ZJ DL b off i cap (by simp [Act.eval,Act.put]) A (n - j) (cap - j) cs (by simp [Act.eval,Act.put]) s1.out o7.out s2.out (by omega) s3.out ?_;rw [<- hW.out])
 go_wp2
 go_ret
 exact ⟨rfl,by rw [hW.out]⟩
def I8:Ty:=(.pair (.int .i64) (.pair (.int .i64) (.pair (.int .i64) (.pair (.int .i64) (.pair (.int .i64) (.pair (.int .i64) (.pair (.int .i64) (.int .i64))))))))
theorem Qw6:∀ args ai H v H',DM 8 wW args ai H=some (v,H')->Go.Ev.fR Tryz.prog 88 args ai H v H' :=
 Quk (enters_of Tryz.func88 (by kernel_rfl) rfl) (by decide) rfl (by decide) Qse
theorem Qyx (ai:Nat):wX (Sd I8) (I9 I8) (DM 8 wW) ai:=Se (t:=I8) rfl rfl (by decide) (by decide) ai
end Go.Proofs.YtcoimfbmgjhcjabGreatDoor
