/- The proof of a statement, some of its texts joined in build order: part K11. -/
import Derived.Shelf.Strings.Builder1
import Derived.Shelf.Strconv.Itoa3
import Derived.Lib.AppendIntMem
import Derived.Test.YtlejmeegkpdabaaGreatDoorMxK10
set_option maxHeartbeats 2000000
set_option maxRecDepth 100000
namespace Go.Proofs.YtlejmeegkpdabaaGreatDoor
open Go Go.RowKit Go.Shelf
def yL:Go.Shelf.Ren:=⟨fun|169=>21|n=>n,fun|70=>47|9=>9|0=>0|72=>50|37=>48|127=>104|3=>3|5=>5|n=>n,fun n=>n⟩
theorem G9:Go.Proofs.Lays.n169 Tryz.prog yL:={
 mixed:=by kernel_rfl
 f169:=Tryz.func21.trans (congrArg some (by kernel_rfl))
 t0:=Tryz.underlying0
 a0:=Tryz.isAgg0
 z0:=Tryz.sizeOf0
 v0:=Tryz.zeroValue0
 t3:=Tryz.underlying3
 a3:=Tryz.isAgg3
 z3:=Tryz.sizeOf3
 v3:=Tryz.zeroValue3
 t9:=Tryz.underlying9
 a9:=Tryz.isAgg9
 z9:=Tryz.sizeOf9
 v9:=Tryz.zeroValue9
 t37:=Tryz.underlying48
 a37:=Tryz.isAgg48
 z37:=Tryz.sizeOf48
 v37:=Tryz.zeroValue48
 t70:=Tryz.underlying47
 a70:=Tryz.isAgg47
 z70:=Tryz.sizeOf47
 v70:=Tryz.zeroValue47
 t72:=Tryz.underlying50
 a72:=Tryz.isAgg50
 z72:=Tryz.sizeOf50
 v72:=Tryz.zeroValue50
 t127:=Tryz.underlying104
 a127:=Tryz.isAgg104
 z127:=Tryz.sizeOf104
 v127:=Tryz.zeroValue104}
def Hg:Go.Shelf.Ren:=⟨fun|171=>107|243=>152|246=>192|283=>215|284=>216|285=>217|286=>218|129=>184|317=>228|318=>229|319=>230|320=>231|337=>242|338=>243|n=>n,fun|3=>3|9=>9|2=>2|4=>4|171=>224|0=>0|53=>197|37=>48|5=>5|173=>226|212=>246|51=>195|20=>20|213=>247|46=>162|232=>267|233=>268|n=>n,fun|17=>3|18=>6|19=>7|n=>n⟩
theorem Hf:Go.Proofs.LaysM.n171 Tryz.prog Hg:={
 mixed:=by kernel_rfl
 f129:=Tryz.func184.trans (congrArg some (by kernel_rfl))
 f171:=Tryz.func107.trans (congrArg some (by kernel_rfl))
 f243:=Tryz.func152.trans (congrArg some (by kernel_rfl))
 f246:=Tryz.func192.trans (congrArg some (by kernel_rfl))
 f283:=Tryz.func215.trans (congrArg some (by kernel_rfl))
 f284:=Tryz.func216.trans (congrArg some (by kernel_rfl))
 f285:=Tryz.func217.trans (congrArg some (by kernel_rfl))
 f286:=Tryz.func218.trans (congrArg some (by kernel_rfl))
 f317:=Tryz.func228.trans (congrArg some (by kernel_rfl))
 f318:=Tryz.func229.trans (congrArg some (by kernel_rfl))
 f319:=Tryz.func230.trans (congrArg some (by kernel_rfl))
 f320:=Tryz.func231.trans (congrArg some (by kernel_rfl))
 f337:=Tryz.func242.trans (congrArg some (by kernel_rfl))
 f338:=Tryz.func243.trans (congrArg some (by kernel_rfl))
 t0:=Tryz.underlying0
 a0:=Tryz.isAgg0
 z0:=Tryz.sizeOf0
 v0:=Tryz.zeroValue0
 t2:=Tryz.underlying2
 a2:=Tryz.isAgg2
 z2:=Tryz.sizeOf2
 v2:=Tryz.zeroValue2
 t3:=Tryz.underlying3
 a3:=Tryz.isAgg3
 z3:=Tryz.sizeOf3
 v3:=Tryz.zeroValue3
 t4:=Tryz.underlying4
 a4:=Tryz.isAgg4
 z4:=Tryz.sizeOf4
 v4:=Tryz.zeroValue4
 t5:=Tryz.underlying5
 a5:=Tryz.isAgg5
 z5:=Tryz.sizeOf5
 v5:=Tryz.zeroValue5
 t9:=Tryz.underlying9
 a9:=Tryz.isAgg9
 z9:=Tryz.sizeOf9
 v9:=Tryz.zeroValue9
 t20:=Tryz.underlying20
 a20:=Tryz.isAgg20
 z20:=Tryz.sizeOf20
 v20:=Tryz.zeroValue20
 t37:=Tryz.underlying48
 a37:=Tryz.isAgg48
 z37:=Tryz.sizeOf48
 v37:=Tryz.zeroValue48
 t46:=Tryz.underlying162
 a46:=Tryz.isAgg162
 z46:=Tryz.sizeOf162
 v46:=Tryz.zeroValue162
 t51:=Tryz.underlying195
 a51:=Tryz.isAgg195
 z51:=Tryz.sizeOf195
 v51:=Tryz.zeroValue195
 t53:=Tryz.underlying197
 a53:=Tryz.isAgg197
 z53:=Tryz.sizeOf197
 v53:=Tryz.zeroValue197
 t171:=Tryz.underlying224
 a171:=Tryz.isAgg224
 z171:=Tryz.sizeOf224
 v171:=Tryz.zeroValue224
 t173:=Tryz.underlying226
 a173:=Tryz.isAgg226
 z173:=Tryz.sizeOf226
 v173:=Tryz.zeroValue226
 t212:=Tryz.underlying246
 a212:=Tryz.isAgg246
 z212:=Tryz.sizeOf246
 v212:=Tryz.zeroValue246
 t213:=Tryz.underlying247
 a213:=Tryz.isAgg247
 z213:=Tryz.sizeOf247
 t232:=Tryz.underlying267
 a232:=Tryz.isAgg267
 z232:=Tryz.sizeOf267
 v232:=Tryz.zeroValue267
 t233:=Tryz.underlying268
 a233:=Tryz.isAgg268
 z233:=Tryz.sizeOf268
 v233:=Tryz.zeroValue268
 g17:=by kernel_rfl
 g18:=by kernel_rfl
 g19:=by kernel_rfl
 i0:=by kernel_rfl
 i2:=by kernel_rfl
 i3:=by kernel_rfl
 i4:=by kernel_rfl
 i5:=by kernel_rfl
 i9:=by kernel_rfl
 i20:=by kernel_rfl
 i37:=by kernel_rfl
 i46:=by kernel_rfl
 i51:=by kernel_rfl
 i53:=by kernel_rfl
 i171:=by kernel_rfl
 i173:=by kernel_rfl
 i212:=by kernel_rfl
 i232:=by kernel_rfl
 i233:=by kernel_rfl
 m17:=by kernel_rfl
 m18:=by kernel_rfl
 m19:=by kernel_rfl}
theorem BC:Builder.Extra Tryz.prog yL:={
 sizeBuilder:=by kernel_rfl
 liesBuilder:=by kernel_rfl
 t5:=Tryz.underlying5
 a5:=Tryz.isAgg5
 z5:=Tryz.sizeOf5
 v5:=Tryz.zeroValue5
 infoByte:=by kernel_rfl
 cellsByte:=by kernel_rfl
 sizeByte:=by kernel_rfl
 neB5:=by decide}
abbrev BldAt (w:World) (B b:Nat) (p:Value) (l:List UInt8):Prop:=Lib.BuilderAt 50 5 B b p (Lib.byteCells l) w
abbrev IsBld (w:World) (B b:Nat) (l:List UInt8):Prop:=Lib.IsBuilder 50 5 B b (Lib.byteCells l) w
theorem tJ:(Tryz.prog.info? 50).map (·.size)=some 2:=by kernel_rfl
theorem BB:liesAt Tryz.prog Tryz.prog.depth 50 (2 / Tryz.prog.cellsOf 50) 0 50 1=true:=by kernel_rfl
theorem Cg(b:Nat)(w:World)(h0:w.cell? ⟨b,0,none⟩=some (.pointer (some ⟨b,0,none⟩))):
  Calls Tryz.prog 52 #[.pointer (some ⟨b,0,none⟩)] w fun e w'=>e= .returned (.tuple #[])∧w'=w:=by
 obtain⟨j,a,_⟩:=Option.map_eq_some_iff.1 tJ
 go_enter Tryz.func52,Tryz.ntmps52
 go_wp2
 rw[Lib.run_neq_ptr_same w _ Tryz.underlying47 a]
 go_wp2
 go_end0
 exact⟨rfl,rfl⟩
theorem Cf(b:Nat)(w:World)(h0:w.cell? ⟨b,0,none⟩=some (.pointer none))(hsh:w.shape? b=some (50,2))(hfz:w.frozen? ⟨b,0,none⟩=false):
  Calls Tryz.prog 52 #[.pointer (some ⟨b,0,none⟩)] w fun e w'=>e= .returned (.tuple #[])∧w'=w.setCell ⟨b,0,none⟩ (.pointer (some ⟨b,0,none⟩)):=by
 obtain⟨j,c,a⟩:=Option.map_eq_some_iff.1 tJ
 go_enter Tryz.func52,Tryz.ntmps52
 go_wp2
 rw[Lib.run_to_unsafe w ⟨b,0,none⟩ Tryz.underlying47 Tryz.underlying133 c (by rw[a];decide) hsh (Nat.zero_lt_succ 1)]
 simp only[Result.andThen]
 rw[Oper.upon_value]
 go_wp2
 rw[run_callFunc_extern Tryz.func100 (by kernel_rfl) (by kernel_rfl) (by kernel_rfl) (e:=Extern.AbiNoEscape.same) (by kernel_rfl)]
 rw[Lib.run_noEscape]
 simp only[Result.andThen]
 rw[Oper.upon_value]
 go_wp2
 rw[Lib.run_from_unsafe w ⟨b,0,none⟩ Tryz.underlying133 Tryz.underlying47 c hsh BB]
 simp only[Result.andThen]
 rw[Oper.upon_value]
 go_wp2
 go_end0
 exact⟨rfl,rfl⟩
def KeepT(b:Nat)(w w':World):Prop:=∀k cs T fz,k≠b→T≠5→w.heap[k]?=some (.cells cs T fz)→w'.heap[k]?=some (.cells cs T fz)
theorem KeepT.refl(b:Nat)(w:World):KeepT b w w:=fun _ _ _ _ _ _ h=>h
theorem KeepT.trans{b:Nat}{w w1 w2:World}(h:KeepT b w w1)(k:KeepT b w1 w2):KeepT b w w2:=fun j a T c f g i=>k j a T c f g (h j a T c f g i)
theorem KeepT.of_below{b:Nat}{w w':World}(h:Below w.heap.size w w'):KeepT b w w':=fun k _ _ _ _ _ a=>(h.block k (Array.getElem?_eq_some_iff.1 a).1).trans a
theorem KeepT.set{b:Nat}{w:World}(j:Nat)(v:Value):KeepT b w (w.setCell ⟨b,j,none⟩ v):=fun k _ _ _ a _ c=>by
 rw[←c];exact Below.heap_setCell _ _ _ _ (fun e=>a (by simpa using e))
theorem Ce(B b:Nat)(l:List UInt8)(w:World)(h:IsBld w B b l):
  Calls Tryz.prog 52 #[.pointer (some ⟨b,0,none⟩)] w fun e w'=>e= .returned (.tuple #[])∧BldAt w' B b (.pointer (some ⟨b,0,none⟩)) l∧Below B w w'∧KeepT b w w':=by
 rcases h with h|h
 ·refine(Cf b w h.cell0 h.shape h.frozen0).mono ?_
  rintro e w' ⟨rfl,rfl⟩
  exact⟨rfl,h.used _,(Below.refl B w).setCell (p:=⟨b,0,none⟩) h.1 _, .set _ _⟩
 refine(Cg b w h.cell0).mono ?_
 rintro e w' ⟨rfl,rfl⟩
 exact⟨rfl,h,Below.refl B _, .refl _ _⟩
theorem KeepT.grown{b B:Nat}{w w':World}{v:Value}{n:Nat}{xs:List Value}(hown:w.ownsRow B 5 1 v n xs)(hg:w.grownBy w' v.ownBlock):KeepT b w w':=fun k _ _ _ _ c a=>
 (hg.block k (Array.getElem?_eq_some_iff.1 a).1 (fun e=>Lib.ownBlock_ne hown a c e.symm)).trans a
theorem infoByte:(Tryz.prog.info? 5).map (fun i=>(i.zero,i.size,i.bytes))=some (some (.int .u8 0),1,1):=by kernel_rfl
theorem tg(B b:Nat)(l:List UInt8)(s:ByteArray)(w:World)(h:IsBld w B b l)(hlen:l.length+s.size≤140737488355328)(hBw:B≤w.heap.size):
  Calls Tryz.prog 18 #[.pointer (some ⟨b,0,none⟩), .string s] w fun e w'=>e= .returned (.tuple #[.int .i64 s.size, .nilIface])∧IsBld w' B b (l++s.data.toList)∧Below B w w'∧KeepT b w w':=by
 obtain⟨K,I,x,y,z⟩:=info_parts infoByte
 have o:=Lib.hid (Ce B b l w h)
 clear h
 go_enter Tryz.func18,Tryz.ntmps18
 go_wp2_with fail
 refine o.out.mono ?_
 rintro e A ⟨rfl,G,n,q⟩
 obtain⟨D,v,j,c,t⟩:=G
 rw[Lib.byteCells_length]at c
 have L:A.cell? ⟨b,0,none⟩=some (.pointer (some ⟨b,0,none⟩)):=by rw[Lib.cell_of_heap j];rfl
 have M:A.cell? ⟨b,1,none⟩=some v:=by rw[Lib.cell_of_heap j];rfl
 go_wp2_with (at_builtin;refine Lib.wpList_append_own_string _ rfl _ _ 48 9 rfl B 5 K Tryz.underlying48 Tryz.underlying9 I x y z _ _ _ rfl c s rfl ?c3 ?c4 ?c5 ?_)
 case c3=>unfold maxLen;omega
 case c4=>omega
 case c5=>have:=n.size;omega
 intro v' w2 f a _
 have r:b<A.heap.size:=(Array.getElem?_eq_some_iff.1 j).1
 have i:w2.heap[b]?=some (.cells #[.pointer (some ⟨b,0,none⟩),v] 50 (0,0)):=by
  rw[a.block b r (fun e=>t e.symm)]
  exact j
 have N:w2.cell? ⟨b,0,none⟩=some (.pointer (some ⟨b,0,none⟩)):=by rw[Lib.cell_of_heap i];rfl
 have O:w2.cell? ⟨b,1,none⟩=some v:=by rw[Lib.cell_of_heap i];rfl
 have P:w2.frozen? ⟨b,1,none⟩=false:=Lib.frozen_of_heap i 1
 obtain⟨C,E,m,rfl⟩:∃C E m,v'= .slice C E m:=by
  rcases f.2 with⟨u,_⟩|⟨g,m,F,u,_⟩
  ·exact⟨_,_,_,u⟩
  exact⟨_,_,_,u⟩
 go_wp2
 go_ret2
 have H:Lib.byteCells (l++s.data.toList)=Lib.byteCells l++Lib.strCells s:=by rw[Lib.byteCells_append,Lib.strCells_eq]
 refine⟨rfl, .inr ?_,?_,q.trans ((KeepT.grown c a).trans (.set _ _))⟩
 ·rw[H]
  exact Lib.BuilderAt.put (T:=50) (e:=5) D i (bs':=Lib.byteCells l++Lib.strCells s) (by rw[List.length_append,Lib.strCells_length,Lib.byteCells_length];exact f) (by decide)
 exact(n.grown a (by have:=n.size;omega) (fun k J=>(c.lt k J).1)).setCell (p:=⟨b,1,none⟩) D _
theorem s8(B b:Nat)(l:List UInt8)(w:World)(h:IsBld w B b l)(hBw:B≤w.heap.size):
  Calls Tryz.prog 21 #[.pointer (some ⟨b,0,none⟩)] w fun e w'=>e= .returned (.string ⟨l.toArray⟩)∧Below B w w':=Any.Builder_String_any G9 BC B b l w h hBw
noncomputable def zu:String:=((Tryz.prog.globals[3]?).map (·.name)).getD default
def TabW(w:World):Prop:=Lib.TabIs Tryz.prog w zu .u64 Lib.pow10Tab
theorem mE(n:Int)(h0:-9223372036854775808≤n)(h1:n≤9223372036854775807)(w:World)(htab:TabW w):
  Calls Tryz.prog 107 #[.int .i64 n] w fun e w'=>e= .returned (.string ⟨(Lib.itoa n).toArray⟩)∧Below w.heap.size w w':=
 (Any.strconv_Itoa Hf n h0 h1 w (Eq.mp (congrArg (fun s=>Lib.TabIs Tryz.prog w s .u64 Lib.pow10Tab) (by kernel_rfl)) htab)).mono fun e w' ⟨a,k,b,hw⟩=>⟨a,by rw[hw];exact Lib.below_grow _ w (Nat.le_refl _) k b⟩
theorem FP{w w':World}{B:Nat}{e:TypeId}{n:Nat}{v:Value}{xs:List Value}(h:w.ownsRow B e 1 v n xs)(hb:Below w.heap.size w w'):w'.ownsRow B e 1 v n xs:=by
 refine⟨h.1,?_⟩
 rcases h.2 with j|⟨g,c,f,rfl,i,a,b⟩
 ·exact .inl j
 exact .inr ⟨g,c,f,rfl,i,(hb.block g (Array.getElem?_eq_some_iff.1 a).1).trans a,b⟩
theorem IsBld.new(w:World):IsBld (w.alloc (.cells #[.pointer none, .slice none 0 0] 50)) w.heap.size w.heap.size []:=
 .inl ⟨Nat.le_refl _, .slice none 0 0,heap_alloc_new w _,World.ownsRow_nil _ _ _ _,by simp[Value.ownBlock]⟩
theorem IsBld.lt{w:World}{B b:Nat}{l:List UInt8}(h:IsBld w B b l):B≤b∧b<w.heap.size:=by
 rcases h with h|h
 ·exact⟨h.1,h.lt⟩
 exact⟨h.1,h.lt⟩
theorem IsBld.below{w w':World}{B b:Nat}{l:List UInt8}(h:IsBld w B b l)(hb:Below w.heap.size w w'):IsBld w' B b l:=by
 have key:∀p,BldAt w B b p l→BldAt w' B b p l:=fun p ⟨f,v,c,g,i⟩=>by
  have a:b<w.heap.size:=(Array.getElem?_eq_some_iff.1 c).1
  exact⟨f,v,(hb.block b a).trans c,FP g hb,i⟩
 exact h.elim (fun h=> .inl (key _ h)) (fun h=> .inr (key _ h))
end Go.Proofs.YtlejmeegkpdabaaGreatDoor
