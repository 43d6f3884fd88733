/- The proof of a statement, some of its texts joined in build order: part G. -/
import Derived.Test.YtlejmeegkpdabaaGreatDoorMxZ4
import Derived.Shelf.Strings.Split
import Derived.Shelf.Strings.Prefix
import Derived.Test.YtlejmeegkpdabaaGreatDoorMxF2
set_option maxHeartbeats 1000000
set_option maxRecDepth 100000
namespace Go.Proofs.YtlejmeegkpdabaaGreatDoor
open Go Go.RowKit Go.Shelf
def sh146_ren:Go.Shelf.Ren:=⟨fun|146=>110|221=>158|268=>195|138=>196|143=>197|195=>219|197=>220|218=>221|219=>108|260=>232|217=>153|225=>154|224=>155|267=>156|266=>193|314=>194|n=>n,fun|9=>9|31=>37|3=>3|4=>4|0=>0|105=>229|21=>21|5=>5|46=>162|119=>259|139=>262|138=>261|146=>204|51=>195|n=>n,fun|1=>0|3=>4|4=>5|n=>n⟩
theorem G8:Go.Proofs.Lays.n146 Tryz.prog sh146_ren:={
 mixed:=by kernel_rfl
 f138:=Tryz.func196.trans (congrArg some (by kernel_rfl))
 f143:=Tryz.func197.trans (congrArg some (by kernel_rfl))
 f146:=Tryz.func110.trans (congrArg some (by kernel_rfl))
 f195:=Tryz.func219.trans (congrArg some (by kernel_rfl))
 f197:=Tryz.func220.trans (congrArg some (by kernel_rfl))
 f217:=Tryz.func153.trans (congrArg some (by kernel_rfl))
 f218:=Tryz.func221.trans (congrArg some (by kernel_rfl))
 f219:=Tryz.func108.trans (congrArg some (by kernel_rfl))
 f221:=Tryz.func158.trans (congrArg some (by kernel_rfl))
 f224:=Tryz.func155.trans (congrArg some (by kernel_rfl))
 f225:=Tryz.func154.trans (congrArg some (by kernel_rfl))
 f260:=Tryz.func232.trans (congrArg some (by kernel_rfl))
 f266:=Tryz.func193.trans (congrArg some (by kernel_rfl))
 f267:=Tryz.func156.trans (congrArg some (by kernel_rfl))
 f268:=Tryz.func195.trans (congrArg some (by kernel_rfl))
 f314:=Tryz.func194.trans (congrArg some (by kernel_rfl))
 t0:=Tryz.underlying0
 a0:=Tryz.isAgg0
 z0:=Tryz.sizeOf0
 v0:=Tryz.zeroValue0
 t3:=Tryz.underlying3
 a3:=Tryz.isAgg3
 z3:=Tryz.sizeOf3
 v3:=Tryz.zeroValue3
 t4:=Tryz.underlying4
 a4:=Tryz.isAgg4
 z4:=Tryz.sizeOf4
 v4:=Tryz.zeroValue4
 t5:=Tryz.underlying5
 a5:=Tryz.isAgg5
 z5:=Tryz.sizeOf5
 v5:=Tryz.zeroValue5
 t9:=Tryz.underlying9
 a9:=Tryz.isAgg9
 z9:=Tryz.sizeOf9
 v9:=Tryz.zeroValue9
 t21:=Tryz.underlying21
 a21:=Tryz.isAgg21
 z21:=Tryz.sizeOf21
 v21:=Tryz.zeroValue21
 t31:=Tryz.underlying37
 a31:=Tryz.isAgg37
 z31:=Tryz.sizeOf37
 v31:=Tryz.zeroValue37
 t46:=Tryz.underlying162
 a46:=Tryz.isAgg162
 z46:=Tryz.sizeOf162
 v46:=Tryz.zeroValue162
 t51:=Tryz.underlying195
 a51:=Tryz.isAgg195
 z51:=Tryz.sizeOf195
 v51:=Tryz.zeroValue195
 t105:=Tryz.underlying229
 a105:=Tryz.isAgg229
 z105:=Tryz.sizeOf229
 v105:=Tryz.zeroValue229
 t119:=Tryz.underlying259
 a119:=Tryz.isAgg259
 z119:=Tryz.sizeOf259
 t138:=Tryz.underlying261
 a138:=Tryz.isAgg261
 z138:=Tryz.sizeOf261
 v138:=Tryz.zeroValue261
 t139:=Tryz.underlying262
 a139:=Tryz.isAgg262
 z139:=Tryz.sizeOf262
 v139:=Tryz.zeroValue262
 t146:=Tryz.underlying204
 a146:=Tryz.isAgg204
 z146:=Tryz.sizeOf204
 v146:=Tryz.zeroValue204
 g1:=by kernel_rfl
 g3:=by kernel_rfl
 g4:=by kernel_rfl}
def G7:Go.Shelf.Ren:=⟨fun|101=>111|208=>159|206=>198|n=>n,fun|9=>9|4=>4|3=>3|n=>n,fun n=>n⟩
theorem G6:Go.Proofs.Lays.n101 Tryz.prog G7:={
 mixed:=by kernel_rfl
 f101:=Tryz.func111.trans (congrArg some (by kernel_rfl))
 f206:=Tryz.func198.trans (congrArg some (by kernel_rfl))
 f208:=Tryz.func159.trans (congrArg some (by kernel_rfl))
 t3:=Tryz.underlying3
 a3:=Tryz.isAgg3
 z3:=Tryz.sizeOf3
 v3:=Tryz.zeroValue3
 t4:=Tryz.underlying4
 a4:=Tryz.isAgg4
 z4:=Tryz.sizeOf4
 v4:=Tryz.zeroValue4
 t9:=Tryz.underlying9
 a9:=Tryz.isAgg9
 z9:=Tryz.sizeOf9
 v9:=Tryz.zeroValue9}
theorem zj(m:UInt8):∀(n:Nat) (l:List UInt8),l.count m=n→Lib.splitK [m] 0 n l=aA m l
 |0,l,h=>by
  rw[ij (List.count_eq_zero.1 h)];rfl
 |n+1,l,h=>by
  obtain⟨a,r,rfl,ha⟩:=List.eq_append_cons_of_mem (List.count_pos_iff.1 (show 0<l.count m by omega))
  rw[List.count_append,List.count_eq_zero.2 ha,List.count_cons_self,Nat.zero_add]at h
  rw[eU ha,Lib.splitK,qH ha,if_neg (by rw[beq_iff_eq];omega),Int.toNat_natCast]
  rw[←zj m n r (by omega)]
  simp
theorem HO(t:ByteArray):aI (Lib.splitB ⟨#[32]⟩ 0 (Lib.countB t ⟨#[32]⟩) t)=aA 32 t.data.toList:=by
 unfold aI
 rw[Lib.splitB_data]
 show Lib.splitK [32] 0 (Lib.count t.data.toList [32]) _=_
 rw[Lib.count_one]
 exact zj 32 _ _ rfl
theorem D9:(Tryz.prog.info? (sh146_ren.t 9)).map (fun i=>(i.zero,i.size,i.bytes))=some (some (.string ByteArray.empty),1,16):=by kernel_rfl
theorem pq(t:ByteArray)(ht:t.size≤70000)(w:World)(hL:LibW w):
  Calls Tryz.prog 110 #[.string t, .string ⟨#[32]⟩] w fun e w'=>∃L:List ByteArray,e= .returned (.slice (some ⟨w.heap.size,0,none⟩) L.length L.length)∧aI L=aA 32 t.data.toList∧w'=w.alloc (.cells (L.map Value.string).toArray 9):=by
 obtain⟨-,⟨m,b⟩,-⟩:=hL
 refine(Any.strings_Split G8 D9 t ⟨#[32]⟩ m w (by omega) b (by decide)).mono ?_
 rintro e w' ⟨rfl,rfl⟩
 have a:=Lib.splitB_all ⟨#[32]⟩ (by decide) 0 _ t rfl
 exact⟨_,by rw[a],HO t,rfl⟩
theorem pN(L:List ByteArray):(aI L).length=L.length:=List.length_map _
theorem se{t:ByteArray}{L:List ByteArray}(ht:t.size≤70000)(h:aI L=aA 32 t.data.toList)(w:World):Sl strE (fun b=>w.heap.size≤b) (w.alloc (.cells (L.map Value.string).toArray 9)) (some ⟨w.heap.size,0,none⟩) L.length L:=by
 have a:=ii 32 t.data.toList
 rw[←h,pN]at a
 have g:t.data.toList.length=t.size:=Array.length_toList
 refine⟨Nat.le_refl _,by unfold aB;omega,(fun e=>by cases e),fun _=>⟨w.heap.size,0,rfl,Nat.le_refl _,by simp,fun i c=>⟨[.string L[i]],rfl,fun j f=> ?_,⟨rfl,?_⟩⟩⟩⟩
 ·obtain rfl:j=0:=by simp at f;omega
  rw[World.cell?_alloc_at _ _ _ _ rfl]
  simp[strE,c]
 have:L[i].data.toList∈aI L:=jz (List.getElem_mem c)
 rw[h]at this
 have:=ik this
 have k:L[i].data.toList.length=L[i].size:=Array.length_toList
 unfold aB;omega
theorem Iu(l:List UInt8):Lib.trimPrefix l [32]=eR l:=by
 unfold Lib.trimPrefix Lib.hasPrefix eR
 cases l with
 |nil=>rfl
 |cons c r=>
  by_cases h:c=32
  ·subst h;rfl
  rw[if_neg (by simpa[List.isPrefixOf]using fun e=>h e.symm),if_neg (by simpa using h)]
theorem AS(t:ByteArray)(w:World):Calls Tryz.prog 111 #[.string t, .string ⟨#[32]⟩] w fun e w'=>e= .returned (.string ⟨(eR (bL t)).toArray⟩)∧w'=w:=by
 refine(Any.strings_TrimPrefix G6 t ⟨#[32]⟩ w).mono ?_
 rintro e w' ⟨rfl,rfl⟩
 have:Lib.trimPrefix t.data.toList (⟨#[32]⟩:ByteArray).data.toList=eR (bL t):=Iu _
 rw[this]
 exact⟨rfl,rfl⟩
theorem AJ{S:Nat→Prop}(a:Option Addr)(c:Nat)(L:List ByteArray)(sep:ByteArray)(w:World)(h:Sl strE S w a c L)(hl:L.length≤100000)(hlen:(Lib.join (L.map (·.data.toList)) sep.data.toList).length≤1000000):
  Calls Tryz.prog 54 #[.slice a L.length c, .string sep] w fun e w'=>e= .returned (.string ⟨(Lib.join (L.map (·.data.toList)) sep.data.toList).toArray⟩)∧Below w.heap.size w w':=by
 by_cases i:L=[]
 ·subst i
  exact(Any.strings_Join_none oO m9 a c sep w).mono fun e w' ⟨m,hw⟩=>⟨m,hw▸Below.refl _ _⟩
 obtain⟨b,o,rfl,-,g,l⟩:=h.dat i
 refine Any.strings_Join oO m9 b o c L sep w (fun j x hx=> ?_) g (by omega) h.cap (by omega)
 obtain⟨n,rfl⟩:=List.getElem?_eq_some_iff.1 hx
 obtain⟨vs,-,p,k⟩:=l j n
 have f:vs=[.string L[j]]:=k.1
 subst f
 have:=p 0 (by simp)
 simpa[strE]using this
theorem Ie(w:World)(L:List ByteArray)(hr:∀x∈L,x.size≤aB)(hl:L.length≤maxLen):OwnL strE (fun _=>False) (w.alloc (.cells (L.map Value.string).toArray 9)) w.heap.size 9 (.slice (some ⟨w.heap.size,0,none⟩) L.length L.length) L:=by
 refine⟨L.map fun x=>[.string x],?_,by simp,fun i c a=>⟨by simp,hr _ (List.getElem_mem a)⟩⟩
 have e:(L.map fun x=>[Value.string x]).flatten=L.map Value.string:=by
  induction L with
  |nil=>rfl
  |cons x r b=>simp[b (fun y hy=>hr y (List.mem_cons_of_mem _ hy)) (by rw[List.length_cons]at hl;omega)]
 rw[e]
 have:=World.ownsRow_lit (e:=9) (size:=1) w (L.map Value.string).toArray L.length (Nat.le_refl _) hl (by simp)
 rw[show strE.size=1 from rfl]
 simpa using this
def ja(nm bn TT:ByteArray):List ByteArray:=[⟨#[101,110,116,114,121]⟩,nm,⟨#[98,121]⟩,bn,⟨#[115,97,121,115]⟩,TT,⟨#[117,115,101,115]⟩]
theorem DH(s:Sg)(x:Ent):(ja (af x) (aC x) (⟨#[60]⟩++ah (txt 1 s (az x))++⟨#[62]⟩)++ae x).map (·.data.toList)=iZ s x:=by
 unfold ja iZ
 simp[ByteArray.data_append,ah,d7,dZ,eT,eh,bL]
theorem pX{S1 S2:Nat→Prop}(sa:Option Addr)(sc:Nat)(s:Sg)(x:Ent)(a1 a2 a3:Option Addr)(n3 c1 c2 c3:Nat)(w:World)(h1:Sign S1 w sa sc s)(hn:(af x).size≤aB)(hb:(aC x).size≤aB)(hk:aw s (az x)=true)
  (hI:Ints S2 w a1 c1 (az x)) (hU:Sl strE S2 w a2 c2 (ae x)) (hl:(ae x).length≤90000) (hz:(aZ s x).length≤1000000):
  Calls Tryz.prog 19 #[.slice sa s.length sc,entV (af x) (aC x) (az x).length (ae x).length n3 a1 a2 a3 c1 c2 c3] w fun e w'=>e= .returned (.string (ah (aZ s x)))∧Below w.heap.size w w':=by
 have m1:=hI.le
 have m2:=hU.le
 obtain⟨W,c⟩:∃W,w.alloc (.cells #[.string (af x), .string (aC x), .slice a1 (az x).length c1, .slice a2 (ae x).length c2, .slice a3 n3 c3] 46)=W:=⟨_,rfl⟩
 have r:Below w.heap.size w W:=by rw[←c];exact an w _
 have Z:W.cell? ⟨w.heap.size,0,none⟩=some (.string (af x)):=by rw[←c];clear c;go_simp
 have q1:W.cell? ⟨w.heap.size,1,none⟩=some (.string (aC x)):=by rw[←c];clear c;go_simp
 have q2:W.cell? ⟨w.heap.size,2,none⟩=some (.slice a1 (az x).length c1):=by rw[←c];clear c;go_simp
 have q3:W.cell? ⟨w.heap.size,3,none⟩=some (.slice a2 (ae x).length c2):=by rw[←c];clear c;go_simp
 have H:=AX sa a1 sc c1 s 1 (az x) W (h1.below r) (hI.below r)
 have F:d8 s 1 (az x)=(txt 1 s (az x),0):=by unfold d8;rw[if_pos hk];rfl
 rw[F]at H
 have ax:w.heap.size<W.heap.size:=by rw[←c];simp
 have o:=DH s x
 have V:Lib.join (iZ s x) [32]=aZ s x:=wy 32 _
 have Q:=iK (k:=1) (az x).length hk (Nat.le_refl _)
 have Y:=(bj hk).2.2.1
 have zT:=cX (txt 1 s (az x))
 generalize aZ s x=HL at*
 generalize iZ s x=HW at*
 generalize txt 1 s (az x)=TX at*
 generalize af x=nm at*
 generalize aC x=p at*
 generalize (az x).length=n1 at*
 generalize ae x=us at*
 obtain⟨T,U⟩:∃T,ah TX=T:=⟨_,rfl⟩
 rw[U]at o H zT
 have s1:(9223372036854775807<1+T.size)=False:=eq_false (by omega)
 have s2:(9223372036854775807<1+T.size+1)=False:=eq_false (by omega)
 have z:((⟨#[60]⟩:ByteArray)++T++⟨#[62]⟩).size≤aB:=by
  rw[ByteArray.size_append,ByteArray.size_append]
  show 1+T.size+1≤aB
  unfold aB;omega
 have M:=Lib.hid (hU.below r)
 have R:=Lib.hid H
 have l:=Lib.hid o
 have D:=Lib.hid V
 have K:=Lib.hid r
 have A:=Lib.hid z
 clear hI hU h1 H F o V r U Q z zT
 dsimp only[entV]
 go_enter Tryz.func19,Tryz.ntmps19
 go_wp2_with fail
 try rw[c]
 go_wp2_with fail
 refine R.out.mono ?_
 rintro e m ⟨rfl,a⟩
 have p0:=cell_later a Z
 have p1:=cell_later a q1
 have p3:=cell_later a q3
 have O:=Lib.hid (M.out.below a)
 have L:=Lib.hid (aa K.out a)
 obtain⟨q,B⟩:∃q,m.alloc (.cells #[.string ⟨#[101,110,116,114,121]⟩, .string nm, .string ⟨#[98,121]⟩, .string p, .string ⟨#[115,97,121,115]⟩, .string (⟨#[60]⟩++T++⟨#[62]⟩), .string ⟨#[117,115,101,115]⟩] 9)=q:=⟨_,rfl⟩
 have f:Below m.heap.size m q:=by rw[←B];exact an m _
 have h:OwnL strE (fun _=>False) q m.heap.size 9 (.slice (some ⟨m.heap.size,0,none⟩) 7 7) (ja nm p (⟨#[60]⟩++T++⟨#[62]⟩)):=by
  rw[←B]
  refine Ie m (ja nm p (⟨#[60]⟩++T++⟨#[62]⟩)) (fun y hy=> ?_) (by unfold maxLen;show 7≤_;omega)
  unfold ja at hy
  simp only[List.mem_cons,List.not_mem_nil,or_false]at hy
  rcases hy with e|e|e|e|e|e|e
  ·rw[e];decide
  ·rw[e];exact hn
  ·rw[e];decide
  ·rw[e];exact hb
  ·rw[e];decide
  ·rw[e];exact A.out
  rw[e];decide
 have j:m.heap.size≤q.heap.size:=f.size
 have b:(ja nm p (⟨#[60]⟩++T++⟨#[62]⟩)).length=7:=rfl
 obtain⟨v',w3,g,X,hg,-,-⟩:=h.append_run (P:=Tryz.prog) (t:=37) (ty:=37) Tryz.underlying37 jI rfl (O.out.below f) (fun i hi vs hv=>hv) (by rw[b];omega) (by rw[b];unfold aB;omega) j
 obtain⟨aj,cJ,rfl,E⟩:=X.sl
 have u:Below w.heap.size w w3:=aa L.out (f.grown hg j (fun k e=>by simp[Value.ownBlock]at e;omega))
 have G:=AJ aj cJ (ja nm p (⟨#[60]⟩++T++⟨#[62]⟩)++us) ⟨#[32]⟩ w3 E (by rw[List.length_append,b];omega) (by rw[l.out];show(Lib.join HW [32]).length≤_;rw[D.out];exact hz)
 rw[l.out,show(⟨#[32]⟩:ByteArray).data.toList=[32]from rfl,D.out]at G
 obtain⟨N,S⟩:∃N,(ja nm p (⟨#[60]⟩++T++⟨#[62]⟩)++us).length=N:=⟨_,rfl⟩
 rw[S]at g G
 have I:=Lib.hid G
 have v:=Lib.hid u
 have aN:=cell_later f p3
 have n:=Lib.hid g
 clear a Z q1 q2 q3 h X hg E u G f g b S
 go_wp2_with (at_builtin;refine bo rfl _ _ _ rfl rfl rfl n.out ?_)
 refine I.out.mono ?_
 rintro e w4 ⟨rfl,C⟩
 have J:=Lib.hid (aa v.out C)
 clear C
 go_wp2_with fail
 go_ret
 exact⟨rfl,J.out⟩
theorem pj(t sep:ByteArray)(hs:t.size≤65536)(w:World)(hL:LibW w):
  Calls Tryz.prog 22 #[.string t, .string sep] w fun e w'=>e= .returned (.tuple #[.string (ah (Lib.cut (bL t) (bL sep)).1), .string (ah (Lib.cut (bL t) (bL sep)).2.1), .bool (Lib.cut (bL t) (bL sep)).2.2])∧Below w.heap.size w w':=by
 obtain⟨-,⟨k,b⟩,-⟩:=hL
 have c:=Any.strings_Cut {shM145 with} t sep k w (by omega) b
 refine c.mono fun e w' a=> ?_
 obtain⟨rfl,n,rfl⟩:=a
 exact⟨rfl,fW (.refl _ _) n⟩
theorem ni(l p:List UInt8):(Lib.cut l p).1.length≤l.length∧(Lib.cut l p).2.1.length≤l.length:=by
 unfold Lib.cut
 split
 ·simp only[List.length_take,List.length_drop];omega
 simp
theorem LibT.of(w:World)(h:LibW w):LibT w:=⟨h.2.2.1,h.2.2.2⟩
def jn(s:Sg)(t:ByteArray)(w:World)(e:Ending)(w':World):Prop:=
 (match dH s (bL t)with
  |some x=>∃a1 c1 a2 c2,e= .returned (.tuple #[entV (af x) (aC x) (az x).length (ae x).length 0 a1 a2 none c1 c2 0, .bool (decide (aZ s x=bL t))])∧Ints (fun b=>w.heap.size≤b) w' a1 c1 (az x)∧Sl strE (fun b=>w.heap.size≤b) w' a2 c2 (ae x)
  |none=>e= .returned (.tuple #[entV ⟨#[]⟩ ⟨#[]⟩ 0 0 0 none none none 0 0 0, .bool false]))∧Below w.heap.size w w'
theorem Dw{s:Sg}{b:List UInt8}(h:¬((Lib.cut b mSa).2.2=true∧(Lib.cut (Lib.cut b mSa).2.1 mUs).2.2=true∧(cC s 1 (Lib.cut (Lib.cut b mSa).2.1 mUs).1).2=0∧(aA 32 (Lib.cut b mSa).1).length=4)):dH s b=none:=by
 unfold dH;rw[if_neg h]
theorem oF{s:Sg}{t:ByteArray}{w w':World}{e:Ending}(h:dH s (bL t)=none)(he:e= .returned (.tuple #[entV ⟨#[]⟩ ⟨#[]⟩ 0 0 0 none none none 0 0 0, .bool false])) (hb:Below w.heap.size w w'):jn s t w e w':=by
 unfold jn;rw[h];exact⟨he,hb⟩
theorem eW{W:World}{b:Nat}{u0 u1 u2 u3 u4:Value}(h:W.heap[b]?=some (.cells #[u0,u1,u2,u3,u4] 46 (0,0))):(W.cell? ⟨b,0,none⟩=some u0∧W.cell? ⟨b,1,none⟩=some u1∧W.cell? ⟨b,2,none⟩=some u2∧W.cell? ⟨b,3,none⟩=some u3∧W.cell? ⟨b,4,none⟩=some u4)∧
  (W.frozen? ⟨b,0,none⟩=false∧W.frozen? ⟨b,1,none⟩=false∧W.frozen? ⟨b,2,none⟩=false∧W.frozen? ⟨b,3,none⟩=false∧W.frozen? ⟨b,4,none⟩=false):=
 ⟨⟨by simp[World.cell?,h],by simp[World.cell?,h],by simp[World.cell?,h],by simp[World.cell?,h],by simp[World.cell?,h]⟩,Lib.frozen_of_heap h 0,Lib.frozen_of_heap h 1,Lib.frozen_of_heap h 2,Lib.frozen_of_heap h 3,Lib.frozen_of_heap h 4⟩
theorem km{B b:Nat}{w wr:World}(h:Below B w wr)(hb:B≤b)(v0 v1 v2 v3 v4:Value):Below B w (((((wr.setCell ⟨b,0,none⟩ v0).setCell ⟨b,1,none⟩ v1).setCell ⟨b,2,none⟩ v2).setCell ⟨b,3,none⟩ v3).setCell ⟨b,4,none⟩ v4):=
 ((((h.setCell (p:=⟨b,0,none⟩) hb _).setCell (p:=⟨b,1,none⟩) hb _).setCell (p:=⟨b,2,none⟩) hb _).setCell (p:=⟨b,3,none⟩) hb _).setCell (p:=⟨b,4,none⟩) hb _
theorem pz{S:Nat→Prop}{b:Nat}{wr:World}(hb:¬S b)(v0 v1 v2 v3 v4:Value):Agree S wr (((((wr.setCell ⟨b,0,none⟩ v0).setCell ⟨b,1,none⟩ v1).setCell ⟨b,2,none⟩ v2).setCell ⟨b,3,none⟩ v3).setCell ⟨b,4,none⟩ v4):=fun k c _=>by
 have a:k≠b:=fun e=>hb (e▸c)
 rw[Below.heap_setCell _ _ _ _ a,Below.heap_setCell _ _ _ _ a,Below.heap_setCell _ _ _ _ a,Below.heap_setCell _ _ _ _ a,Below.heap_setCell _ _ _ _ a]
theorem I7{W:World}{b:Nat}{u0 u1 u2 u3 u4:Value}(v:Value)(h:W.heap[b]?=some (.cells #[u0,u1,u2,u3,u4] 46 (0,0))):(W.setCell ⟨b,3,none⟩ v).heap[b]?=some (.cells #[u0,u1,u2,v,u4] 46 (0,0)):=by
 unfold World.setCell
 simp only[Array.getElem?_modify,if_true,h,Option.map_some]
 rfl
theorem C2{R:List ByteArray}(h:R.length=4):∃a b c d,R=[a,b,c,d]:=by
 match R,h with
 | [a,b,c,d],_=>exact⟨a,b,c,d,rfl⟩
theorem DJ{S1:Nat→Prop}(sa:Option Addr)(sc:Nat)(s:Sg)(t:ByteArray)(ht:t.size≤65536)(w:World)(h1:Sign S1 w sa sc s)(hL:LibW w):
  Calls Tryz.prog 58 #[.slice sa s.length sc, .string t] w (jn s t w):=by
 have m1:=h1.le
 obtain⟨W,hW⟩:∃W,w.alloc (.cells #[.string ⟨#[]⟩, .string ⟨#[]⟩, .slice none 0 0, .slice none 0 0, .slice none 0 0] 46)=W:=⟨_,rfl⟩
 have hB:Below w.heap.size w W:=by rw[←hW];exact an w _
 have ds:w.heap.size<W.heap.size:=by rw[←hW];simp
 have g0:W.heap[w.heap.size]?=some (.cells #[.string ⟨#[]⟩, .string ⟨#[]⟩, .slice none 0 0, .slice none 0 0, .slice none 0 0] 46 (0,0)):=by rw[←hW];exact heap_alloc_new w _
 have cr:(bL t).length≤65536:=by rw[show(bL t).length=t.size from Array.length_toList];exact ht
 obtain⟨A,hA⟩:∃A,(Lib.cut (bL t) mSa).1=A:=⟨_,rfl⟩
 obtain⟨Rr,hR⟩:∃R,(Lib.cut (bL t) mSa).2.1=R:=⟨_,rfl⟩
 obtain⟨f1,bb⟩:∃f,(Lib.cut (bL t) mSa).2.2=f:=⟨_,rfl⟩
 obtain⟨T,hT⟩:∃T,(Lib.cut Rr mUs).1=T:=⟨_,rfl⟩
 obtain⟨U,hU⟩:∃U,(Lib.cut Rr mUs).2.1=U:=⟨_,rfl⟩
 obtain⟨f2,bf⟩:∃f,(Lib.cut Rr mUs).2.2=f:=⟨_,rfl⟩
 have lA:A.length≤65536:=by rw[←hA];exact Nat.le_trans (ni _ _).1 cr
 have lR:Rr.length≤65536:=by rw[←hR];exact Nat.le_trans (ni _ _).2 cr
 have lT:T.length≤65536:=by rw[←hT];exact Nat.le_trans (ni _ _).1 lR
 have lU:U.length≤65536:=by rw[←hU];exact Nat.le_trans (ni _ _).2 lR
 have v1:=pj t ⟨#[32,115,97,121,115,32,60]⟩ ht W (hL.later hB)
 rw[show bL ⟨#[32,115,97,121,115,32,60]⟩=mSa from rfl,hA,hR,bb]at v1
 have v2:=fun q (u:Below W.heap.size W q)=>pj (ah Rr) ⟨#[62,32,117,115,101,115]⟩ (by rw[cX];exact lR) q ((hL.later hB).later u)
 simp only[show bL ⟨#[62,32,117,115,101,115]⟩=mUs from rfl,show bL (ah Rr)=Rr from rfl,hT,hU,bf]at v2
 have v3:=fun q (u:Below W.heap.size W q)=>AR sa sc s 1 (ah T) q ((h1.below hB).below u) (LibT.of _ ((hL.later hB).later u))
 simp only[show(ah T).data.toList=T from rfl]at v3
 have v4:=fun q (u:Below W.heap.size W q)=>pq (ah A) (by rw[cX];omega) q ((hL.later hB).later u)
 simp only[show(ah A).data.toList=A from rfl]at v4
 obtain⟨i,bl⟩:∃r,(cC s 1 T).1=r:=⟨_,rfl⟩
 obtain⟨re,au⟩:∃r,(cC s 1 T).2=r:=⟨_,rfl⟩
 simp only[bl,au]at v3
 have cp:¬(f1=true∧f2=true∧re=0∧(aA 32 A).length=4)→dH s (bL t)=none:=fun h=>Dw (by rw[hA,hR,bb,bf,hT,au];exact h)
 have bv:f1=true∧f2=true∧re=0∧(aA 32 A).length=4→dH s (bL t)=some (gH ((aA 32 A).getD 1 []) ((aA 32 A).getD 3 []) i (if U=[]then []else aA 32 (eR U))):=fun h=>by
  unfold dH
  rw[hA,hR,bb,bf,hT,hU,au,bl,if_pos h]
 have c0:=Lib.hid (h1.below hB)
 have ce:=Lib.hid (hL.later hB)
 have bt:re=0→aw s i=true:=fun h=>(GB (s:=s) (b:=T) (t:=i) (by rw[←bl,←h,←au])).1
 have b7:=Lib.hid bv
 have b4:=Lib.hid bt
 clear bv bt
 have eO:=Lib.hid v1
 have eQ:=Lib.hid v2
 have e1:=Lib.hid v3
 have e4:=Lib.hid v4
 have c2:=Lib.hid hB
 have cU:=Lib.hid g0
 have ad:=Lib.hid cp
 clear v1 v2 v3 v4 hB g0 cp hL h1 hA hR bb hT hU bf bl au
 go_enter Tryz.func58,Tryz.ntmps58
 go_wp2_with fail
 try rw[hW]
 go_wp2_with fail
 refine eO.out.mono ?_
 rintro e w1 ⟨rfl,b0⟩
 have e0:=Lib.hid (eQ.out w1 b0)
 have ci:=Lib.hid b0
 clear b0
 go_wp2_with fail
 refine e0.out.mono ?_
 rintro e w2 ⟨rfl,cj⟩
 have F:=Lib.hid (aa ci.out cj)
 have e2:=Lib.hid (e1.out w2 F.out)
 clear cj
 go_wp2_with fail
 refine e2.out.mono ?_
 rintro e w3 ⟨vT,rfl,hO,cl⟩
 obtain⟨I,J,rfl,hI⟩:=OwnI.ints hO
 have bq:=Lib.hid (aa F.out cl)
 have e5:=Lib.hid (e4.out w3 bq.out)
 clear cl hO
 go_wp2_with fail
 refine e5.out.mono ?_
 rintro e j ⟨L,rfl,G,H⟩
 have n:=Lib.hid (aa bq.out (show Below w3.heap.size w3 j by rw[H];exact an w3 _))
 have M:L.length=(aA 32 A).length:=by rw[←G,pN]
 have g4:j.heap[w.heap.size]?=some (.cells #[.string ⟨#[]⟩, .string ⟨#[]⟩, .slice none 0 0, .slice none 0 0, .slice none 0 0] 46 (0,0)):=by rw[n.out.block _ ds];exact cU.out
 obtain⟨⟨av,ax,ay,aL,aN⟩,ct,cu,cv,cx,cy⟩:=eW g4
 have aj:=Lib.hid (aa c2.out n.out)
 cases f1 with
 |false=>
  have E:=Lib.hid (ad.out (fun e=>by cases e.1))
  clear g4 H hI M G
  go_wp2_with fail
  all_goals(try simp only[Exit.inBlock,Exit.then])
  all_goals refine bodyPost_ret (by go_simp;simp[results,Tryz.results58,go_sem,av,ax,ay,aL,aN];try rfl) rfl ?_
  all_goals exact oF E.out rfl (km aj.out (Nat.le_refl _) _ _ _ _ _)
 |true=>
 cases f2 with
 |false=>
  have E:=Lib.hid (ad.out (fun e=>by cases e.2.1))
  clear g4 H hI M G
  go_wp2_with fail
  all_goals(try simp only[Exit.inBlock,Exit.then])
  all_goals refine bodyPost_ret (by go_simp;simp[results,Tryz.results58,go_sem,av,ax,ay,aL,aN];try rfl) rfl ?_
  all_goals exact oF E.out rfl (km aj.out (Nat.le_refl _) _ _ _ _ _)
 |true=>
 by_cases P:re=0
 ·by_cases h4:L.length=4
  ·obtain⟨l0,a,l2,c,rfl⟩:=C2 h4
   have aR:=se (t:=ah A) (by rw[cX];omega) G w3
   rw[←H]at aR
   have b6:=b7.out ⟨rfl,rfl,P,M.symm⟩
   rw[←G]at b6
   have cs:dH s (bL t)=some (gH (bL a) (bL c) i (if U=[]then []else aA 32 (eR U))):=b6
   have cq:=b4.out P
   obtain⟨b1,o1,ee,-,-,hj,d1,d2,d3⟩:=aR.at1 1 (by simp)
   cases ee
   obtain⟨rfl,z1⟩:=d3
   have q1:=d2 0 (by simp)
   obtain⟨b3,o3,ee,-,-,hl,d4,d5,d6⟩:=aR.at1 3 (by simp)
   cases ee
   obtain⟨rfl,z3⟩:=d6
   have q3:=d5 0 (by simp)
   simp only[strE,List.getElem_cons_zero,List.getElem_cons_succ,Nat.add_zero,Nat.zero_add,Nat.mul_one]at q1 q3 z1 z3
   have cc:=hI.below (show Below w3.heap.size w3 j by rw[H];exact an w3 _)
   have cn:∀y∈ [l0,a,l2,c],y.size≤65536:=fun y hy=>by
    have:y.data.toList∈aI [l0,a,l2,c]:=jz hy
    rw[G]at this
    have h2:=ik this
    have h3:y.data.toList.length=y.size:=Array.length_toList
    omega
   have g1:=cn a (by simp)
   have g2:=cn c (by simp)
   have cg:=c0.out.below n.out
   have g3:=hI.le
   have c7:w3.heap.size<j.heap.size:=by rw[H];simp
   have db:¬w3.heap.size=j.heap.size:=by omega
   have b2:¬w.heap.size=j.heap.size:=by have:=n.out.size;omega
   subst P
   have ab:=Lib.hid cc
   have f8:=Lib.hid aR
   have bu:=Lib.hid cs
   have ag:=Lib.hid cq
   have ca:=Lib.hid g4
   clear b6 cs cq aR hI cc d1 d2 d4 d5 G M h4 g4 H
   simp only[List.length_cons,List.length_nil]
   by_cases hU:U=[]
   ·subst hU
    rw[show ah []=(⟨#[]⟩:ByteArray)from rfl]
    go_wp2_with fail
    go_region
    all_goals go_wp2_with fail
    have hx:dH s (bL t)=some (a,c,i,[],[]):=by
     rw[bu.out]
     unfold gH
     rw[fK,fK];rfl
    obtain⟨m,B⟩:∃m,j.alloc (.cells #[.string a, .string c, .slice I i.length J, .slice none 0 0, .slice none 0 0] 46)=m:=⟨_,rfl⟩
    have ao:Below j.heap.size j m.drew:=by rw[←B];exact Below.drew (an j _)
    have a0:(aZ s (a,c,i,[],[])).length≤1000000:=by
     rw[qD,List.length_append]
     have:=qV (s:=s) (x:=(a,c,i,[],[])) ag.out
     have h2:(dX (ae (a,c,i,[],[]))).length=0:=rfl
     have h3:(af (a,c,i,([]:List ByteArray),([]:List Stp))).size=a.size:=rfl
     have h4:(aC (a,c,i,([]:List ByteArray),([]:List Stp))).size=c.size:=rfl
     omega
    have vh:=fun q (u:Below j.heap.size j q)=>pX sa sc s (a,c,i,[],[]) I none none 0 J 0 0 q (cg.below u) z1 z3 ag.out (ab.out.below u) .empty (Nat.zero_le _) a0
    obtain⟨D,hD⟩:∃D,ah (aZ s (a,c,i,[],[]))=D:=⟨_,rfl⟩
    have a1:∀q,Below j.heap.size j q→Calls Tryz.prog 19 #[.slice sa s.length sc, .agg #[.string a, .string c, .slice I i.length J, .slice none 0 0, .slice none 0 0]] q fun e w'=>e= .returned (.string D)∧Below q.heap.size q w':=fun q u=>by rw[←hD];exact vh q u
    have a2:=Lib.hid a1
    have aP:D.data.toList=aZ s (a,c,i,[],[]):=by rw[←hD];rfl
    have aO:=Lib.hid aP
    have g5:m.heap[w.heap.size]?=some (.cells #[.string ⟨#[]⟩, .string ⟨#[]⟩, .slice none 0 0, .slice none 0 0, .slice none 0 0] 46 (0,0)):=by rw[←B,Below.heap_alloc _ _ _ (by have:=n.out.size;omega)];exact ca.out
    have r5:m.heap[j.heap.size]?=some (.cells #[.string a, .string c, .slice I i.length J, .slice none 0 0, .slice none 0 0] 46 (0,0)):=by rw[←B];exact heap_alloc_new j _
    obtain⟨⟨y0,y1,y2,y3,y4⟩,-⟩:=eW r5
    obtain⟨⟨d0,ea,eb,ec,ed⟩,ef,eg,ej,em,en⟩:=eW g5
    have cm:Below j.heap.size j m.drew.drew:=Below.drew ao
    have o:=Lib.hid cm
    have a5:=Lib.hid g5
    have bm:=Lib.hid r5
    have K:∀(g:Bool),decide (aZ s (a,c,i,[],[])=bL t)=g→∀w6,Below j.heap.size j w6→jn s t w (.returned (.tuple #[.agg #[.string a, .string c, .slice I i.length J, .slice none 0 0, .slice none 0 0], .bool g])) (((((w6.setCell ⟨w.heap.size,0,none⟩ (.string a)).setCell ⟨w.heap.size,1,none⟩ (.string c)).setCell ⟨w.heap.size,2,none⟩ (.slice I i.length J)).setCell ⟨w.heap.size,3,none⟩ (.slice none 0 0)).setCell ⟨w.heap.size,4,none⟩ (.slice none 0 0)):=fun g hg w6 u=>by
     unfold jn
     rw[hx]
     have c3:=(ab.out.below u).same (pz (b:=w.heap.size) (by have:=F.out.size;omega) (.string a) (.string c) (.slice I i.length J) (.slice none 0 0) (.slice none 0 0))
     exact⟨⟨I,J,none,0,by rw[hg];rfl,c3.weak (fun b u=>by have:=F.out.size;omega), .empty⟩,km (aa aj.out u) (Nat.le_refl _) _ _ _ _ _⟩
    have C:=Lib.hid K
    rw[B]
    clear vh a1 hD aP g5 r5 a0 hx ao B cm K av ax ay aL aN ct cu cv cx cy q1 q3
    by_cases v:aZ s (a,c,i,[],[])=bL t
    ·have hq:=fe (x:=D) (y:=t) (gQ (by rw[aO.out,v];rfl))
     have O:=decide_eq_true v
     clear v
     go_region_with ((go_at_call 19;(with_reducible refine(a2.out _ o.out).mono ?_);rintro e w6 ⟨rfl,z⟩;obtain⟨⟨x0,x1,x2,x3,x4⟩,-⟩:=eW ((z.block _ (by first|(simp;done)|(have:=(Array.getElem?_eq_some_iff.1 bm.out).1;simp;omega))).trans bm.out);obtain⟨⟨Q,S,V,X,Y⟩,i0,i1,i2,i3,i4⟩:=eW ((z.block _ (by have:=(Array.getElem?_eq_some_iff.1 a5.out).1;simp;omega)).trans a5.out)))
     all_goals go_simp
     all_goals go_wp2_with fail
     all_goals(try simp only[Exit.inBlock,Exit.then])
     all_goals refine bodyPost_ret (by go_simp;simp[results,Tryz.results58,go_sem,Q,S,V,X,Y];try rfl) rfl ?_
     all_goals exact C.out _ O _ (aa o.out z)
    have hq:=eM (x:=D) (y:=t) (fun e=>v (by rw[←aO.out,e];rfl))
    have O:=decide_eq_false v
    clear v
    go_region_with ((go_at_call 19;(with_reducible refine(a2.out _ o.out).mono ?_);rintro e w6 ⟨rfl,z⟩;obtain⟨⟨x0,x1,x2,x3,x4⟩,-⟩:=eW ((z.block _ (by first|(simp;done)|(have:=(Array.getElem?_eq_some_iff.1 bm.out).1;simp;omega))).trans bm.out);obtain⟨⟨Q,S,V,X,Y⟩,i0,i1,i2,i3,i4⟩:=eW ((z.block _ (by have:=(Array.getElem?_eq_some_iff.1 a5.out).1;simp;omega)).trans a5.out)))
    all_goals go_simp
    all_goals go_wp2_with fail
    all_goals(try simp only[Exit.inBlock,Exit.then])
    all_goals refine bodyPost_ret (by go_simp;simp[results,Tryz.results58,go_sem,Q,S,V,X,Y];try rfl) rfl ?_
    all_goals exact C.out _ O _ (aa o.out z)
   have gI:=nH (x:=ah U) hU
   have cd:=Lib.hid (ce.out.later n.out)
   have hd:(eR U).length≤65536:=by
    unfold eR
    split
    ·rw[List.length_tail];omega
    exact lU
   go_wp2_with fail
   go_region
   go_wp2_with fail
   obtain⟨m,B⟩:∃m,j.alloc (.cells #[.string a, .string c, .slice I i.length J, .slice none 0 0, .slice none 0 0] 46)=m:=⟨_,rfl⟩
   have ao:Below j.heap.size j m.drew:=by rw[←B];exact Below.drew (an j _)
   have g5:m.heap[w.heap.size]?=some (.cells #[.string ⟨#[]⟩, .string ⟨#[]⟩, .slice none 0 0, .slice none 0 0, .slice none 0 0] 46 (0,0)):=by rw[←B,Below.heap_alloc _ _ _ (by have:=n.out.size;omega)];exact ca.out
   have r5:m.heap[j.heap.size]?=some (.cells #[.string a, .string c, .slice I i.length J, .slice none 0 0, .slice none 0 0] 46 (0,0)):=by rw[←B];exact heap_alloc_new j _
   have e6:=Lib.hid (pq ⟨(eR U).toArray⟩ (by show(ah (eR U)).size≤_;rw[cX];omega) m.drew (cd.out.later ao))
   rw[B]
   clear B av ax ay aL aN ct cu cv cx cy q1 q3
   refine(AS (ah U) _).mono ?_
   rintro e w5 ⟨rfl,rfl⟩
   go_wp2_with fail
   refine e6.out.mono ?_
   rintro e w6 ⟨l,rfl,bU,b5⟩
   have z:Below m.drew.heap.size m.drew w6:=by rw[b5];exact an m.drew _
   have g6:w6.heap[w.heap.size]?=_:=(z.block _ (show _<m.drew.heap.size from(Array.getElem?_eq_some_iff.1 g5).1)).trans (show m.drew.heap[w.heap.size]?=_ from g5)
   have r6:w6.heap[j.heap.size]?=_:=(z.block _ (show _<m.drew.heap.size from(Array.getElem?_eq_some_iff.1 r5).1)).trans (show m.drew.heap[j.heap.size]?=_ from r5)
   have ez:=r5
   obtain⟨⟨y0,y1,y2,y3,y4⟩,m0,es,m2,m3,m4⟩:=eW r6
   have aU:=se (t:=⟨(eR U).toArray⟩) (by show(ah (eR U)).size≤_;rw[cX];omega) bU m.drew
   rw[←b5]at aU
   have aW:=Lib.hid aU
   have cb:=Lib.hid g6
   clear b5 aU g6 g5 r5
   go_wp2_with fail
   have ac:l.map bL=aA 32 (eR U):=bU
   have hx:dH s (bL t)=some (a,c,i,l,[]):=by
    rw[bu.out,if_neg hU,←ac]
    unfold gH
    rw[fK,fK,oe]
   obtain⟨Z,al⟩:∃Z,w6.setCell ⟨j.heap.size,3,none⟩ (.slice (some ⟨m.heap.size,0,none⟩) l.length l.length)=Z:=⟨_,rfl⟩
   have c9:j.heap.size<m.heap.size:=(Array.getElem?_eq_some_iff.1 ez).1
   have aq:Below j.heap.size j Z:=by rw[←al];exact(aa ao z).setCell (p:=⟨j.heap.size,3,none⟩) (Nat.le_refl _) _
   have g7:Z.heap[w.heap.size]?=some (.cells #[.string ⟨#[]⟩, .string ⟨#[]⟩, .slice none 0 0, .slice none 0 0, .slice none 0 0] 46 (0,0)):=by rw[←al,Below.heap_setCell _ _ _ _ (by exact b2)];exact cb.out
   have r7:Z.heap[j.heap.size]?=some (.cells #[.string a, .string c, .slice I i.length J, .slice (some ⟨m.heap.size,0,none⟩) l.length l.length, .slice none 0 0] 46 (0,0)):=by rw[←al];exact I7 _ r6
   have bW:Sl strE (fun b=>m.heap.size≤b) Z (some ⟨m.heap.size,0,none⟩) l.length l:=by
    rw[←al]
    exact aW.out.same (fun k hk _=>Below.heap_setCell _ _ _ _ (by show¬k=j.heap.size;have gU:m.heap.size≤k:=hk;omega))
   have c6:(dX l).length≤65537:=by
    rw[←sD]
    unfold ff
    split
    ·simp
    rw[ac,jK,List.length_cons];omega
   have a0:(aZ s (a,c,i,l,[])).length≤1000000:=by
    rw[qD,List.length_append]
    have:=qV (s:=s) (x:=(a,c,i,l,[])) ag.out
    have h2:(dX (ae (a,c,i,l,([]:List Stp)))).length=(dX l).length:=rfl
    have h3:(af (a,c,i,l,([]:List Stp))).size=a.size:=rfl
    have h4:(aC (a,c,i,l,([]:List Stp))).size=c.size:=rfl
    omega
   have f5:l.length≤65537:=by
    have h1:=congrArg List.length ac
    rw[List.length_map]at h1
    have h2:=ii 32 (eR U)
    omega
   have vh:=fun q (u:Below Z.heap.size Z q)=>pX sa sc s (a,c,i,l,[]) I (some ⟨m.heap.size,0,none⟩) none 0 J l.length 0 q ((cg.below aq).below u) z1 z3 ag.out ((ab.out.below aq).below u).any (bW.below u).any (show l.length≤90000 by omega) a0
   obtain⟨D,hD⟩:∃D,ah (aZ s (a,c,i,l,[]))=D:=⟨_,rfl⟩
   have a1:∀q,Below Z.heap.size Z q→Calls Tryz.prog 19 #[.slice sa s.length sc, .agg #[.string a, .string c, .slice I i.length J, .slice (some ⟨m.heap.size,0,none⟩) l.length l.length, .slice none 0 0]] q fun e w'=>e= .returned (.string D)∧Below q.heap.size q w':=fun q u=>by rw[←hD];exact vh q u
   have a2:=Lib.hid a1
   have aP:D.data.toList=aZ s (a,c,i,l,[]):=by rw[←hD];rfl
   have aO:=Lib.hid aP
   obtain⟨⟨y0,y1,y2,y3,y4⟩,-⟩:=eW r7
   obtain⟨⟨d0,ea,eb,ec,ed⟩,ef,eg,ej,em,en⟩:=eW g7
   have f7:=Lib.hid aq
   have o:=Lib.hid (Below.drew (Below.refl Z.heap.size Z))
   have a9:=Lib.hid g7
   have bn:=Lib.hid r7
   have K:∀(g:Bool),decide (aZ s (a,c,i,l,[])=bL t)=g→∀w8,Below Z.heap.size Z w8→jn s t w (.returned (.tuple #[.agg #[.string a, .string c, .slice I i.length J, .slice (some ⟨m.heap.size,0,none⟩) l.length l.length, .slice none 0 0], .bool g])) (((((w8.setCell ⟨w.heap.size,0,none⟩ (.string a)).setCell ⟨w.heap.size,1,none⟩ (.string c)).setCell ⟨w.heap.size,2,none⟩ (.slice I i.length J)).setCell ⟨w.heap.size,3,none⟩ (.slice (some ⟨m.heap.size,0,none⟩) l.length l.length)).setCell ⟨w.heap.size,4,none⟩ (.slice none 0 0)):=fun g hg w8 u=>by
    unfold jn
    rw[hx]
    have c4:=((ab.out.below aq).below u).same (pz (b:=w.heap.size) (by have:=F.out.size;omega) (.string a) (.string c) (.slice I i.length J) (.slice (some ⟨m.heap.size,0,none⟩) l.length l.length) (.slice none 0 0))
    have c5:=(bW.below u).same (pz (b:=w.heap.size) (by have:=n.out.size;omega) (.string a) (.string c) (.slice I i.length J) (.slice (some ⟨m.heap.size,0,none⟩) l.length l.length) (.slice none 0 0))
    exact⟨⟨I,J,some ⟨m.heap.size,0,none⟩,l.length,by rw[hg];rfl,c4.weak (fun b u=>by have:=F.out.size;omega),c5.weak (fun b u=>by have:=n.out.size;omega)⟩,km (aa aj.out (aa aq u)) (Nat.le_refl _) _ _ _ _ _⟩
   have C:=Lib.hid K
   rw[al]
   clear vh a1 hD aP g7 r7 a0 hx ao z al K cb r6 m0 es m2 m3 m4 aW bW c6 bU ac aq
   by_cases v:aZ s (a,c,i,l,[])=bL t
   ·have hq:=fe (x:=D) (y:=t) (gQ (by rw[aO.out,v];rfl))
    have O:=decide_eq_true v
    clear v
    go_region_with ((go_at_call 19;(with_reducible refine(a2.out _ o.out).mono ?_);rintro e w8 ⟨rfl,N⟩;obtain⟨⟨x0,x1,x2,x3,x4⟩,-⟩:=eW ((N.block _ (by first|(simp;done)|(have:=(Array.getElem?_eq_some_iff.1 bn.out).1;simp;omega))).trans bn.out);obtain⟨⟨Q,S,V,X,Y⟩,i0,i1,i2,i3,i4⟩:=eW ((N.block _ (by have:=(Array.getElem?_eq_some_iff.1 a9.out).1;simp;omega)).trans a9.out)))
    all_goals go_simp
    all_goals go_wp2_with fail
    all_goals(try simp only[Exit.inBlock,Exit.then])
    all_goals refine bodyPost_ret (by go_simp;simp[results,Tryz.results58,go_sem,Q,S,V,X,Y];try rfl) rfl ?_
    all_goals exact C.out _ O _ (aa o.out N)
   have hq:=eM (x:=D) (y:=t) (fun e=>v (by rw[←aO.out,e];rfl))
   have O:=decide_eq_false v
   clear v
   go_region_with ((go_at_call 19;(with_reducible refine(a2.out _ o.out).mono ?_);rintro e w8 ⟨rfl,N⟩;obtain⟨⟨x0,x1,x2,x3,x4⟩,-⟩:=eW ((N.block _ (by first|(simp;done)|(have:=(Array.getElem?_eq_some_iff.1 bn.out).1;simp;omega))).trans bn.out);obtain⟨⟨Q,S,V,X,Y⟩,i0,i1,i2,i3,i4⟩:=eW ((N.block _ (by have:=(Array.getElem?_eq_some_iff.1 a9.out).1;simp;omega)).trans a9.out)))
   all_goals go_simp
   all_goals go_wp2_with fail
   all_goals(try simp only[Exit.inBlock,Exit.then])
   all_goals refine bodyPost_ret (by go_simp;simp[results,Tryz.results58,go_sem,Q,S,V,X,Y];try rfl) rfl ?_
   all_goals exact C.out _ O _ (aa o.out N)
  have ha:((L.length:Int)==4)=false:=by rw[beq_eq_false_iff_ne];omega
  have E:=Lib.hid (ad.out (fun e=>h4 (M.trans e.2.2.2)))
  subst P
  clear g4 H hI M G h4
  go_wp2_with fail
  all_goals(try simp only[Exit.inBlock,Exit.then])
  all_goals refine bodyPost_ret (by go_simp;simp[results,Tryz.results58,go_sem,av,ax,ay,aL,aN];try rfl) rfl ?_
  all_goals exact oF E.out rfl (km aj.out (Nat.le_refl _) _ _ _ _ _)
 have au:(re==0)=false:=by rw[beq_eq_false_iff_ne];exact P
 have E:=Lib.hid (ad.out (fun e=>P e.2.2.1))
 clear g4 H hI M G P
 go_wp2_with fail
 all_goals(try simp only[Exit.inBlock,Exit.then])
 all_goals refine bodyPost_ret (by go_simp;simp[results,Tryz.results58,go_sem,av,ax,ay,aL,aN];try rfl) rfl ?_
 all_goals exact oF E.out rfl (km aj.out (Nat.le_refl _) _ _ _ _ _)
end Go.Proofs.YtlejmeegkpdabaaGreatDoor
