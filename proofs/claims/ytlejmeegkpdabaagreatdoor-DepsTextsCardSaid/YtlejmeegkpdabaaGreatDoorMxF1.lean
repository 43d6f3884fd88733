/- The proof of a statement, some of its texts joined in build order: part F1. -/
import Derived.Test.YtlejmeegkpdabaaGreatDoorMxZ1
import Derived.Lib.OthersKept
import Derived.Lib.SlicesCompact
import Derived.Lib.OwnBridge
import Derived.Shelf.Slices.CompactI
import Derived.Shelf.Sort.Plain
import Derived.Shelf.Slices.In.SortNone
import Derived.Test.YtlejmeegkpdabaaGreatDoorMxK16
set_option maxHeartbeats 8000000
set_option maxRecDepth 100000
namespace Go.Proofs.YtlejmeegkpdabaaGreatDoor
open Go Go.RowKit Go.Maps Go.Shelf
def pB(s:Sg)(i:Int):Int:=(s.getD i.toNat default).2
theorem A7{s:Sg}(h:aH s=true){n:Int}(h0:0≤n)(h1:n<s.length):(ar s n:Int)=pB s n∧br s n=true:=by
 have a:br s n=true:=by unfold br;rw[Bool.or_eq_true,decide_eq_true_eq,decide_eq_true_eq];exact .inr ⟨h0,h1⟩
 refine⟨?_,a⟩
 rw[←(fU h a).1]
 unfold dv pB
 rw[if_neg (by omega),if_pos ⟨h0,h1⟩]
def aV(l:List ByteArray):Toks:=l.map fun b=>b.data.toList
abbrev OwnTk (w:World) (base:Nat) (v:Value) (l:List ByteArray):Prop:=OwnL strE (fun _=>False) w base 9 v l
theorem Ea:(Tryz.prog.info? 9).map (fun i=>(i.zero,i.size,i.bytes))=some (some (.string ByteArray.empty),1,16):=by kernel_rfl
def TkS(w:World)(text:ByteArray)(pos:Nat)(vO:Value)(out:List ByteArray)(wr:World):Prop:=OwnTk wr (w.heap.size+1) vO out∧wr.heap[w.heap.size]?=some (.stringIter text pos)∧Below w.heap.size w wr
theorem TkS.push{w wr:World}{text:ByteArray}{pos:Nat}{vO:Value}{out:List ByteArray}(h:TkS w text pos vO out wr){x:ByteArray}(hx:x.size≤70000)(hl:out.length≤200000):
  ∃v' w',RowKit.Hid ((Builtin.append_ #[37,37] 37 #[vO, .slice (some ⟨wr.heap.size,0,none⟩) 1 1]).run Tryz.prog (wr.alloc (.cells #[.string x] 9))= .ok v' w')∧TkS w text pos v' (out++[x]) w':=by
 obtain⟨f,g,i⟩:=h
 have c:=(Array.getElem?_eq_some_iff.1 g).1
 obtain⟨v',w',b,j,hg,-⟩:=OwnL.push (P:=Tryz.prog) (t:=37) (ty:=37) f Tryz.underlying37 Ea rfl (vs:=[.string x]) (x:=x) ⟨rfl,by unfold aB;omega⟩ (by omega) (by unfold aB;omega) (by omega)
 have a:=OwnL.lt f
 refine⟨v',w',Lib.hid b,j,?_,i.grown hg i.size (fun k e=>by have:=(a k e).1;omega)⟩
 rw[hg.block _ c (fun e=>by have:=(a _ e.symm).1;omega)]
 exact g
theorem TkS.next{w wr:World}{text:ByteArray}{pos:Nat}{vO:Value}{out:List ByteArray}(h:TkS w text pos vO out wr)(pos':Nat):TkS w text pos' vO out (wr.iterAt w.heap.size text pos'):=by
 obtain⟨a,c,f⟩:=h
 refine⟨OwnL.kept a (fun k e=> ?_) (fun b g=>g.1.elim),Lib.iterAt_heap wr _ _ _ _ c,Lib.below_iterAt f (Nat.le_refl _) _ _⟩
 have:=(OwnL.lt a k e).1
 exact Lib.iterAt_other wr _ _ _ _ (by omega)
theorem TkS.pos{w wr:World}{text:ByteArray}{pos:Nat}{vO:Value}{out:List ByteArray}(h:TkS w text pos vO out wr):wr.iterPos w.heap.size=pos:=by
 obtain⟨-,a,-⟩:=h
 simp[World.iterPos,a]
theorem Ih(a:UInt8):(⟨#[a]⟩:ByteArray).size=1:=rfl
theorem Ii(a b:UInt8):(⟨#[a,b]⟩:ByteArray).size=2:=rfl
theorem Ij(a b c:UInt8):(⟨#[a,b,c]⟩:ByteArray).size=3:=rfl
theorem Ik(a b c d:UInt8):(⟨#[a,b,c,d]⟩:ByteArray).size=4:=rfl
theorem CE(r:Int):(Utf8.encode r).size≤4:=by
 unfold Utf8.encode
 dsimp only
 generalize (if Utf8.valid r=true then r.toNat else Utf8.runeError)=c
 split
 ·rw[Ih];omega
 split
 ·rw[Ii];omega
 split
 ·rw[Ij];omega
 rw[Ik];omega
theorem qb(c:UInt8)(h:c.toNat<128):Utf8.encode (c.toNat:Int)=⟨#[c]⟩:=by
 unfold Utf8.encode
 have a:Utf8.valid (c.toNat:Int)=true:=by
  unfold Utf8.valid
  simp only[Bool.or_eq_true,Bool.and_eq_true,decide_eq_true_eq]
  left;omega
 rw[if_pos a]
 simp only[Int.toNat_natCast]
 rw[if_pos (by omega)]
 simp
def sx(text:ByteArray)(w:World)(vO vW:Value)(wr:World):Prop:=
 ∃(pos:Nat) (out:List ByteArray) (wd:ByteArray),vW= .string wd∧TkS w text pos vO out wr∧wd.size≤pos∧wd.size≤text.size∧out.length≤2*pos∧out.length≤2*text.size∧(∀b∈out,b.size≤70000)∧
  ((∀c∈text.data.toList,c.toNat<128)→pos≤text.size∧aV out++cA (text.data.toList.drop pos) wd.data.toList=cA text.data.toList [])
theorem uw{t:ByteArray}{i:Nat}(h:i<t.size):t.data.toList.drop i=(t[i]'h)::t.data.toList.drop (i+1):=by
 have a:i<t.data.toList.length:=by rw[Array.length_toList];exact h
 rw[List.drop_eq_getElem_cons a]
 rfl
theorem eY(b:ByteArray):b.toList=b.data.toList:=by rw[ByteArray.toList_eq]
theorem Co(t:ByteArray)(pos:Nat)(h:pos<t.size):1≤(Utf8.decode t pos).2∧(Utf8.decode t pos).1≤2147483647∧((Utf8.decode t pos).1<128→Utf8.decode t pos=((t[pos]'h).toNat,1)∧(t[pos]'h).toNat<128):=by
 by_cases ha:(t[pos]'h).toNat<128
 ·have e:=decode_ascii t pos h ha
  exact⟨by rw[e];exact Nat.le_refl _,decode_le t pos,fun _=>⟨e,ha⟩⟩
 have e:=decode_high t pos h (by omega)
 exact⟨e.2,decode_le t pos,fun a=>by omega⟩
theorem I0(r:Int):∀z1 z2 z3:Bool,(decide (97≤r)&&decide (r≤122))=z1→(decide (65≤r)&&decide (r≤90))=z2→(decide (48≤r)&&decide (r≤57))=z3→∀c:UInt8,r=c.toNat→dd c=(z1||z2||z3):=by
 rintro z1 z2 z3 rfl rfl rfl c rfl
 unfold dd cR
 rw[Bool.eq_iff_iff]
 simp only[Bool.or_eq_true,Bool.and_eq_true,decide_eq_true_eq]
 omega
theorem Bi{t:ByteArray}{pos:Nat}(h:pos<t.size)(ha:∀c∈t.data.toList,c.toNat<128):(t[pos]'h).toNat<128:=by
 refine ha _ ?_
 have a:pos<t.data.toList.length:=by rw[Array.length_toList];exact h
 have:t[pos]'h=t.data.toList[pos]:=rfl
 rw[this]
 exact List.getElem_mem a
theorem Is(text:ByteArray)(hs:text.size≤65536)(w:World):
  Calls Tryz.prog 157 #[.string text] w fun e w'=>∃v out,e= .returned v∧OwnTk w' w.heap.size v out∧(∀b∈out,b.size≤70000)∧out.length≤200000∧((∀c∈text.data.toList,c.toNat<128)→aV out=cA text.data.toList [])∧Below w.heap.size w w':=by
 go_enter Tryz.func157,Tryz.ntmps157
 go_wp2_with fail
 go_loopw [3,4] (fun vO vW wr=>sx text w vO vW wr) (fun _ _ wr=>text.size-wr.iterPos w.heap.size)
 case atStart=>
  refine⟨0,[],ByteArray.empty,rfl,⟨.nil _ _ _ _ _,World.iter_heap w text 0,an _ _⟩,Nat.le_refl _,Nat.zero_le _,by simp,by simp,by simp,fun _=>⟨Nat.zero_le _,rfl⟩⟩
 case round=>
  obtain⟨pos,out,wd,rfl,K,bq,bt,M,aU,Q,hg⟩:=hrel
  have s:=K.pos
  by_cases t:pos<text.size
  ·obtain⟨d1,d2,d3⟩:=Co text pos t
   have S:∀Z,(Instr.next (.pointer (some ⟨w.heap.size,0,none⟩)) true Z).run Tryz.prog wr=_:=fun Z=>Lib.run_next_any_at wr w.heap.size text pos Z K.2.1 t
   have O:=K.next (pos+(Utf8.decode text pos).2)
   obtain⟨W1,ad⟩:∃W1,wr.iterAt w.heap.size text (pos+(Utf8.decode text pos).2)=W1:=⟨_,rfl⟩
   simp only[ad]at S O
   obtain⟨r,hr⟩:∃r,(Utf8.decode text pos).1=r:=⟨_,rfl⟩
   obtain⟨Y,o⟩:∃Y,(Utf8.decode text pos).2=Y:=⟨_,rfl⟩
   simp only[hr]at S
   have hE:=CE (r:Int)
   have X:=I0 (r:Int)
   have p:(∀c∈text.data.toList,c.toNat<128)→r=(text[pos]'t).toNat∧Y=1∧Utf8.encode (r:Int)=⟨#[text[pos]'t]⟩:=fun ha=>by
    have h1:=Bi t ha
    have h2:=decode_ascii text pos t h1
    rw[h2]at hr o
    exact⟨hr.symm,o.symm,by rw[←hr];exact qb _ h1⟩
   have q:r<128→r=(text[pos]'t).toNat∧Y=1∧Utf8.encode (r:Int)=⟨#[text[pos]'t]⟩:=fun ha=>by
    rw[←hr]at ha
    obtain⟨h2,h1⟩:=d3 ha
    rw[h2]at hr o
    exact⟨hr.symm,o.symm,by rw[←hr];exact qb _ h1⟩
   have m:=uw t
   rw[hr]at d2
   rw[o]at d1
   rw[o]at O
   obtain⟨c,hc⟩:∃c,text[pos]'t=c:=⟨_,rfl⟩
   rw[hc]at p q m
   obtain⟨E,aR⟩:∃E,Utf8.encode (r:Int)=E:=⟨_,rfl⟩
   rw[aR]at hE p q
   have w1:=fun W=>kK (r:Int) 97 122 W
   have w2:=fun W=>kK (r:Int) 65 90 W
   have w3:=fun W=>kK (r:Int) 48 57 W
   obtain⟨z1,F⟩:∃z,(decide ((97:Int)≤(r:Int))&&decide ((r:Int)≤122))=z:=⟨_,rfl⟩
   obtain⟨z2,G⟩:∃z,(decide ((65:Int)≤(r:Int))&&decide ((r:Int)≤90))=z:=⟨_,rfl⟩
   obtain⟨z3,H⟩:∃z,(decide ((48:Int)≤(r:Int))&&decide ((r:Int)≤57))=z:=⟨_,rfl⟩
   simp only[F]at w1
   simp only[G]at w2
   simp only[H]at w3
   have D:(z1||z2||z3)=true→∃P,P=pos+1∧TkS w text P u3 out W1∧sx text w u3 (.string (wd++E)) W1:=fun hz=>by
    have U:r<128:=by
     rw[←F,←G,←H]at hz
     simp only[Bool.or_eq_true,Bool.and_eq_true,decide_eq_true_eq]at hz
     omega
    obtain⟨e1,e2,e3⟩:=q U
    have y:=X z1 z2 z3 F G H c (by omega)
    rw[hz]at y
    rw[e2]at O
    have bp:(wd++E).size=wd.size+1:=by rw[ByteArray.size_append,e3];rfl
    refine⟨pos+1,rfl,O,pos+1,out,wd++E,rfl,O,by omega,by omega,by omega,aU,Q,fun ha=> ?_⟩
    obtain⟨q1,q2⟩:=hg ha
    refine⟨by omega,?_⟩
    rw[←q2,m,cA,if_pos y,e3]
    congr 2
   have C:(z1||z2||z3)=false→∀v' W9 o1,TkS w text (pos+Y) v' (out++o1++[E]) W9→(o1=(if wd.data.toList=[]then []else [wd]))→sx text w v' (.string ByteArray.empty) W9:=fun hz v' W9 o1 j M=>by
    have a9:o1.length≤1:=by rw[M];split<;>simp
    refine⟨pos+Y,out++o1++[E],ByteArray.empty,rfl,j,Nat.zero_le _,Nat.zero_le _,by simp;omega,by simp;omega,fun b u=> ?_,fun ha=> ?_⟩
    ·rw[List.mem_append,List.mem_append,List.mem_singleton]at u
     rcases u with(h|h)|h
     ·exact Q b h
     ·rw[M]at h
      split at h
      ·cases h
      rw[List.mem_singleton]at h;rw[h];omega
     rw[h];omega
    obtain⟨q1,q2⟩:=hg ha
    obtain⟨e1,e2,e3⟩:=p ha
    have y:=X z1 z2 z3 F G H c (by omega)
    rw[hz]at y
    refine⟨by omega,?_⟩
    rw[←q2,m,cA,if_neg (by rw[y];decide),e2,M,e3,show ByteArray.empty.data.toList=([]:List UInt8)from rfl]
    unfold aV jt
    rw[List.map_append,List.map_append]
    by_cases f:wd.data.toList=[]
    ·rw[if_pos f,if_pos f];simp
    rw[if_neg f,if_neg f];simp
   have aj:W1.iterPos w.heap.size=pos+Y:=O.pos
   have a4:(9223372036854775807<wd.size+E.size)=False:=eq_false (by omega)
   have bn:(r:Int)≤2147483647:=by omega
   have I:=Lib.hid w1
   have N:=Lib.hid w2
   have ab:=Lib.hid w3
   have L:=Lib.hid O
   have i:=Lib.hid D
   have k:=Lib.hid C
   have l:=Lib.hid s
   have A:=Lib.hid aj
   clear K ad hr o X p q m hc F G H D C O w1 w2 w3 s aj hg Q d3
   cases z1 with
   |true=>
    obtain⟨p1,ag,-,g⟩:=i.out rfl
    have a:=Lib.hid g
    clear g
    go_wp2_with fail
    refine(I.out _).mono ?_
    rintro e J ⟨rfl,rfl⟩
    go_wp2_with fail
    exact⟨a.out,by rw[l.out,A.out];omega⟩
   |false=>
   cases z2 with
   |true=>
    obtain⟨p1,ag,-,g⟩:=i.out rfl
    have a:=Lib.hid g
    clear g
    go_wp2_with fail
    refine(I.out _).mono ?_
    rintro e J ⟨rfl,rfl⟩
    go_wp2_with fail
    refine(N.out _).mono ?_
    rintro e J ⟨rfl,rfl⟩
    go_wp2_with fail
    exact⟨a.out,by rw[l.out,A.out];omega⟩
   |false=>
   cases z3 with
   |true=>
    obtain⟨p1,ag,-,g⟩:=i.out rfl
    have a:=Lib.hid g
    clear g
    go_wp2_with fail
    refine(I.out _).mono ?_
    rintro e J ⟨rfl,rfl⟩
    go_wp2_with fail
    refine(N.out _).mono ?_
    rintro e J ⟨rfl,rfl⟩
    go_wp2_with fail
    refine(ab.out _).mono ?_
    rintro e J ⟨rfl,rfl⟩
    go_wp2_with fail
    exact⟨a.out,by rw[l.out,A.out];omega⟩
   |false=>
    by_cases f:wd.data.toList=[]
    ·have hq:(wd.toList==([]:List UInt8))=true:=by rw[eY,f];rfl
     obtain⟨v',w',n,j⟩:=L.out.push (x:=E) (by omega) (by omega)
     have a:=Lib.hid (k.out rfl v' w' [] (by rw[List.append_nil];exact j) (by rw[if_pos f]))
     have T:=Lib.hid j.pos
     clear j i k L f
     go_wp2_with fail
     refine(I.out _).mono ?_
     rintro e J ⟨rfl,rfl⟩
     go_wp2_with fail
     refine(N.out _).mono ?_
     rintro e J ⟨rfl,rfl⟩
     go_wp2_with fail
     refine(ab.out _).mono ?_
     rintro e J ⟨rfl,rfl⟩
     go_wp2_with (at_builtin;refine bo rfl _ _ _ rfl rfl rfl n.out ?_)
     exact⟨a.out,by rw[l.out,T.out];omega⟩
    have hq:(wd.toList==([]:List UInt8))=false:=by rw[eY,beq_eq_false_iff_ne];exact f
    obtain⟨v1,bv,V,ac⟩:=L.out.push (x:=wd) (by omega) (by omega)
    obtain⟨v',w',n,j⟩:=ac.push (x:=E) (by omega) (by rw[List.length_append,List.length_singleton];omega)
    have a:=Lib.hid (k.out rfl v' w' [wd] j (by rw[if_neg f]))
    have T:=Lib.hid j.pos
    clear j ac i k L f
    go_wp2_with fail
    refine(I.out _).mono ?_
    rintro e J ⟨rfl,rfl⟩
    go_wp2_with fail
    refine(N.out _).mono ?_
    rintro e J ⟨rfl,rfl⟩
    go_wp2_with fail
    refine(ab.out _).mono ?_
    rintro e J ⟨rfl,rfl⟩
    go_wp2_with (first
     |(at_builtin;refine bo rfl _ _ _ rfl rfl rfl V.out ?_)
     |(at_builtin;refine bo rfl _ _ _ rfl rfl rfl n.out ?_))
    exact⟨a.out,by rw[l.out,T.out];omega⟩
  have S:∀Z,(Instr.next (.pointer (some ⟨w.heap.size,0,none⟩)) true Z).run Tryz.prog wr=_:=fun Z=>Lib.run_next_end_at wr w.heap.size text pos Z K.2.1 t
  have m:text.data.toList.drop pos=[]:=by rw[List.drop_eq_nil_iff,Array.length_toList];exact Nat.le_of_not_lt t
  rw[m]at hg
  by_cases f:wd.data.toList=[]
  ·have hq:(wd.toList==([]:List UInt8))=true:=by rw[eY,f];rfl
   have B:=Lib.hid (show(∀c∈text.data.toList,c.toNat<128)→aV out=cA text.data.toList []from fun ha=>by
    have:=(hg ha).2
    rw[cA]at this
    unfold jt at this
    rw[if_pos f,List.append_nil]at this
    exact this)
   have hO:=Lib.hid (OwnL.baseMono K.1 (Nat.le_succ _))
   have hB:=Lib.hid K.2.2
   have R:=Lib.hid Q
   clear hg m K s f Q
   go_wp2_with fail
   go_ret
   exact⟨_,out,rfl,hO.out,R.out,by omega,B.out,hB.out⟩
  have hq:(wd.toList==([]:List UInt8))=false:=by rw[eY,beq_eq_false_iff_ne];exact f
  obtain⟨v',w',n,j⟩:=K.push (x:=wd) (by omega) (by omega)
  have B:=Lib.hid (show(∀c∈text.data.toList,c.toNat<128)→aV (out++[wd])=cA text.data.toList []from fun ha=>by
   have:=(hg ha).2
   rw[cA]at this
   unfold jt at this
   rw[if_neg f]at this
   rw[←this]
   unfold aV
   rw[List.map_append];rfl)
  have hO:=Lib.hid (OwnL.baseMono j.1 (Nat.le_succ _))
  have hB:=Lib.hid j.2.2
  have R:=Lib.hid (show∀b∈out++[wd],b.size≤70000 from fun b u=>by
   rw[List.mem_append,List.mem_singleton]at u
   rcases u with h|h
   ·exact Q b h
   rw[h];omega)
  clear hg m K s f Q j
  go_wp2_with (at_builtin;refine bo rfl _ _ _ rfl rfl rfl n.out ?_)
  go_ret
  exact⟨_,out++[wd],rfl,hO.out,R.out,by rw[List.length_append,List.length_singleton];omega,B.out,hB.out⟩
theorem I9{B:Nat}{w0 w:World}(h:Below B w0 w)(hB:B≤w.heap.size)(os:Array Obj):Below B w0 (Go.Sort.grow w os):=
 ⟨h.os,h.tape,h.output,by simpa[Go.Sort.grow]using Nat.le_trans h.size (Nat.le_add_right _ _),fun k a=>by
  rw[←h.block k a]
  simp only[Go.Sort.grow]
  rw[Array.getElem?_append_left (by omega)]⟩
def sY(w:World)(g:Nat):Prop:=∃ev,w.cell? ⟨g,0,none⟩=some ev∧(ev= .nilIface∨∃te pe,ev= .iface te pe)
def LibT(w:World):Prop:=sY w 1∧sY w 2
theorem LibT.later{w w':World}(h:LibT w)(hb:Below w.heap.size w w'):LibT w':=by
 obtain⟨⟨a,c,f⟩,⟨b,g,i⟩⟩:=h
 exact⟨⟨a,cell_later hb c,f⟩,⟨b,cell_later hb g,i⟩⟩
theorem Ah(s:ByteArray)(hs:s.size≤70000)(w:World)(hL:LibT w):
  Calls Tryz.prog 113 #[.string s] w fun e w'=>Below w.heap.size w w'∧((∃v:Int,lf s.data.toList=some v∧e= .returned (.tuple #[.int .i64 v, .nilIface]))∨(lf s.data.toList=none∧∃(v:Int) (t:TypeId) (p:Value),e= .returned (.tuple #[.int .i64 v, .iface t p])∧t=210)):=by
 obtain⟨⟨c,g,i⟩,⟨f,j,k⟩⟩:=hL
 unfold lf
 cases h:Lib.atoiAll s.data.toList with
 |ok v=>
  refine(Any.strconv_Atoi_ok kD s (by omega) v h w).mono fun e w' a=>⟨?_, .inl ⟨v,rfl,a.1⟩⟩
  rcases a.2 with rfl|⟨t,rfl⟩
  ·exact .refl _ _
  exact tM w _ t
 |range=>
  refine(Any.strconv_Atoi_range kD s (by omega) h f w j k).mono fun e w' a=> ?_
  obtain⟨N,rfl,-,-,b⟩:=a
  exact⟨b, .inr ⟨rfl,_,_,_,rfl,rfl⟩⟩
 |_=>
  refine(Any.strconv_Atoi_syntax kD s (by omega) h c w g i).mono fun e w' a=> ?_
  obtain⟨N,rfl,-,-,b⟩:=a
  exact⟨b, .inr ⟨rfl,_,_,_,rfl,rfl⟩⟩
theorem Strs.tailT{S:Nat→Prop}{w:World}{b off c:Nat}{x:ByteArray}{l:List ByteArray}(h:Sl strE S w (some ⟨b,off,none⟩) c (x::l)):Sl strE S w (if c=1 then some ⟨b,off,none⟩else some ⟨b,off+1,none⟩) (c-1) l:=by
 have p:=h.cap
 have y:=h.max
 rw[List.length_cons]at p
 refine⟨by omega,by omega,(fun e=>by split at e<;>cases e),fun f=> ?_⟩
 obtain⟨u,g,q,o,s,a⟩:=h.dat (by simp)
 cases q
 have t:0<l.length:=List.length_pos_iff.2 f
 rw[if_neg (by omega)]
 refine⟨b,off+1,rfl,o,s,fun i v=> ?_⟩
 obtain⟨vs,k,m,n⟩:=a (i+1) (by rw[List.length_cons];omega)
 refine⟨vs,k,fun j r=> ?_,n⟩
 have:=m j r
 rw[show off+(i+1)*strE.size+j=off+1+i*strE.size+j by show off+(i+1)*1+j=off+1+i*1+j;omega]at this
 exact this
theorem Sl.str0{S:Nat→Prop}{w:World}{a:Option Addr}{c:Nat}{x:ByteArray}{l:List ByteArray}(h:Sl strE S w a c (x::l)):∃b o,a=some ⟨b,o,none⟩∧w.cell? ⟨b,o,none⟩=some (.string x):=by
 obtain⟨b,o,ha,-,-,m⟩:=h.dat (by simp)
 obtain⟨vs,f,g,i⟩:=m 0 (by simp)
 have j:=g 0 (by rw[f];exact Nat.one_pos)
 have k:vs=[.string x]:=i.1
 subst k
 exact⟨b,o,ha,by simpa using j⟩
theorem uR(w:World)(b o:Nat)(v:Value):w.grownBy (w.setCell ⟨b,o,none⟩ v) (some b):=
 ⟨rfl,rfl,rfl,by simp[World.setCell],fun k _ a=>Below.heap_setCell _ _ _ _ (fun e=>a (by simp[e]))⟩
abbrev readerO (a1:Option Addr) (n1 c1 mb:Nat) (vL vT:Value):Obj:= .cells #[.slice a1 n1 c1, .map (some mb),vL,vT] 176 (0,0)
noncomputable abbrev strKT:KeyK ByteArray Tryz.prog 9:=zo Tryz.underlying9
def lX(s:Sg)(b:ByteArray):Option Value:=(iw s b.data.toList).map (fun i=> .int .i64 (i:Int))
structure RdW (W0:World) (rb mb:Nat) (a1:Option Addr) (c1:Nat) (s:Sg) (W:World) (Lf:List ByteArray) (T:List Int):Prop where
 cell:∃aL cL v,W.heap[rb]?=some (readerO a1 s.length c1 mb (.slice aL Lf.length cL) v)∧Sl strE (fun b=>b<W0.heap.size∧b≠rb) W aL cL Lf∧OwnI W W0.heap.size v T
 gb:W0.grownBy W (some rb)
 sz:∀b∈Lf,b.size≤70000
 lt:rb<W0.heap.size
def ju(W0:World)(rb mb:Nat)(a1:Option Addr)(c1:Nat)(s:Sg):Prop:=
 aH s=true∧∀W,W0.grownBy W (some rb)→Sign (fun _=>True) W a1 c1 s∧(∃n,VMap strKT W mb n (lX s))∧LibT W
section
variable {W0:World}{rb mb:Nat}{a1:Option Addr}{c1:Nat}{s:Sg}
theorem iA{W:World}{b:Nat}{v0 v1 v2 v3:Value}{ty:TypeId}(h:W.heap[b]?=some (.cells #[v0,v1,v2,v3] ty (0,0))):W.cell? ⟨b,0,none⟩=some v0∧W.cell? ⟨b,1,none⟩=some v1∧W.cell? ⟨b,2,none⟩=some v2∧W.cell? ⟨b,3,none⟩=some v3∧(∀i,W.frozen? ⟨b,i,none⟩=false):=by
 refine⟨?_,?_,?_,?_,fun i=> ?_⟩<;>simp[World.cell?,World.frozen?,h]
theorem RdW.later{W W':World}{Lf:List ByteArray}{T:List Int}(h:RdW W0 rb mb a1 c1 s W Lf T)(hb:Below W.heap.size W W'):RdW W0 rb mb a1 c1 s W' Lf T:=by
 obtain⟨c,f,v,b,g,i⟩:=h.cell
 have a:rb<W.heap.size:=(Array.getElem?_eq_some_iff.1 b).1
 exact⟨⟨c,f,v,(hb.block rb a).trans b,g.below hb,OwnL.call i hb⟩,gV h.gb (qk hb),h.sz,h.lt⟩
theorem RdW.take{W:World}{x:ByteArray}{Lf:List ByteArray}{T:List Int}(h:RdW W0 rb mb a1 c1 s W (x::Lf) T):
  ∃bL oL cL v,W.cell? ⟨rb,2,none⟩=some (.slice (some ⟨bL,oL,none⟩) (Lf.length+1) cL)∧Lf.length+1≤cL∧cL≤9223372036854775807∧W.cell? ⟨bL,oL,none⟩=some (.string x)∧W.cell? ⟨rb,3,none⟩=some v∧W.frozen? ⟨rb,2,none⟩=false∧x.size≤70000∧
   RdW W0 rb mb a1 c1 s (W.setCell ⟨rb,2,none⟩ (.slice (if cL=1 then some ⟨bL,oL,none⟩else some ⟨bL,oL+1,none⟩) Lf.length (cL-1))) Lf T:=by
 obtain⟨u,cL,v,l,f,m⟩:=h.cell
 obtain⟨bL,oL,rfl,n⟩:=Sl.str0 f
 obtain⟨w,y,q,r,t⟩:=iA l
 have a:=f.cap
 have g:=f.max
 rw[List.length_cons]at a
 have p:=Strs.tailT f
 have hg:=uR W rb 2 (.slice (if cL=1 then some ⟨bL,oL,none⟩else some ⟨bL,oL+1,none⟩) Lf.length (cL-1))
 have i:=OwnL.lt m
 have o:=h.lt
 refine⟨bL,oL,cL,v,q,a,g,n,r,t 2,h.sz x (by simp),⟨_,_,v,?_,p.same (.of_grown hg (fun b c e=>c.2 (Option.some.inj e))),OwnL.grown m hg (fun k e=>fun j=>by have:=(i k e).1;injection j with j;omega) (fun b c=>c.elim)⟩,gV h.gb hg,fun b c=>h.sz b (by simp[c]),h.lt⟩
 simp[World.setCell,Array.getElem?_modify,l]
theorem RdW.push{W:World}{Lf:List ByteArray}{T:List Int}(h:RdW W0 rb mb a1 c1 s W Lf T)(hT:T.length≤1000)(x:Int)(hx:aE x):
  ∃aT cT aN cN w',W.cell? ⟨rb,3,none⟩=some (.slice aT T.length cT)∧RowKit.Hid ((Builtin.append_ #[42,42] 42 #[.slice aT T.length cT, .slice (some ⟨W.heap.size,0,none⟩) 1 1]).run Tryz.prog (W.alloc (.cells #[.int .i64 x] 3))= .ok (.slice aN (T.length+1) cN) w')∧
   w'.cell? ⟨rb,3,none⟩=some (.slice aT T.length cT)∧w'.frozen? ⟨rb,3,none⟩=false∧RowKit.Hid (RdW W0 rb mb a1 c1 s (w'.setCell ⟨rb,3,none⟩ (.slice aN (T.length+1) cN)) Lf (T++[x])):=by
 obtain⟨n,o,v,p,B,q⟩:=h.cell
 obtain⟨F,G,H,C,I⟩:=iA p
 obtain⟨aT,cT,rfl,-⟩:=OwnI.ints q
 have u:rb<W.heap.size:=(Array.getElem?_eq_some_iff.1 p).1
 have A:=h.lt
 obtain⟨v',w',j,w,hg,-⟩:=OwnL.push (P:=Tryz.prog) (t:=42) (ty:=42) q Tryz.underlying42 gW rfl (vs:=[.int .i64 x]) (x:=x) ⟨rfl,hx⟩ (by omega) (by unfold aB;omega) h.gb.size
 have c:=OwnL.lt q
 obtain⟨aN,cN,l,-⟩:=OwnI.ints w
 rw[show(T++[x]).length=T.length+1 by simp]at l
 subst l
 have hr:w'.heap[rb]?=W.heap[rb]?:=hg.block rb u (fun e=>by have:=(c rb e.symm).1;omega)
 have f:w'.heap[rb]?=some (readerO a1 s.length c1 mb (.slice n Lf.length o) (.slice aT T.length cT)):=hr.trans p
 obtain⟨J,K,L,D,E⟩:=iA f
 have a:=uR w' rb 3 (.slice aN (T.length+1) cN)
 have g:=OwnL.lt w
 have r:W0.grownBy w' (some rb):=uP h.gb hg (fun i e=>(c i e).1)
 have y:Sl strE (fun b=>b<W0.heap.size∧b≠rb) w' n o Lf:=B.same (.of_grown hg (fun b m e=>by have:=(c b e.symm).1;omega))
 refine⟨aT,cT,aN,cN,w',C,Lib.hid j,D,E 3,Lib.hid ⟨⟨n,o,_,?_,y.same (.of_grown a (fun b m e=>m.2 (Option.some.inj e))),OwnL.grown w a (fun k e z=>by have:=(g k e).1;injection z with z;omega) (fun b m=>m.elim)⟩,gV r a,h.sz,h.lt⟩⟩
 simp[World.setCell,Array.getElem?_modify,f]
theorem gE{W:World}{Lf:List ByteArray}{T:List Int}(h:RdW W0 rb mb a1 c1 s W Lf T):
  Calls Tryz.prog 190 #[.pointer (some ⟨rb,0,none⟩)] W fun e w'=>∃b Lf',e= .returned (.string b)∧b.size≤70000∧RdW W0 rb mb a1 c1 s w' Lf' T∧bQ (aV Lf)=(b.data.toList,aV Lf'):=by
 cases Lf with
 |nil=>
  obtain⟨t,g,v,i,m,n⟩:=h.cell
  obtain⟨q,r,j,k,l⟩:=iA i
  have o:=Lib.hid h
  clear h i m n q r k l
  simp only[List.length_nil]at j
  go_enter Tryz.func190,Tryz.ntmps190
  go_wp2_with fail
  go_ret
  exact⟨_,[],rfl,by decide,o.out,rfl⟩
 |cons x Lf=>
  obtain⟨bL,y,g,v,j,u,w,z,k,l,hx,c⟩:=h.take
  have p:(((Lf.length+1:Nat):Int)==0)=false:=by rw[beq_eq_false_iff_ne];omega
  by_cases f:g=1
  ·rw[if_pos f]at c
   subst f
   obtain rfl:Lf=[]:=List.length_eq_zero_iff.1 (by omega)
   have a:=Lib.hid c
   clear h c
   go_enter Tryz.func190,Tryz.ntmps190
   go_wp2_with fail
   go_ret
   exact⟨x,[],rfl,hx,a.out,rfl⟩
  rw[if_neg f]at c
  have a:=Lib.hid c
  clear h c
  go_enter Tryz.func190,Tryz.ntmps190
  go_wp2_with fail
  go_ret
  exact⟨x,Lf,rfl,hx,a.out,rfl⟩
def qR(w:World)(rb:Nat):Nat:=match w.cell? ⟨rb,2,none⟩with|some (.slice _ n _)=>n|_=>0
theorem RdW.left{W:World}{Lf:List ByteArray}{T:List Int}(h:RdW W0 rb mb a1 c1 s W Lf T):qR W rb=Lf.length∧∃aL cL,W.cell? ⟨rb,2,none⟩=some (.slice aL Lf.length cL):=by
 obtain⟨aL,cL,v,b,c,f⟩:=h.cell
 obtain⟨g,i,a,j,k⟩:=iA b
 exact⟨by unfold qR;rw[a],aL,cL,a⟩
def Ho(W0:World)(rb mb:Nat)(a1:Option Addr)(c1:Nat)(s:Sg)(Lf:List ByteArray)(T:List Int)(wr:World):Prop:=∃L',RdW W0 rb mb a1 c1 s wr L' T∧c8 (aV L')=c8 (aV Lf)
theorem gO{x y:ByteArray}(h:x.data.toList=y.data.toList):x=y:=by
 cases x;cases y
 have:=Array.toList_inj.1 h
 exact congrArg ByteArray.mk this
theorem gn{W:World}{Lf:List ByteArray}{T:List Int}(h:RdW W0 rb mb a1 c1 s W Lf T):
  Calls Tryz.prog 188 #[.pointer (some ⟨rb,0,none⟩)] W fun e w'=>∃v Lf',e= .returned v∧RdW W0 rb mb a1 c1 s w' Lf' T∧aV Lf'=c8 (aV Lf):=by
 have u:=Lib.hid h
 clear h
 go_enter Tryz.func188,Tryz.ntmps188
 go_wp2_with fail
 go_loopw [16] (fun _ wr=>Ho W0 rb mb a1 c1 s Lf T wr) (fun _ wr=>qR wr rb)
 case atStart=>exact⟨Lf,u.out,rfl⟩
 case round=>
  obtain⟨n,k,hs⟩:=hrel
  cases n with
  |nil=>
   obtain⟨l,y,p,q⟩:=k.left
   have c:=Lib.hid k
   have g:=Lib.hid hs
   clear k hs l
   simp only[List.length_nil]at q
   go_wp2_with fail
   refine bodyPost_end (results_none rfl _ _ _) rfl ?_
   exact⟨_,[],rfl,c.out,g.out⟩
  |cons x n=>
   have l:=k.left.1
   obtain⟨bL,B,p,v,q,z,A,D,C,E,hx,b⟩:=k.take
   by_cases a:x.data.toList=[32]
   ·have w:(x.toList==([32]:List UInt8))=true:=by rw[eY,a];rfl
    have f:c8 (aV n)=c8 (aV Lf):=by
     rw[←hs]
     unfold aV
     rw[List.map_cons,a,mj]
    by_cases o:p=1
    ·rw[if_pos o]at b
     subst o
     obtain rfl:n=[]:=List.length_eq_zero_iff.1 (by omega)
     have i:=b.left.1
     have c:=Lib.hid b
     have g:=Lib.hid f
     have m:=Lib.hid l
     have j:=Lib.hid i
     clear k hs b f l i a
     go_wp2_with fail
     exact⟨⟨[],c.out,g.out⟩,by have r:=m.out;have t:=j.out;simp at r t;omega⟩
    rw[if_neg o]at b
    have i:=b.left.1
    have c:=Lib.hid b
    have g:=Lib.hid f
    have m:=Lib.hid l
    have j:=Lib.hid i
    clear k hs b f l i a
    go_wp2_with fail
    exact⟨⟨n,c.out,g.out⟩,by rw[m.out,j.out,List.length_cons];omega⟩
   have w:(x.toList==([32]:List UInt8))=false:=by rw[eY,beq_eq_false_iff_ne];exact a
   have f:aV (x::n)=c8 (aV Lf):=by
    rw[←hs]
    unfold aV
    rw[List.map_cons,fs a]
   have c:=Lib.hid k
   have g:=Lib.hid f
   clear k hs b f l a
   go_wp2_with fail
   refine bodyPost_end (results_none rfl _ _ _) rfl ?_
   exact⟨_,_,rfl,c.out,g.out⟩
theorem I8(w:World):(zeroValue 3).run Tryz.prog w= .ok (.int .i64 0) w:=by kernel_rfl
theorem At(b:ByteArray)(hb:b.size≤70000)(w:World):
  Calls Tryz.prog 198 #[.string b, .string ⟨#[120]⟩] w fun e w'=>e= .returned (.bool (decide (b.data.toList.head?=some 120)))∧w=w':=by
 by_cases o:b.size=0
 ·have k:b.data.toList=[]:=by
   have:b.data.toList.length=0:=by rw[Array.length_toList];exact o
   exact List.length_eq_zero_iff.1 this
  have m:=Lib.hid (show decide (b.data.toList.head?=some 120)=false by rw[k];rfl)
  have j:decide ((1:Int)≤(b.size:Int))=false:=decide_eq_false (by omega)
  clear k
  go_enter Tryz.func198,Tryz.ntmps198
  go_wp2_with fail
  go_ret
  rw[m.out]
  exact⟨rfl,rfl⟩
 have a:0<b.size:=by omega
 have g:b.data.toList=(b[0]'a)::b.data.toList.drop 1:=by
  have:=uw a
  rwa[List.drop_zero]at this
 have i:(b.extract 0 1).data.toList=[b[0]'a]:=by
  rw[ByteArray.data_extract,Array.toList_extract,List.extract_eq_take_drop,g];rfl
 have hd:decide (b.data.toList.head?=some 120)=decide ((b[0]'a)=120):=by rw[g];simp
 obtain⟨c,l⟩:∃c,b[0]'a=c:=⟨_,rfl⟩
 rw[l]at i hd
 have n:((b.extract 0 1).toList==([120]:List UInt8))=decide (c=120):=by rw[eY,i];by_cases h:c=120<;>simp[h]
 rw[hd]
 have j:decide ((1:Int)≤(b.size:Int))=true:=decide_eq_true (by omega)
 obtain⟨z,f⟩:∃z,decide (c=120)=z:=⟨_,rfl⟩
 rw[f]at n⊢
 clear g i hd l f
 go_enter Tryz.func198,Tryz.ntmps198
 go_wp2_with fail
 go_ret
 exact⟨rfl,rfl⟩
theorem AT(b:ByteArray)(hb:b.size≤70000)(w:World):
  Calls Tryz.prog 111 #[.string b, .string ⟨#[120]⟩] w fun e w'=>∃x,e= .returned (.string x)∧x.data.toList=mr b.data.toList∧x.size≤70000∧w=w':=by
 have a:=At b hb w
 have i:Calls Tryz.prog 159 #[.string b, .string ⟨#[120]⟩] w fun e w'=>∃x,e= .returned (.string x)∧x.data.toList=mr b.data.toList∧x.size≤70000∧w=w':=by
  unfold mr
  by_cases hx:b.data.toList.head?=some 120
  ·rw[decide_eq_true hx]at a
   have q:0<b.size:=by
    have:0<b.data.toList.length:=by
     cases h:b.data.toList with
     |nil=>rw[h]at hx;cases hx
     |cons c r=>simp
    rwa[Array.length_toList]at this
   have o:(b.extract 1 b.size).data.toList=b.data.toList.tail:=by
    rw[ByteArray.data_extract,Array.toList_extract,List.extract_eq_take_drop,List.drop_one,List.take_of_length_le]
    rw[List.length_tail,Array.length_toList]
    exact Nat.le_refl _
   have l:(b.extract 1 b.size).size≤70000:=by rw[ByteArray.size_extract];omega
   have k:=Lib.hid o
   have m:=Lib.hid l
   have f:=Lib.hid a
   have g:=Lib.hid hx
   clear a o l hx
   go_enter Tryz.func159,Tryz.ntmps159
   go_wp2_with fail
   refine f.out.mono ?_
   rintro e p ⟨rfl,rfl⟩
   go_wp2_with fail
   go_ret
   exact⟨_,rfl,by first|exact k.out|(rw[if_pos g.out];exact k.out),m.out,rfl⟩
  rw[decide_eq_false hx]at a
  have f:=Lib.hid a
  have g:=Lib.hid hx
  clear a hx
  go_enter Tryz.func159,Tryz.ntmps159
  go_wp2_with fail
  refine f.out.mono ?_
  rintro e p ⟨rfl,rfl⟩
  go_wp2_with fail
  go_ret
  exact⟨_,rfl,by first|rfl|rw[if_neg g.out],hb,rfl⟩
 have j:=Lib.hid i
 clear a i
 go_enter Tryz.func111,Tryz.ntmps111
 go_wp2_with fail
 refine j.out.mono ?_
 rintro e p ⟨x,rfl,hx,n,rfl⟩
 go_wp2_with fail
 go_ret
 exact⟨x,rfl,hx,n,rfl⟩
def Bn(M:Option (Nat×List Int))(W0:World)(rb mb:Nat)(a1:Option Addr)(c1:Nat)(s:Sg)(Lf:List ByteArray)(T:List Int)(e:Ending)(w':World):Prop:=
 (∃(m:Nat) (T':List Int),M=some (m,T')∧e= .returned (.tuple #[.int .i64 (m:Int), .bool true])∧m≤3∧RdW W0 rb mb a1 c1 s w' Lf T'∧T'.length=T.length+1∧T.length≤60)∨
  (M=none∧e= .returned (.tuple #[.int .i64 0, .bool false])∧RdW W0 rb mb a1 c1 s w' Lf T)
theorem Fm{s:Sg}{w:List UInt8}{i:Nat}(h:iw s w=some i):i<s.length:=by
 unfold iw at h
 have:=List.mem_of_find?_eq_some h
 exact List.mem_range.1 this
theorem mX(hE:ju W0 rb mb a1 c1 s){W:World}{Lf:List ByteArray}{T:List Int}(h:RdW W0 rb mb a1 c1 s W Lf T)(hT:T.length≤62)(b:ByteArray)(hb:b.size≤70000):
  Calls Tryz.prog 189 #[.pointer (some ⟨rb,0,none⟩), .string b] W (Bn (gN s b.data.toList T) W0 rb mb a1 c1 s Lf T):=by
 obtain⟨F,hE⟩:=hE
 obtain⟨r,⟨nm,y⟩,c⟩:=hE W h.gb
 obtain⟨aL,cL,v,V,h2,X⟩:=h.cell
 obtain⟨q0,q1,-,q3,-⟩:=iA V
 obtain⟨aT,cT,rfl,w⟩:=OwnI.ints X
 have mT:=w.le
 have ba:=r.le
 unfold gN
 by_cases K:60<T.length
 ·rw[if_pos K]
  have G:=Lib.hid h
  clear h V h2 X hE r y c w q0 q1
  go_enter Tryz.func189,Tryz.ntmps189
  go_wp2_with fail
  go_ret2
  exact .inr ⟨rfl,rfl,G.out⟩
 rw[if_neg K]
 unfold mW
 have g:=y.look_ok (tm:=93) (te:=3) Tryz.underlying93 (I8 W) b (by show b.size≤maxLen;unfold maxLen;omega)
 cases Q:iw s b.data.toList with
 |some i=>
  have E:=Fm Q
  have o:lX s b=some (.int .i64 (i:Int)):=by unfold lX;rw[Q];rfl
  rw[o]at g
  have C:(Instr.lookup 93 (.map (some mb)) (.string b) true).run Tryz.prog W= .ok (.tuple #[.int .i64 (i:Int), .bool true]) W:=g
  obtain⟨bS,oS,rfl,-,s0,s1,-,-⟩:=r.sym i E
  obtain⟨O,P⟩:=A7 F (n:=(i:Int)) (by omega) (by omega)
  have A:=(fU F P).2
  have l:s[i].2=((ar s (i:Int):Nat):Int):=by
   rw[O];unfold pB;rw[Int.toNat_natCast,List.getD_eq_getElem?_getD,List.getElem?_eq_getElem E];rfl
  rw[l]at s1
  obtain⟨m,Y⟩:∃m,ar s (i:Int)=m:=⟨_,rfl⟩
  rw[Y]at s1 A
  have au:=(og F).2
  obtain⟨Z,ab,aN,cN,w',e3,q,r3,rf,L⟩:=h.push (by omega) (i:Int) (by unfold aE;omega)
  have e4:=q3.symm.trans e3
  injection e4 with e5
  injection e5 with e6 e7 e8
  subst e6
  subst e8
  have B:=L.out.gb
  have R:=(hE _ B).1
  obtain⟨aP,bb,N,-,t0,t1,-,-⟩:=R.sym i E
  simp only[Option.some.injEq,Addr.mk.injEq,and_true]at N
  obtain⟨rfl,rfl⟩:=N
  rw[l,Y]at t1
  obtain⟨ay,aR,v3,g1,-,-⟩:=L.out.cell
  obtain⟨u0,u1,u2,u3,-⟩:=iA g1
  have ag:=Lib.hid Y
  have k:T.length≤60:=by omega
  clear h V h2 X hE r y c w g o l O P Y R B g1 Q e3
  go_enter Tryz.func189,Tryz.ntmps189
  go_wp2_with (at_builtin;refine bo rfl _ _ _ rfl rfl rfl q.out ?_)
  go_ret2
  refine .inl ⟨m,T++[(i:Int)],?_,rfl,A,L.out,by simp,k⟩
  simp only[ag.out]
 |none=>
  have o:lX s b=none:=by unfold lX;rw[Q];rfl
  rw[o]at g
  have C:(Instr.lookup 93 (.map (some mb)) (.string b) true).run Tryz.prog W= .ok (.tuple #[.int .i64 0, .bool false]) W:=g
  have ct:=AT b hb W
  have ca:=fun(x:ByteArray) (hx:x.size≤70000)=>Ah x hx W c
  have k:T.length≤60:=by omega
  have J:=Lib.hid ct
  have I:=Lib.hid ca
  have G:=Lib.hid h
  clear ct ca h V h2 X hE r y c w g o Q q0
  unfold o9
  go_enter Tryz.func189,Tryz.ntmps189
  go_wp2_with fail
  refine J.out.mono ?_
  rintro e w1 ⟨x,rfl,hx,aj,rfl⟩
  have H:=Lib.hid (I.out x aj)
  have U:=Lib.hid hx
  clear I hx C
  go_wp2_with fail
  refine H.out.mono ?_
  rintro e w2 ⟨M,hv⟩
  have f:=G.out.later M
  clear H M J
  rcases hv with⟨v,a,rfl⟩|⟨a,v,t,p,rfl,rfl⟩
  ·rw[U.out]at a
   have z:=Lib.hid a
   have cw:=fun W=>kK v 0 11 W
   by_cases u:0≤v∧v≤11
   ·simp only[show(decide ((0:Int)≤v)&&decide (v≤11))=true by simpa using u]at cw
    obtain⟨Z,ab,aN,cN,w',e3,q,r3,rf,L⟩:=f.push (by omega) (-v-1) (by unfold aE;omega)
    have a5:IntKind.i64.wrap (-v)=-v:=by rw[IntWalk.i64_in _ (by omega)]
    have a9:IntKind.i64.wrap (-v-1)=-v-1:=by rw[IntWalk.i64_in _ (by omega)]
    have D:=Lib.hid cw
    clear cw f a G
    go_wp2_with fail
    refine(D.out _).mono ?_
    rintro e w3 ⟨rfl,rfl⟩
    go_wp2_with (at_builtin;refine bo rfl _ _ _ rfl rfl rfl q.out ?_)
    go_ret2
    refine .inl ⟨0,T++[-v-1],?_,rfl,by omega,L.out,by simp,k⟩
    simp only[z.out,Option.bind_some]
    rw[if_pos u,Option.map_some,iP (by omega)]
   have S:=Lib.hid u
   simp only[show(decide ((0:Int)≤v)&&decide (v≤11))=false by simpa using u]at cw
   have D:=Lib.hid cw
   have j:=Lib.hid f
   clear cw f a G u
   go_wp2_with fail
   refine(D.out _).mono ?_
   rintro e w3 ⟨rfl,rfl⟩
   go_wp2_with fail
   go_ret2
   refine .inr ⟨?_,rfl,j.out⟩
   simp only[z.out,Option.bind_some]
   rw[if_neg S.out];rfl
  rw[U.out]at a
  have z:=Lib.hid a
  have j:=Lib.hid f
  clear f a G
  go_wp2_with fail
  go_ret2
  refine .inr ⟨?_,rfl,j.out⟩
  simp only[z.out,Option.bind_none,Option.map_none]
end
def rdRet(M:Option RdX)(W0:World)(rb mb:Nat)(a1:Option Addr)(c1:Nat)(s:Sg)(T:List Int)(e:Ending)(w':World):Prop:=
 (∃(L':List ByteArray) (T':List Int),M=some (aV L',T')∧e= .returned (.bool true)∧RdW W0 rb mb a1 c1 s w' L' T'∧T.length≤T'.length∧T'.length≤61)∨
  (M=none∧e= .returned (.bool false)∧∃(L':List ByteArray) (T':List Int),RdW W0 rb mb a1 c1 s w' L' T')
def eE(g:Nat→RdX→Option RdX)(x0:RdX)(m k:Nat)(W0:World)(rb mb:Nat)(a1:Option Addr)(c1:Nat)(s:Sg)(ok i:Value)(wr:World):Prop:=
 ∃j:Nat,i= .int .i64 j∧j≤m∧((∃(L':List ByteArray) (T':List Int),dh g j x0=some (aV L',T')∧ok= .bool true∧RdW W0 rb mb a1 c1 s wr L' T'∧k≤T'.length∧T'.length≤61)∨
  (dh g j x0=none∧ok= .bool false∧∃(L':List ByteArray) (T':List Int),RdW W0 rb mb a1 c1 s wr L' T'))
section
variable {W0:World}{rb mb:Nat}{a1:Option Addr}{c1:Nat}{s:Sg}
theorem jr{b:ByteArray}{c:UInt8}(h:b.data.toList=[c]):(b.toList==([c]:List UInt8))=true:=by rw[eY,h];simp
theorem iI{b:ByteArray}{c:UInt8}(h:¬b.data.toList=[c]):(b.toList==([c]:List UInt8))=false:=by rw[eY,beq_eq_false_iff_ne];exact h
theorem FZ(hE:ju W0 rb mb a1 c1 s):∀(f:Nat) (W:World) (Lf:List ByteArray) (T:List Int),RdW W0 rb mb a1 c1 s W Lf T→T.length≤61→62≤f+T.length→
  Calls Tryz.prog 146 #[.pointer (some ⟨rb,0,none⟩)] W (rdRet (fj s f (aV Lf,T)) W0 rb mb a1 c1 s T):=by
 intro f
 induction f with
 |zero=>intro W Lf T _ h1 h2;omega
 |succ f U=>
 intro W Lf T h Y Z
 have Q:=Lib.hid U
 obtain⟨M,I⟩:∃M,fj s (f+1) (aV Lf,T)=M:=⟨_,rfl⟩
 rw[I]
 rw[fj]at I
 have B:=Lib.hid I
 have S:=Lib.hid h
 have L:=Lib.hid hE
 clear I h U hE
 go_enter Tryz.func146,Tryz.ntmps146
 go_wp2_with fail
 refine(gn S.out).mono ?_
 rintro e w1 ⟨v,L1,rfl,D,H⟩
 have t:=Lib.hid D
 have u:=Lib.hid H
 clear D H S
 go_wp2_with fail
 refine(gE t.out).mono ?_
 rintro e w2 ⟨b,z,rfl,hb,E,P⟩
 rw[u.out]at P
 have n:=Lib.hid E
 have w:=B.out
 simp only[P]at w
 have k:=Lib.hid w
 clear E P w t u B
 go_wp2_with fail
 refine(mX L.out n.out (by omega) b hb).mono ?_
 rintro e V (⟨m,r,hA,rfl,hm,o,ac,ad⟩|⟨hA,rfl,o⟩)
 ·have c:=k.out
  rw[hA,Option.bind_some]at c
  have C:=Lib.hid c
  have F:=Lib.hid o
  clear c hA o k n
  go_wp2_with fail
  go_loopw [4,15] (fun ok i wr=>eE (fun _=>fj s f) (aV z,r) m r.length W0 rb mb a1 c1 s ok i wr) (fun _ i _=>m-(intOf i).toNat)
  case atStart=>exact⟨0,rfl,Nat.zero_le _, .inl ⟨z,r,rfl,rfl,F.out,Nat.le_refl _,by omega⟩⟩
  case round=>
   obtain⟨j,rfl,hj,g⟩:=hrel
   by_cases x:j<m
   ·rcases g with⟨y,A,q,rfl,a,k1,R⟩|⟨q,rfl,y,A,a⟩
    ·have G:=Lib.hid q
     have N:=Lib.hid a
     clear q a
     go_wp2_with fail
     refine(Q.out _ _ _ N.out R (by omega)).mono ?_
     rintro e X (⟨J,K,l,rfl,p,q1,q2⟩|⟨l,rfl,J,K,p⟩)
     ·have hr:=Lib.hid (show eE (fun _=>fj s f) (aV z,r) m r.length W0 rb mb a1 c1 s (.bool true) (.int .i64 ((j+1:Nat):Int)) X from⟨j+1,rfl,x, .inl ⟨J,K,by rw[dh,G.out,Option.bind_some];exact l,rfl,p,by omega,q2⟩⟩)
      clear l p
      go_wp2_with fail
      go_roundw
      case rel=>exact hr.out
      case measure=>simp[intOf];omega
     have hr:=Lib.hid (show eE (fun _=>fj s f) (aV z,r) m r.length W0 rb mb a1 c1 s (.bool false) (.int .i64 ((j+1:Nat):Int)) X from⟨j+1,rfl,x, .inr ⟨by rw[dh,G.out,Option.bind_some];exact l,rfl,J,K,p⟩⟩)
     clear l p
     go_wp2_with fail
     go_roundw
     case rel=>exact hr.out
     case measure=>simp[intOf];omega
    have hr:=Lib.hid (show eE (fun _=>fj s f) (aV z,r) m r.length W0 rb mb a1 c1 s (.bool false) (.int .i64 ((j+1:Nat):Int)) wr from⟨j+1,rfl,x, .inr ⟨by rw[dh,q];rfl,rfl,y,A,a⟩⟩)
    clear q a
    go_wp2_with fail
    go_roundw
    case rel=>exact hr.out
    case measure=>simp[intOf];omega
   have O:j=m:=by omega
   subst O
   rw[C.out]at g
   rcases g with⟨y,A,q,rfl,a,k1,R⟩|⟨q,rfl,y,A,a⟩
   ·have hr:=Lib.hid (show rdRet M W0 rb mb a1 c1 s T (.returned (.bool true)) wr from .inl ⟨y,A,q,rfl,a,by omega,R⟩)
    clear q a
    go_wp2_with fail
    go_ret
    exact hr.out
   have hr:=Lib.hid (show rdRet M W0 rb mb a1 c1 s T (.returned (.bool false)) wr from .inr ⟨q,rfl,y,A,a⟩)
   clear q a
   go_wp2_with fail
   go_ret
   exact hr.out
 have c:=k.out
 rw[hA,Option.bind_none]at c
 have hr:=Lib.hid (show rdRet M W0 rb mb a1 c1 s T (.returned (.bool false)) V from .inr ⟨c.symm,rfl,z,T,o⟩)
 clear c hA o k n
 go_wp2_with fail
 go_loopw [4,15] (fun ok i wr=>ok= .bool false∧i= .int .i64 0∧wr=V) (fun _ _ _=>0)
 case atStart=>exact⟨rfl,rfl,rfl⟩
 case round=>
  obtain⟨rfl,rfl,rfl⟩:=hrel
  go_wp2_with fail
  go_ret
  exact hr.out
end
section
variable {W0:World}{rb mb:Nat}{a1:Option Addr}{c1:Nat}{s:Sg}
theorem BF(hE:ju W0 rb mb a1 c1 s):∀(f:Nat) (W:World) (Lf:List ByteArray) (T:List Int),RdW W0 rb mb a1 c1 s W Lf T→T.length≤61→62≤f+T.length→
  Calls Tryz.prog 150 #[.pointer (some ⟨rb,0,none⟩)] W (rdRet (dG s f (aV Lf,T)) W0 rb mb a1 c1 s T):=by
 intro f
 induction f with
 |zero=>intro W Lf T _ h1 h2;omega
 |succ f ih=>
 intro W Lf T h ba bb
 have au:=Lib.hid ih
 obtain⟨M,hM⟩:∃M,dG s (f+1) (aV Lf,T)=M:=⟨_,rfl⟩
 rw[hM]
 rw[dG]at hM
 have ag:=Lib.hid hM
 have hH:=Lib.hid h
 have ad:=Lib.hid hE
 clear hM h ih hE
 go_enter Tryz.func150,Tryz.ntmps150
 go_wp2_with fail
 refine(gn hH.out).mono ?_
 rintro e w1 ⟨v,L1,rfl,aj,aq⟩
 have N:=Lib.hid aj
 have P:=Lib.hid aq
 clear aj aq hH
 go_wp2_with fail
 refine(gE N.out).mono ?_
 rintro e w2 ⟨b,Z,rfl,hb,al,hn⟩
 rw[P.out]at hn
 have z:=Lib.hid al
 have B:=ag.out
 simp only[hn]at B
 clear al hn N P ag
 by_cases t:b.data.toList=[91]
 ·have hq:=jr t
  rw[if_pos t]at B
  have n:=Lib.hid B
  clear B t
  go_wp2_with fail
  refine(gE z.out).mono ?_
  rintro e w3 ⟨b2,L3,rfl,aP,ao,hn⟩
  have U:=n.out
  simp only[hn]at U
  have F:=Lib.hid U
  have J:=Lib.hid ao
  clear U ao hn n z hq
  go_wp2_with fail
  refine(mX ad.out J.out (by omega) b2 aP).mono ?_
  rintro e w4 (⟨m,u,hA,rfl,hm,o,aR,aT⟩|⟨hA,rfl,o⟩)
  ·have c:=F.out
   rw[hA,Option.bind_some]at c
   have g:=Lib.hid c
   have r:=Lib.hid o
   clear c hA o F J
   go_wp2_with fail
   go_loopw [6,23] (fun ok i wr=>eE (fun _=>dG s f) (aV L3,u) m u.length W0 rb mb a1 c1 s ok i wr) (fun _ i _=>m-(intOf i).toNat)
   case atStart=>exact⟨0,rfl,Nat.zero_le _, .inl ⟨L3,u,rfl,rfl,r.out,Nat.le_refl _,by omega⟩⟩
   case round=>
    obtain⟨j,rfl,hj,k⟩:=hrel
    by_cases D:j<m
    ·rcases k with⟨I,E,q,rfl,a,k1,Y⟩|⟨q,rfl,I,E,a⟩
     ·have K:=Lib.hid q
      have w:=Lib.hid a
      clear q a
      go_wp2_with fail
      refine(au.out _ _ _ w.out Y (by omega)).mono ?_
      rintro e w5 (⟨R,S,l,rfl,p,q1,q2⟩|⟨l,rfl,R,S,p⟩)
      ·have hr:=Lib.hid (show eE (fun _=>dG s f) (aV L3,u) m u.length W0 rb mb a1 c1 s (.bool true) (.int .i64 ((j+1:Nat):Int)) w5 from⟨j+1,rfl,D, .inl ⟨R,S,by rw[dh,K.out,Option.bind_some];exact l,rfl,p,by omega,q2⟩⟩)
       clear l p
       go_wp2_with fail
       go_roundw
       case rel=>exact hr.out
       case measure=>simp[intOf];omega
      have hr:=Lib.hid (show eE (fun _=>dG s f) (aV L3,u) m u.length W0 rb mb a1 c1 s (.bool false) (.int .i64 ((j+1:Nat):Int)) w5 from⟨j+1,rfl,D, .inr ⟨by rw[dh,K.out,Option.bind_some];exact l,rfl,R,S,p⟩⟩)
      clear l p
      go_wp2_with fail
      go_roundw
      case rel=>exact hr.out
      case measure=>simp[intOf];omega
     have hr:=Lib.hid (show eE (fun _=>dG s f) (aV L3,u) m u.length W0 rb mb a1 c1 s (.bool false) (.int .i64 ((j+1:Nat):Int)) wr from⟨j+1,rfl,D, .inr ⟨by rw[dh,q];rfl,rfl,I,E,a⟩⟩)
     clear q a
     go_wp2_with fail
     go_roundw
     case rel=>exact hr.out
     case measure=>simp[intOf];omega
    have V:j=m:=by omega
    subst V
    rcases k with⟨I,E,q,rfl,a,k1,Y⟩|⟨q,rfl,I,E,a⟩
    ·have x:=g.out
     rw[q,Option.bind_some]at x
     unfold iU at x
     have y:=Lib.hid x
     have w:=Lib.hid a
     clear x q a g
     go_wp2_with fail
     refine(gn w.out).mono ?_
     rintro e w6 ⟨v,L6,rfl,A,H⟩
     have O:=Lib.hid A
     have Q:=Lib.hid H
     clear A H w
     go_wp2_with fail
     refine(gE O.out).mono ?_
     rintro e w7 ⟨b7,L7,rfl,bl,L,X⟩
     rw[Q.out]at X
     have C:=y.out
     simp only[X]at C
     clear X O Q y
     by_cases G:b7.data.toList=[93]
     ·have hq:=jr G
      rw[if_pos G]at C
      have hr:=Lib.hid (show rdRet M W0 rb mb a1 c1 s T (.returned (.bool true)) w7 from .inl ⟨L7,E,C.symm,rfl,L,by omega,Y⟩)
      clear C G L
      go_wp2_with fail
      go_ret
      exact hr.out
     have hq:=iI G
     rw[if_neg G]at C
     have hr:=Lib.hid (show rdRet M W0 rb mb a1 c1 s T (.returned (.bool false)) w7 from .inr ⟨C.symm,rfl,L7,E,L⟩)
     clear C G L
     go_wp2_with fail
     go_ret
     exact hr.out
    have x:=g.out
    rw[q,Option.bind_none]at x
    have y:=Lib.hid x
    have w:=Lib.hid a
    clear x q a g
    go_wp2_with fail
    refine(gn w.out).mono ?_
    rintro e w6 ⟨v,L6,rfl,A,H⟩
    have hr:=Lib.hid (show rdRet M W0 rb mb a1 c1 s T (.returned (.bool false)) w6 from .inr ⟨y.out.symm,rfl,L6,E,A⟩)
    clear A H w y
    go_wp2_with fail
    go_ret
    exact hr.out
  have c:=F.out
  rw[hA,Option.bind_none]at c
  have g:=Lib.hid c
  have r:=Lib.hid o
  clear c hA o F J
  go_wp2_with fail
  go_loopw [6,23] (fun ok i wr=>ok= .bool false∧i= .int .i64 0∧wr=w4) (fun _ _ _=>0)
  case atStart=>exact⟨rfl,rfl,rfl⟩
  case round=>
   obtain⟨rfl,rfl,rfl⟩:=hrel
   go_wp2_with fail
   refine(gn r.out).mono ?_
   rintro e w6 ⟨v,L6,rfl,A,H⟩
   have hr:=Lib.hid (show rdRet M W0 rb mb a1 c1 s T (.returned (.bool false)) w6 from .inr ⟨g.out.symm,rfl,L6,T,A⟩)
   clear A H r g
   go_wp2_with fail
   go_ret
   exact hr.out
 have hq:=iI t
 rw[if_neg t]at B
 have n:=Lib.hid B
 clear B t
 go_wp2_with fail
 refine(mX ad.out z.out (by omega) b hb).mono ?_
 rintro e w4 (⟨m,u,hA,rfl,hm,o,aR,aT⟩|⟨hA,rfl,o⟩)
 ·have c:=n.out
  rw[hA,Option.bind_some]at c
  have g:=Lib.hid c
  have r:=Lib.hid o
  clear c hA o n z
  go_wp2_with fail
  go_loopw [6,23] (fun ok i wr=>eE (fun _=>dG s f) (aV Z,u) m u.length W0 rb mb a1 c1 s ok i wr) (fun _ i _=>m-(intOf i).toNat)
  case atStart=>exact⟨0,rfl,Nat.zero_le _, .inl ⟨Z,u,rfl,rfl,r.out,Nat.le_refl _,by omega⟩⟩
  case round=>
   obtain⟨j,rfl,hj,k⟩:=hrel
   by_cases D:j<m
   ·rcases k with⟨I,E,q,rfl,a,k1,Y⟩|⟨q,rfl,I,E,a⟩
    ·have K:=Lib.hid q
     have w:=Lib.hid a
     clear q a
     go_wp2_with fail
     refine(au.out _ _ _ w.out Y (by omega)).mono ?_
     rintro e w5 (⟨R,S,l,rfl,p,q1,q2⟩|⟨l,rfl,R,S,p⟩)
     ·have hr:=Lib.hid (show eE (fun _=>dG s f) (aV Z,u) m u.length W0 rb mb a1 c1 s (.bool true) (.int .i64 ((j+1:Nat):Int)) w5 from⟨j+1,rfl,D, .inl ⟨R,S,by rw[dh,K.out,Option.bind_some];exact l,rfl,p,by omega,q2⟩⟩)
      clear l p
      go_wp2_with fail
      go_roundw
      case rel=>exact hr.out
      case measure=>simp[intOf];omega
     have hr:=Lib.hid (show eE (fun _=>dG s f) (aV Z,u) m u.length W0 rb mb a1 c1 s (.bool false) (.int .i64 ((j+1:Nat):Int)) w5 from⟨j+1,rfl,D, .inr ⟨by rw[dh,K.out,Option.bind_some];exact l,rfl,R,S,p⟩⟩)
     clear l p
     go_wp2_with fail
     go_roundw
     case rel=>exact hr.out
     case measure=>simp[intOf];omega
    have hr:=Lib.hid (show eE (fun _=>dG s f) (aV Z,u) m u.length W0 rb mb a1 c1 s (.bool false) (.int .i64 ((j+1:Nat):Int)) wr from⟨j+1,rfl,D, .inr ⟨by rw[dh,q];rfl,rfl,I,E,a⟩⟩)
    clear q a
    go_wp2_with fail
    go_roundw
    case rel=>exact hr.out
    case measure=>simp[intOf];omega
   have V:j=m:=by omega
   subst V
   rw[g.out]at k
   rcases k with⟨I,E,q,rfl,a,k1,Y⟩|⟨q,rfl,I,E,a⟩
   ·have hr:=Lib.hid (show rdRet M W0 rb mb a1 c1 s T (.returned (.bool true)) wr from .inl ⟨I,E,q,rfl,a,by omega,Y⟩)
    clear q a
    go_wp2_with fail
    go_ret
    exact hr.out
   have hr:=Lib.hid (show rdRet M W0 rb mb a1 c1 s T (.returned (.bool false)) wr from .inr ⟨q,rfl,I,E,a⟩)
   clear q a
   go_wp2_with fail
   go_ret
   exact hr.out
 have c:=n.out
 rw[hA,Option.bind_none]at c
 have hr:=Lib.hid (show rdRet M W0 rb mb a1 c1 s T (.returned (.bool false)) w4 from .inr ⟨c.symm,rfl,Z,T,o⟩)
 clear c hA o n z
 go_wp2_with fail
 go_loopw [6,23] (fun ok i wr=>ok= .bool false∧i= .int .i64 0∧wr=w4) (fun _ _ _=>0)
 case atStart=>exact⟨rfl,rfl,rfl⟩
 case round=>
  obtain⟨rfl,rfl,rfl⟩:=hrel
  go_wp2_with fail
  go_ret
  exact hr.out
end
section
variable {W0:World}{rb mb:Nat}{a1:Option Addr}{c1:Nat}{s:Sg}
def Gm(M:Option RdX)(W0:World)(rb mb:Nat)(a1:Option Addr)(c1:Nat)(s:Sg)(T:List Int)(e:Ending)(w':World):Prop:=
 ∃(z:Bool) (L':List ByteArray) (T':List Int),e= .returned (.bool z)∧RdW W0 rb mb a1 c1 s w' L' T'∧(z=true→M=some (aV L',T')∧T.length≤T'.length∧T'.length≤61)∧(z=false→M=none)
theorem rdRet.z{M:Option RdX}{T:List Int}{e:Ending}{w':World}(h:rdRet M W0 rb mb a1 c1 s T e w'):Gm M W0 rb mb a1 c1 s T e w':=by
 rcases h with⟨a,b,c,f,g,i,j⟩|⟨c,f,a,b,g⟩
 ·exact⟨true,a,b,f,g,fun _=>⟨c,i,j⟩,fun h=>by cases h⟩
 exact⟨false,a,b,f,g,fun h=>(by cases h),fun _=>c⟩
theorem rdRet.of{M:Option RdX}{T:List Int}{z:Bool}{L':List ByteArray}{T':List Int}{w':World}(h3:RdW W0 rb mb a1 c1 s w' L' T')(h1:z=true→M=some (aV L',T')∧T.length≤T'.length∧T'.length≤61)(h2:z=false→M=none):rdRet M W0 rb mb a1 c1 s T (.returned (.bool z)) w':=by
 cases z with
 |true=>exact .inl ⟨L',T',(h1 rfl).1,rfl,h3,(h1 rfl).2.1,(h1 rfl).2.2⟩
 |false=>exact .inr ⟨h2 rfl,rfl,L',T',h3⟩
theorem Fp{W:World}{T:List Int}(h:RdW W0 rb mb a1 c1 s W [] T):
  Calls Tryz.prog 190 #[.pointer (some ⟨rb,0,none⟩)] W fun e w'=>e= .returned (.string ByteArray.empty)∧RdW W0 rb mb a1 c1 s w' [] T:=
 (gE h).mono fun e w' ⟨b,a,l,_,k,f⟩=>by
  have g:b.data.toList=[]:=(congrArg Prod.fst f).symm
  have c:aV a=[]:=(congrArg Prod.snd f).symm
  have i:a=[]:=by unfold aV at c;simpa using c
  subst i
  have j:b=ByteArray.empty:=gO (by rw[g];rfl)
  subst j
  exact⟨l,k⟩
theorem tL:∀{a b:List ByteArray},aV a=aV b→a=b
 | [],[],_=>rfl
 | [],_::_,h=>by simp[aV]at h
 |_::_,[],h=>by simp[aV]at h
 |x::a,y::b,h=>by
  unfold aV at h
  rw[List.map_cons,List.map_cons]at h
  obtain⟨h1,h2⟩:=List.cons.inj h
  rw[gO h1,tL h2]
theorem Fo{W:World}{x:ByteArray}{L:List ByteArray}{T:List Int}(h:RdW W0 rb mb a1 c1 s W (x::L) T):
  Calls Tryz.prog 190 #[.pointer (some ⟨rb,0,none⟩)] W fun e w'=>e= .returned (.string x)∧RdW W0 rb mb a1 c1 s w' L T:=
 (gE h).mono fun e w' ⟨b,c,j,_,i,a⟩=>by
  have f:x.data.toList=b.data.toList:=congrArg Prod.fst a
  have g:aV L=aV c:=congrArg Prod.snd a
  rw[gO f,tL g]
  exact⟨j,i⟩
theorem Hl(W:World):(Instr.index 9 (.string ⟨#[40,44,44]⟩) (.int .i64 0)).run Tryz.prog W= .ok (.int .u8 40) W:=by kernel_rfl
theorem Hm(W:World):(Instr.index 9 (.string ⟨#[40,44,44]⟩) (.int .i64 1)).run Tryz.prog W= .ok (.int .u8 44) W:=by kernel_rfl
theorem Hn(W:World):(Instr.index 9 (.string ⟨#[40,44,44]⟩) (.int .i64 2)).run Tryz.prog W= .ok (.int .u8 44) W:=by kernel_rfl
theorem Hk(j:Nat)(hj:j<3)(W:World):(Instr.index 9 (.string ⟨#[40,44,44]⟩) (.int .i64 (j:Int))).run Tryz.prog W= .ok (.int .u8 ((iD j).toNat:Int)) W:=
 match j,hj with
 |0,_=>Hl W
 |1,_=>Hm W
 |2,_=>Hn W
theorem Hj(j:Nat):Utf8.encode (((iD j).toNat:Nat):Int)=⟨#[iD j]⟩:=by
 refine qb _ ?_
 unfold iD
 split<;>decide
theorem Bh(hE:ju W0 rb mb a1 c1 s):∀(f:Nat) (W:World) (Lf:List ByteArray) (T:List Int),RdW W0 rb mb a1 c1 s W Lf T→T.length≤61→62≤f+T.length→
  Calls Tryz.prog 148 #[.pointer (some ⟨rb,0,none⟩)] W (rdRet (da s f (aV Lf,T)) W0 rb mb a1 c1 s T):=by
 intro f
 induction f with
 |zero=>intro W Lf T _ h1 h2;omega
 |succ f ih=>
 intro W Lf T h cJ cL
 have bv:=Lib.hid ih
 obtain⟨M,hM⟩:∃M,da s (f+1) (aV Lf,T)=M:=⟨_,rfl⟩
 rw[hM]
 rw[da]at hM
 have bP:=Lib.hid hM
 have hH:=Lib.hid h
 have ch:=Lib.hid hE
 clear hM h ih hE
 go_enter Tryz.func148,Tryz.ntmps148
 go_wp2_with fail
 refine(gn hH.out).mono ?_
 rintro e w1 ⟨v,L1,rfl,bS,b2⟩
 have a5:=Lib.hid bS
 have bf:=Lib.hid b2
 clear bS b2 hH
 go_wp2_with fail
 refine(gE a5.out).mono ?_
 rintro e w2 ⟨b,L2,rfl,hb,ay,hn⟩
 rw[bf.out]at hn
 have I:=bP.out
 simp only[hn]at I
 clear hn a5 bf bP
 by_cases C:b.data.toList=[40]
 ·have hq:=jr C
  rw[if_pos C]at I
  obtain⟨aT,cT,aN,cN,w',e3,ax,r3,rf,aL⟩:=ay.push (by omega) 0 (by unfold aE;decide)
  have L:=Lib.hid I
  clear I C ay
  by_cases bN:60<T.length+1
  ·have J:=L.out
   rw[if_pos bN]at J
   have hr:=Lib.hid (show rdRet M W0 rb mb a1 c1 s T (.returned (.bool false)) _ from .inr ⟨J.symm,rfl,_,_,aL.out⟩)
   clear J L aL
   go_wp2_with (at_builtin;refine bo rfl _ _ _ rfl rfl rfl ax.out ?_)
   go_ret
   exact hr.out
  have J:=L.out
  rw[if_neg bN]at J
  have N:=Lib.hid J
  clear J L
  go_wp2_with (at_builtin;refine bo rfl _ _ _ rfl rfl rfl ax.out ?_)
  refine(bv.out _ _ _ aL.out (by simp;omega) (by simp;omega)).mono ?_
  clear aL ax r3 rf e3
  rintro e w4 (⟨L4,T4,r,rfl,u,q1,q2⟩|⟨r,rfl,L4,T4,u⟩)
  ·have F:=N.out
   rw[r,Option.bind_some]at F
   unfold pF at F
   rw[List.length_append,List.length_singleton]at q1
   have a2:=Lib.hid F
   have R:=Lib.hid u
   clear F r u N
   go_wp2_with fail
   refine(gn R.out).mono ?_
   rintro e w5 ⟨v,S,rfl,D,K⟩
   have a9:=Lib.hid D
   have bl:=Lib.hid K
   clear D K R
   go_wp2_with fail
   refine(gE a9.out).mono ?_
   rintro e w6 ⟨b6,L6,rfl,cP,a,bt⟩
   rw[bl.out]at bt
   have g:=a2.out
   simp only[bt]at g
   clear bt a9 bl a2
   by_cases U:b6.data.toList=[45]
   ·have cq:=jr U
    rw[if_pos U]at g
    have a3:=Lib.hid g
    have y:=Lib.hid a
    clear g U a
    go_wp2_with fail
    refine(gE y.out).mono ?_
    rintro e w7 ⟨b7,L7,rfl,ci,p,Y⟩
    have n:=a3.out
    simp only[Y]at n
    clear Y y a3
    by_cases V:b7.data.toList=[62]
    ·have cr:=jr V
     rw[if_pos V]at n
     have O:=Lib.hid n
     have al:=Lib.hid p
     clear n V p
     go_wp2_with fail
     refine(bv.out _ _ _ al.out q2 (by omega)).mono ?_
     rintro e w8 (⟨L8,T8,ag,rfl,ao,p1,p2⟩|⟨ag,rfl,L8,T8,ao⟩)
     ·have G:=O.out
      rw[ag,Option.bind_some]at G
      unfold iU at G
      have a4:=Lib.hid G
      have ba:=Lib.hid ao
      clear G ag ao O al
      go_wp2_with fail
      refine(gn ba.out).mono ?_
      rintro e w9 ⟨v,L9,rfl,bU,b3⟩
      have bb:=Lib.hid bU
      have bn:=Lib.hid b3
      clear bU b3 ba
      go_wp2_with fail
      refine(gE bb.out).mono ?_
      rintro e b4 ⟨cf,bA,rfl,cy,Q,au⟩
      rw[bn.out]at au
      have t:=a4.out
      simp only[au]at t
      clear au bb bn a4
      by_cases q:cf.data.toList=[41]
      ·have b0:=jr q
       rw[if_pos q]at t
       have hr:=Lib.hid (show rdRet M W0 rb mb a1 c1 s T (.returned (.bool true)) b4 from .inl ⟨bA,T8,t.symm,rfl,Q,by omega,p2⟩)
       clear t q Q
       go_wp2_with fail
       go_ret
       exact hr.out
      have b0:=iI q
      rw[if_neg q]at t
      have hr:=Lib.hid (show rdRet M W0 rb mb a1 c1 s T (.returned (.bool false)) b4 from .inr ⟨t.symm,rfl,bA,T8,Q⟩)
      clear t q Q
      go_wp2_with fail
      go_ret
      exact hr.out
     have G:=O.out
     rw[ag,Option.bind_none]at G
     have hr:=Lib.hid (show rdRet M W0 rb mb a1 c1 s T (.returned (.bool false)) w8 from .inr ⟨G.symm,rfl,L8,T8,ao⟩)
     clear G ag ao O al
     go_wp2_with fail
     go_ret
     exact hr.out
    have cr:=iI V
    rw[if_neg V,Option.bind_none]at n
    have hr:=Lib.hid (show rdRet M W0 rb mb a1 c1 s T (.returned (.bool false)) w7 from .inr ⟨n.symm,rfl,L7,T4,p⟩)
    clear n V p
    go_wp2_with fail
    go_ret
    exact hr.out
   have cq:=iI U
   rw[if_neg U,Option.bind_none]at g
   have hr:=Lib.hid (show rdRet M W0 rb mb a1 c1 s T (.returned (.bool false)) w6 from .inr ⟨g.symm,rfl,L6,T4,a⟩)
   clear g U a
   go_wp2_with fail
   go_ret
   exact hr.out
  have F:=N.out
  rw[r,Option.bind_none]at F
  have hr:=Lib.hid (show rdRet M W0 rb mb a1 c1 s T (.returned (.bool false)) w4 from .inr ⟨F.symm,rfl,L4,T4,u⟩)
  clear F r u N
  go_wp2_with fail
  go_ret
  exact hr.out
 have hq:=iI C
 rw[if_neg C]at I
 have P:=Lib.hid I
 have aj:=Lib.hid ay
 clear I C ay
 go_wp2_with fail
 refine(mX ch.out aj.out (by omega) b hb).mono ?_
 rintro e w4 (⟨m,T1,hA,rfl,hm,u,cU,cW⟩|⟨hA,rfl,u⟩)
 ·have r:=P.out
  rw[hA,Option.bind_some]at r
  have B:=Lib.hid r
  have R:=Lib.hid u
  clear r hA u P aj
  go_wp2_with fail
  go_loopw [5,60] (fun ok i wr=>eE (gv (da s f)) (aV L2,T1) m T1.length W0 rb mb a1 c1 s ok i wr) (fun _ i _=>m-(intOf i).toNat)
  case atStart=>exact⟨0,rfl,Nat.zero_le _, .inl ⟨L2,T1,rfl,rfl,R.out,Nat.le_refl _,by omega⟩⟩
  case round=>
   obtain⟨j,rfl,hj,av⟩:=hrel
   by_cases aO:j<m
   ·rcases av with⟨L',E,X,rfl,o,k1,k2⟩|⟨X,rfl,L',E,o⟩
    ·have aq:=Lib.hid X
     have A:=Lib.hid o
     clear X o
     go_wp2_with fail
     refine(gn A.out).mono ?_
     rintro e w5 ⟨v,S,rfl,D,K⟩
     have cl:=fun W=>Hk j (by omega) W
     have bW:=Hj j
     have k:dh (gv (da s f)) (j+1) (aV L2,T1)=if(bQ (aV S)).1=[iD j]then da s f ((bQ (aV S)).2,E)else none:=by
      rw[dh,aq.out,Option.bind_some]
      unfold gv
      simp only[K]
     obtain⟨c,hc⟩:∃c,iD j=c:=⟨_,rfl⟩
     rw[hc]at bW k
     simp only[hc]at cl
     clear K A aq hc
     have w:=D.later (Below.drew (.refl _ _))
     cases S with
     |nil=>
      have b1:(ByteArray.empty.toList==([c]:List UInt8))=false:=iI (fun e=>by cases e)
      have aP:=Lib.hid (Fp w)
      have l:=Lib.hid k
      clear k
      have hr:=Lib.hid (fun w' (a:RdW W0 rb mb a1 c1 s w' [] E)=>show eE (gv (da s f)) (aV L2,T1) m T1.length W0 rb mb a1 c1 s (.bool false) (.int .i64 ((j:Int)+1)) w' from⟨j+1,rfl,aO, .inr ⟨by rw[l.out];rfl,rfl,[],E,a⟩⟩)
      clear D w
      go_wp2_with fail
      first|go_region_with (first|(go_at_call 190;(with_reducible refine aP.out.mono ?_);rintro e w6 ⟨rfl,a⟩;have bu:=Lib.hid (hr.out _ a);clear a))|fail "region"
      all_goals(go_wp2_with fail;go_roundw;(case rel=>exact bu.out);(case measure=>simp[intOf];omega))
     |cons x S=>
      have aP:=Lib.hid (Fo w)
      clear D w
      by_cases Z:x.data.toList=[c]
      ·have b1:=jr Z
       rw[show(bQ (aV (x::S))).1=[c]from Z,if_pos rfl]at k
       have l:=Lib.hid k
       clear k
       have hr:=Lib.hid (fun z L7 T7 w' (p:RdW W0 rb mb a1 c1 s w' L7 T7) (ab:z=true→da s f (aV S,E)=some (aV L7,T7)∧E.length≤T7.length∧T7.length≤61) (aU:z=false→da s f (aV S,E)=none)=>show eE (gv (da s f)) (aV L2,T1) m T1.length W0 rb mb a1 c1 s (.bool z) (.int .i64 ((j:Int)+1)) w' from⟨j+1,rfl,aO,by
        cases z with
        |true=>exact .inl ⟨L7,T7,l.out.trans (ab rfl).1,rfl,p,by have:=(ab rfl).2.1;omega,(ab rfl).2.2⟩
        |false=>exact .inr ⟨l.out.trans (aU rfl),rfl,L7,T7,p⟩⟩)
       clear Z
       go_wp2_with fail
       first|go_region_with (first|(go_at_call 190;(with_reducible refine aP.out.mono ?_);rintro e w6 ⟨rfl,a⟩;have y:=Lib.hid a;clear a)|(go_at_call 148;(with_reducible refine((bv.out _ _ _ y.out k2 (by omega)).mono fun _ _ h=>rdRet.z h).mono ?_);rintro e w7 ⟨z,L7,T7,rfl,p,ab,aU⟩;have cs:=Lib.hid (hr.out z L7 T7 _ p ab aU);clear p ab aU))|fail "region"
       all_goals(go_wp2_with fail;go_roundw;(case rel=>exact cs.out);(case measure=>simp[intOf];omega))
      have b1:=iI Z
      rw[if_neg (show¬(bQ (aV (x::S))).1=[c]from Z)]at k
      have l:=Lib.hid k
      clear k
      have hr:=Lib.hid (fun w' (a:RdW W0 rb mb a1 c1 s w' S E)=>show eE (gv (da s f)) (aV L2,T1) m T1.length W0 rb mb a1 c1 s (.bool false) (.int .i64 ((j:Int)+1)) w' from⟨j+1,rfl,aO, .inr ⟨l.out,rfl,S,E,a⟩⟩)
      clear Z
      go_wp2_with fail
      first|go_region_with (first|(go_at_call 190;(with_reducible refine aP.out.mono ?_);rintro e w6 ⟨rfl,a⟩;have bu:=Lib.hid (hr.out _ a);clear a))|fail "region"
      all_goals(go_wp2_with fail;go_roundw;(case rel=>exact bu.out);(case measure=>simp[intOf];omega))
    have aq:=Lib.hid X
    have A:=Lib.hid o
    clear X o
    go_wp2_with fail
    refine(gn A.out).mono ?_
    rintro e w5 ⟨v,S,rfl,D,K⟩
    have w:=D.later (Below.drew (.refl _ _))
    have hr:=Lib.hid (show eE (gv (da s f)) (aV L2,T1) m T1.length W0 rb mb a1 c1 s (.bool false) (.int .i64 ((j:Int)+1)) w5.drew from⟨j+1,rfl,aO, .inr ⟨by rw[dh,aq.out];rfl,rfl,S,E,w⟩⟩)
    clear D w K A aq
    go_wp2_with fail
    first|go_region_with (fail)|fail "region"
    all_goals(go_wp2_with fail;go_roundw;(case rel=>exact hr.out);(case measure=>simp[intOf];omega))
   have cm:j=m:=by omega
   subst cm
   rcases av with⟨L',E,X,rfl,o,k1,k2⟩|⟨X,rfl,L',E,o⟩
   ·have g:=B.out
    rw[X,Option.bind_some]at g
    by_cases bq:0<j
    ·rw[if_pos bq]at g
     unfold iU at g
     have H:=Lib.hid g
     have A:=Lib.hid o
     clear g X o B
     go_wp2_with fail
     refine(gn A.out).mono ?_
     rintro e w6 ⟨v,L6,rfl,a,aR⟩
     have y:=Lib.hid a
     have bm:=Lib.hid aR
     clear a aR A
     go_wp2_with fail
     refine(gE y.out).mono ?_
     rintro e w7 ⟨b7,L7,rfl,ci,p,Y⟩
     rw[bm.out]at Y
     have n:=H.out
     simp only[Y]at n
     clear Y y bm H
     by_cases q:b7.data.toList=[41]
     ·have hq:=jr q
      rw[if_pos q]at n
      have hr:=Lib.hid (show rdRet M W0 rb mb a1 c1 s T (.returned (.bool true)) w7 from .inl ⟨L7,E,n.symm,rfl,p,by omega,k2⟩)
      clear n q p
      go_wp2_with fail
      go_ret
      exact hr.out
     have hq:=iI q
     rw[if_neg q]at n
     have hr:=Lib.hid (show rdRet M W0 rb mb a1 c1 s T (.returned (.bool false)) w7 from .inr ⟨n.symm,rfl,L7,E,p⟩)
     clear n q p
     go_wp2_with fail
     go_ret
     exact hr.out
    rw[if_neg bq]at g
    have bp:j=0:=by omega
    have hr:=Lib.hid (show rdRet M W0 rb mb a1 c1 s T (.returned (.bool true)) wr from .inl ⟨L',E,g.symm,rfl,o,by omega,k2⟩)
    clear g X o B
    subst bp
    go_wp2_with fail
    go_ret
    exact hr.out
   have g:=B.out
   rw[X,Option.bind_none]at g
   by_cases bq:0<j
   ·have H:=Lib.hid g
    have A:=Lib.hid o
    clear g X o B
    go_wp2_with fail
    refine(gn A.out).mono ?_
    rintro e w6 ⟨v,L6,rfl,a,aR⟩
    have hr:=Lib.hid (show rdRet M W0 rb mb a1 c1 s T (.returned (.bool false)) w6 from .inr ⟨H.out.symm,rfl,L6,E,a⟩)
    clear a aR A H
    go_wp2_with fail
    go_ret
    exact hr.out
   have bp:j=0:=by omega
   have hr:=Lib.hid (show rdRet M W0 rb mb a1 c1 s T (.returned (.bool false)) wr from .inr ⟨g.symm,rfl,L',E,o⟩)
   clear g X o B
   subst bp
   go_wp2_with fail
   go_ret
   exact hr.out
 have r:=P.out
 rw[hA,Option.bind_none]at r
 have hr:=Lib.hid (show rdRet M W0 rb mb a1 c1 s T (.returned (.bool false)) w4 from .inr ⟨r.symm,rfl,L2,T,u⟩)
 clear r hA u P aj
 go_wp2_with fail
 go_loopw [5,60] (fun ok i wr=>ok= .bool false∧i= .int .i64 0∧wr=w4) (fun _ _ _=>0)
 case atStart=>exact⟨rfl,rfl,rfl⟩
 case round=>
  obtain⟨rfl,rfl,rfl⟩:=hrel
  go_wp2_with fail
  go_ret
  exact hr.out
end
end Go.Proofs.YtlejmeegkpdabaaGreatDoor
