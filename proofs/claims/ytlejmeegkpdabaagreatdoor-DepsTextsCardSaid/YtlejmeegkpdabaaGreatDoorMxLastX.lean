/- The card of DepsTexts: for every input DepsTexts returns true and leaves its arguments as they were; the listed variables are tied to the program's text. No condition. -/
import Derived.Test.YtlejmeegkpdabaaGreatDoorMxLastX1
import Derived.Test.YtlejmeegkpdabaaGreatDoorMxK
import Derived.Lay
import Derived.Test.YtlejmeegkpdabaaGreatDoorCards
import Derived.Test.YtlejmeegkpdabaaGreatDoorTie
set_option maxHeartbeats 8000000
set_option maxRecDepth 100000
namespace Go.Proofs.YtlejmeegkpdabaaGreatDoor
open Go Go.RowKit Go.Maps Go.ChangeShapes Go.WideShapes Go.ChangeAt
theorem uB{s:Sg}{x:Ent}(h:cE s x=true):fZ s x=(aZ s x++[10])++ei (ai x):=by
 rw[g8,Bool.and_eq_true,Bool.or_eq_true,Bool.and_eq_true,decide_eq_true_eq,decide_eq_true_eq]at h
 unfold fZ
 have hf:ei (ai x)=(ai x).flatMap bD:=by
  rcases h.2 with e|e
  ·rw[e.2];rfl
  obtain⟨-,a,b,c,f⟩:=jm e
  unfold ei dE
  rw[l7 a f,decide_eq_true b,decide_eq_true c];rfl
 rw[hf,List.append_assoc];rfl
theorem uL{s:Sg}{l:List Ent}{k:Nat}(hk:k<l.length):bV s (l.take (k+1))=bV s (l.take k)++fZ s l[k]:=by
 rw[List.take_succ_eq_append_getElem hk,lr,lu]
theorem uK{s:Sg}{l:List Ent}(h:bz s l=true)(k:Nat):(bV s (l.take k)).length≤156000:=by
 have a:=jj h
 have:=uJ (s:=s) (l:=l.take k) (fun x hx=>a.2.2.1 x (List.mem_of_mem_take hx))
 have b:(l.take k).length≤60:=by rw[List.length_take];have:=a.2.1;omega
 omega
def GR(s:Sg)(l:List Ent)(w:World)(sv i:Value)(wr:World):Prop:=∃k:Nat,i= .int .i64 k∧k≤l.length∧sv= .string (ah (bV s (l.take k)))∧Below w.heap.size w wr
theorem F7{S1 S2:Nat→Prop}(sa la:Option Addr)(sc lc:Nat)(s:Sg)(l:List Ent)(w:World)(h1:Sign S1 w sa sc s)(h2:LibL S2 w la lc l):
  Calls Tryz.prog 9 #[.slice sa s.length sc, .slice la l.length lc] w fun e w'=>e= .returned (.string (ah (dW s l)))∧Below w.heap.size w w':=by
 have m:=h2.le
 have m1:=h1.le
 have vs:=x8 sa la sc lc s l w h1 h2
 have aO:=Lib.hid h1
 have L:=Lib.hid h2
 clear h1 h2
 cases hs:bz s l with
 |false=>
  rw[hs]at vs
  have I:=Lib.hid vs
  have hf:=Lib.hid (show ah (dW s l)=⟨#[]⟩by unfold dW;rw[if_neg (by simp[hs])];rfl)
  clear vs hs
  go_enter Tryz.func9,Tryz.ntmps9
  go_wp2_with fail
  refine I.out.mono ?_
  rintro e w1 ⟨rfl,y⟩
  have hB:=Lib.hid y
  clear y
  go_wp2_with fail
  go_ret
  exact⟨congrArg (fun b=>Ending.returned (.string b)) hf.out.symm,hB.out⟩
 |true=>
 rw[hs]at vs
 have I:=Lib.hid vs
 have U:=Lib.hid hs
 have hF:=Lib.hid (show dW s l=bV s l by unfold dW;rw[if_pos hs])
 clear vs hs
 go_enter Tryz.func9,Tryz.ntmps9
 go_wp2_with fail
 refine I.out.mono ?_
 rintro e w1 ⟨rfl,y⟩
 have hB:=Lib.hid y
 clear y
 go_wp2_with fail
 go_loopw [5,6] (fun sv i wr=>GR s l w sv i wr) (fun _ i _=>l.length-(intOf i).toNat)
 case atStart=>exact⟨0,rfl,Nat.zero_le _,rfl,hB.out⟩
 case round=>
  obtain⟨k,rfl,hk,rfl,g⟩:=hrel
  by_cases r:k<l.length
  ·obtain⟨b,ca,a1,c1,a2,c2,J,K,rfl,-,p0,p1,p2,p3,p4,z1,z2,hI,hU,hP⟩:=(L.out.below g).ent k r
   have M:=jj U.out
   have f:=M.2.2.1 l[k] (List.getElem_mem r)
   have j:=ji (show b9 s l[k]=true by rw[g8,Bool.and_eq_true]at f;exact f.1)
   have T:=L.out.cap
   have b2:(k:Int)≤(lc:Int):=by omega
   have bq:¬lc=0:=by omega
   have b3:(k:Int)<(l.length:Int):=by omega
   have b1:(0:Int)≤(k:Int):=by omega
   have a4:=(jM j.1).2
   have a5:=(jM j.2.1).2
   have vl:=yu sa sc s l[k] a1 a2 J (ai l[k]).length c1 c2 K wr (aO.out.below g) (by omega) (by omega) j.2.2.2.1 hI hU (fun u hu=>by have:=(jM (j.2.2.2.2.2.2 u hu)).2;omega) (by have:=j.2.2.2.2.1;omega)
   have va:=fun W=>Gj a1 a2 J c1 c2 K (az l[k]).length (ae l[k]).length (af l[k]) (aC l[k]) (ai l[k]).length W
   have vf:=fun W (y:Below wr.heap.size wr W)=>F8 J K (ai l[k]) W (hP.below y)
   have b4:=hP.le
   have hL:=qC (s:=s) (x:=l[k]) (by rw[g8,Bool.and_eq_true]at f;exact f.1)
   have hE:=uB f
   have aT:=qd f
   have hT:=uL (s:=s) r
   have bb:=uK U.out k
   have V:=cX (bV s (l.take k))
   have F:=cX (aZ s l[k]++[10])
   have ab:=cX (ei (ai l[k]))
   rw[List.length_append,List.length_singleton]at F
   have E:=congrArg List.length hE
   rw[List.length_append,List.length_append,List.length_singleton]at E
   have hR:(ah (bV s (l.take k))++ah (aZ s l[k]++[10]))++ah (ei (ai l[k]))=ah (bV s (l.take (k+1))):=by
    rw[dl,dl,hT,hE,List.append_assoc]
   have N:ai l[k]=[]→ah (bV s (l.take k))++ah (aZ s l[k]++[10])=ah (bV s (l.take (k+1))):=fun h=>by
    rw[dl,hT,hE,h]
    show _=ah (bV s (l.take k)++((aZ s l[k]++[10])++[]))
    rw[List.append_nil]
   have ba:(ai l[k]).length=0→ai l[k]=[]:=List.length_eq_zero_iff.1
   have A:=Lib.hid vl
   have z:=Lib.hid va
   have G:=Lib.hid vf
   have C:=Lib.hid g
   have O:=Lib.hid hR
   have D:=Lib.hid N
   clear vl va vf hI hU hP M f j hE hT hR N T a4 a5 g z1 z2
   obtain⟨B,n⟩:∃B,ah (bV s (l.take k))=B:=⟨_,rfl⟩
   obtain⟨X,o⟩:∃X,ah (aZ s l[k]++[10])=X:=⟨_,rfl⟩
   obtain⟨Y,t⟩:∃Y,ah (ei (ai l[k]))=Y:=⟨_,rfl⟩
   obtain⟨Z,v⟩:∃Z,ah (bV s (l.take (k+1)))=Z:=⟨_,rfl⟩
   rw[n,o,t,v]at O
   rw[n,o,v]at D
   have H:=A.out
   rw[o]at H
   have A:=Lib.hid H
   have ac:∀W,Below wr.heap.size wr W→Calls Tryz.prog 34 #[.slice J (ai l[k]).length K] W fun e w'=>e= .returned (.string Y)∧Below W.heap.size W w':=fun W y=>by
    have:=G.out W y
    rw[←t];exact this
   have G:=Lib.hid ac
   have P:=Lib.hid v
   rw[n]at V
   rw[o]at F
   rw[t]at ab
   rw[n]
   have s1:(9223372036854775807<B.size+X.size)=False:=eq_false (by omega)
   have s2:(9223372036854775807<B.size+X.size+Y.size)=False:=eq_false (by omega)
   clear H ac n o t v V F ab E aT bb hL
   generalize af l[k]=nm at*
   generalize aC l[k]=bn at*
   generalize (az l[k]).length=n1 at*
   generalize (ae l[k]).length=n2 at*
   generalize b5:(ai l[k]).length=n3 at*
   cases n3 with
   |zero=>
    have e0:=ba rfl
    go_wp2_with fail
    refine A.out.mono ?_
    rintro e w2 ⟨rfl,a⟩
    have p:=Lib.hid (aa C.out a)
    have r0:=cell_later a p0
    have r1:=cell_later a p1
    have r2:=cell_later a p2
    have r3:=cell_later a p3
    have r4:=cell_later a p4
    clear a p0 p1 p2 p3 p4
    go_wp2_with fail
    refine(z.out _).mono ?_
    rintro e w3 ⟨rfl,c⟩
    have q:=Lib.hid (aa p.out c)
    clear c
    go_wp2_with fail
    go_roundw
    case rel=>exact⟨k+1,by go_num,r,congrArg Value.string ((D.out e0).trans P.out.symm),q.out⟩
    case measure=>simp[intOf];omega
   |succ n3=>
    have a9:(((n3+1:Nat):Int)==0)=false:=by rw[beq_eq_false_iff_ne];omega
    have z:=Lib.hid (fun W=>(by have:=z.out W;rw[a9]at this;exact this:Calls Tryz.prog 33 #[entV nm bn n1 n2 (n3+1) a1 a2 J c1 c2 K] W fun e w'=>e= .returned (.bool false)∧Below W.heap.size W w'))
    go_wp2_with fail
    refine A.out.mono ?_
    rintro e w2 ⟨rfl,a⟩
    have p:=Lib.hid (aa C.out a)
    have r0:=cell_later a p0
    have r1:=cell_later a p1
    have r2:=cell_later a p2
    have r3:=cell_later a p3
    have r4:=cell_later a p4
    have Q:=Lib.hid a
    clear a p0 p1 p2 p3 p4
    go_wp2_with fail
    refine(z.out _).mono ?_
    rintro e w3 ⟨rfl,c⟩
    have q:=Lib.hid (aa p.out c)
    have t4:=cell_later c r4
    have bl:=Lib.hid (G.out w3 (aa Q.out c))
    clear c r0 r1 r2 r3 r4
    go_wp2_with fail
    refine bl.out.mono ?_
    rintro e w4 ⟨rfl,R⟩
    have S:=Lib.hid (aa q.out R)
    clear R
    go_wp2_with fail
    go_roundw
    case rel=>exact⟨k+1,by go_num,r,congrArg Value.string (O.out.trans P.out.symm),S.out⟩
    case measure=>simp[intOf];omega
  have a0:k=l.length:=by omega
  subst a0
  have hR:=Lib.hid (show ah (bV s (l.take l.length))=ah (dW s l)by rw[List.take_length,hF.out])
  have aR:=Lib.hid g
  clear g
  go_wp2_with fail
  go_ret
  exact⟨congrArg (fun b=>Ending.returned (.string b)) hR.out,aR.out⟩
theorem wD{K:Nat}{w w1 w2:World}{p0 p1 p2 p3 p4 q0 q1 q2 q3 q4:Addr}{v0 v1 v2 v3 v4 u0 u1 u2 u3 u4:Value}
  (h:Below w.heap.size w w1∧(w1.cell? p0=some v0∧w1.cell? p1=some v1∧w1.cell? p2=some v2∧w1.cell? p3=some v3∧w1.cell? p4=some v4)∧w1.cell? q0=some u0∧w1.cell? q1=some u1∧w1.cell? q2=some u2∧w1.cell? q3=some u3∧w1.cell? q4=some u4) (hb:Below K w1 w2) (hK:K=w1.heap.size):
  Below w.heap.size w w2∧(w2.cell? p0=some v0∧w2.cell? p1=some v1∧w2.cell? p2=some v2∧w2.cell? p3=some v3∧w2.cell? p4=some v4)∧w2.cell? q0=some u0∧w2.cell? q1=some u1∧w2.cell? q2=some u2∧w2.cell? q3=some u3∧w2.cell? q4=some u4:=by
 subst hK
 obtain⟨n,⟨a,b,c,f,g⟩,i,j,k,l,m⟩:=h
 exact⟨aa n hb,⟨cell_later hb a,cell_later hb b,cell_later hb c,cell_later hb f,cell_later hb g⟩,cell_later hb i,cell_later hb j,cell_later hb k,cell_later hb l,cell_later hb m⟩
def HE(l1 l2:List Ent)(w:World)(i:Value)(wr:World):Prop:=∃k:Nat,i= .int .i64 k∧k≤l1.length∧l1.take k=l2.take k∧Below w.heap.size w wr
theorem pn{S1 S2:Nat→Prop}(a1 a2:Option Addr)(c1 c2:Nat)(l1 l2:List Ent)(w:World)(h1:LibL S1 w a1 c1 l1)(h2:LibL S2 w a2 c2 l2):
  Calls Tryz.prog 10 #[.slice a1 l1.length c1, .slice a2 l2.length c2] w fun e w'=>e= .returned (.bool (decide (l1=l2)))∧Below w.heap.size w w':=by
 have m1:=h1.le
 have m2:=h2.le
 have S:=Lib.hid h1
 have T:=Lib.hid h2
 clear h1 h2
 by_cases K:l1.length=l2.length
 ·have U:=Lib.hid K
  go_enter Tryz.func10,Tryz.ntmps10
  go_wp2_with fail
  clear K
  go_loopw [5] (fun i wr=>HE l1 l2 w i wr) (fun i _=>l1.length-(intOf i).toNat)
  case atStart=>exact⟨0,rfl,Nat.zero_le _,rfl, .refl _ _⟩
  case round=>
   obtain⟨k,rfl,hk,L,u⟩:=hrel
   have V:=U.out
   by_cases t:k<l1.length
   ·have p:k<l2.length:=by omega
    obtain⟨b,c,M,E,N,F,O,G,rfl,-,p0,p1,p2,p3,p4,-,-,hI,hU,hP⟩:=(S.out.below u).ent k t
    obtain⟨j,a,P,H,Q,I,R,J,rfl,-,q0,q1,q2,q3,q4,-,-,kI,kU,kP⟩:=(T.out.below u).ent k p
    have vs:=fun W (r:Below wr.heap.size wr W)=>AK l1[k] l2[k] M N O P Q R E F G H I J W (hI.below r) (hU.below r) (hP.below r) (kI.below r) (kU.below r) (kP.below r)
    have a5:(k:Int)<(l1.length:Int):=by omega
    have aj:(k:Int)<(l2.length:Int):=by omega
    have a3:(0:Int)≤(k:Int):=by omega
    have f:Below wr.heap.size wr wr.drew:=Below.drew (.refl _ _)
    have x:=(⟨f,⟨cell_later f p0,cell_later f p1,cell_later f p2,cell_later f p3,cell_later f p4⟩,cell_later f q0,cell_later f q1,cell_later f q2,cell_later f q3,cell_later f q4⟩:
     Below wr.heap.size wr wr.drew∧(wr.drew.cell? ⟨b,c+k*5,none⟩=some (.string (af l1[k]))∧wr.drew.cell? ⟨b,c+k*5+1,none⟩=some (.string (aC l1[k]))∧wr.drew.cell? ⟨b,c+k*5+2,none⟩=some (.slice M (az l1[k]).length E)∧wr.drew.cell? ⟨b,c+k*5+3,none⟩=some (.slice N (ae l1[k]).length F)∧wr.drew.cell? ⟨b,c+k*5+4,none⟩=some (.slice O (ai l1[k]).length G))∧
      wr.drew.cell? ⟨j,a+k*5,none⟩=some (.string (af l2[k]))∧wr.drew.cell? ⟨j,a+k*5+1,none⟩=some (.string (aC l2[k]))∧wr.drew.cell? ⟨j,a+k*5+2,none⟩=some (.slice P (az l2[k]).length H)∧wr.drew.cell? ⟨j,a+k*5+3,none⟩=some (.slice Q (ae l2[k]).length I)∧wr.drew.cell? ⟨j,a+k*5+4,none⟩=some (.slice R (ai l2[k]).length J))
    obtain⟨g,hg⟩:∃g,decide (l1[k]=l2[k])=g:=⟨_,rfl⟩
    have q:g=true→l1.take (k+1)=l2.take (k+1):=fun h=>by
     rw[h,decide_eq_true_eq]at hg
     rw[List.take_succ_eq_append_getElem t,List.take_succ_eq_append_getElem p,L,hg]
    have y:g=false→decide (l1=l2)=false:=fun h=>by
     rw[h,decide_eq_false_iff_not]at hg
     exact decide_eq_false (fun e=>hg (by simp only[e]))
    rw[hg]at vs
    have D:=Lib.hid vs
    have o:=Lib.hid u
    have Y:=Lib.hid q
    have X:=Lib.hid y
    clear hI hU hP kI kU kP vs u q y hg L V p0 p1 p2 p3 p4 q0 q1 q2 q3 q4 f
    generalize af l1[k]=nm at*
    generalize aC l1[k]=bn at*
    generalize (az l1[k]).length=n1 at*
    generalize (ae l1[k]).length=n2 at*
    generalize (ai l1[k]).length=n3 at*
    generalize af l2[k]=C at*
    generalize aC l2[k]=v at*
    generalize (az l2[k]).length=z at*
    generalize (ae l2[k]).length=A at*
    generalize (ai l2[k]).length=B at*
    cases g with
    |false=>
     have hn:=Lib.hid (X.out rfl)
     go_wp2_with fail
     go_region_held3 (fun w'=>Below wr.heap.size wr w'∧(w'.cell? ⟨b,c+k*5,none⟩=some (.string nm)∧w'.cell? ⟨b,c+k*5+1,none⟩=some (.string bn)∧w'.cell? ⟨b,c+k*5+2,none⟩=some (.slice M n1 E)∧w'.cell? ⟨b,c+k*5+3,none⟩=some (.slice N n2 F)∧w'.cell? ⟨b,c+k*5+4,none⟩=some (.slice O n3 G))∧
       w'.cell? ⟨j,a+k*5,none⟩=some (.string C)∧w'.cell? ⟨j,a+k*5+1,none⟩=some (.string v)∧w'.cell? ⟨j,a+k*5+2,none⟩=some (.slice P z H)∧w'.cell? ⟨j,a+k*5+3,none⟩=some (.slice Q A I)∧w'.cell? ⟨j,a+k*5+4,none⟩=some (.slice R B J))
      ((first|exact x|exact wD ‹_› s rfl))
      ((go_at_call 35;(with_reducible refine(D.out _ ?_).mono ?_);exact(And.left ‹_›);rintro e Z ⟨rfl,s⟩))
     have l:=And.left (‹Below wr.heap.size wr Z∧_›)
     have m:=Lib.hid (aa o.out l)
     clear l
     go_wp2_with fail
     go_ret
     exact⟨aF hn.out.symm,m.out⟩
    |true=>
     have hy:=Lib.hid (Y.out rfl)
     go_wp2_with fail
     go_region_held3 (fun w'=>Below wr.heap.size wr w'∧(w'.cell? ⟨b,c+k*5,none⟩=some (.string nm)∧w'.cell? ⟨b,c+k*5+1,none⟩=some (.string bn)∧w'.cell? ⟨b,c+k*5+2,none⟩=some (.slice M n1 E)∧w'.cell? ⟨b,c+k*5+3,none⟩=some (.slice N n2 F)∧w'.cell? ⟨b,c+k*5+4,none⟩=some (.slice O n3 G))∧
       w'.cell? ⟨j,a+k*5,none⟩=some (.string C)∧w'.cell? ⟨j,a+k*5+1,none⟩=some (.string v)∧w'.cell? ⟨j,a+k*5+2,none⟩=some (.slice P z H)∧w'.cell? ⟨j,a+k*5+3,none⟩=some (.slice Q A I)∧w'.cell? ⟨j,a+k*5+4,none⟩=some (.slice R B J))
      ((first|exact x|exact wD ‹_› s rfl))
      ((go_at_call 35;(with_reducible refine(D.out _ ?_).mono ?_);exact(And.left ‹_›);rintro e Z ⟨rfl,s⟩))
     have l:=And.left (‹Below wr.heap.size wr Z∧_›)
     have m:=Lib.hid (aa o.out l)
     clear l
     go_wp2_with fail
     go_roundw
     case rel=>exact⟨k+1,by go_num,t,hy.out,m.out⟩
     case measure=>simp[intOf];omega
   have a4:¬k<l2.length:=by omega
   have n:=Lib.hid (show decide (l1=l2)=true from decide_eq_true (by rwa[List.take_of_length_le (by omega),List.take_of_length_le (by omega)]at L))
   have o:=Lib.hid u
   clear L u
   go_wp2_with fail
   go_ret
   exact⟨aF n.out.symm,o.out⟩
 have r:=ku K
 have n:=Lib.hid (show decide (l1=l2)=false from decide_eq_false (fun e=>K (by rw[e])))
 go_enter Tryz.func10,Tryz.ntmps10
 go_wp2_with fail
 go_ret
 exact⟨aF n.out.symm, .refl _ _⟩
def XbS(xb:Nat)(nm bn:ByteArray)(v2 v3 v4:Value)(w':World):Prop:=
 w'.heap[xb]?=some (.cells #[.string nm, .string bn,v2,v3,v4] 46 (0,0))
theorem XbS.cells{xb:Nat}{nm bn:ByteArray}{v2 v3 v4:Value}{w':World}(h:XbS xb nm bn v2 v3 v4 w'):
  XbS xb nm bn v2 v3 v4 w'∧w'.cell? ⟨xb,0,none⟩=some (.string nm)∧w'.cell? ⟨xb,1,none⟩=some (.string bn)∧w'.cell? ⟨xb,2,none⟩=some v2∧w'.cell? ⟨xb,3,none⟩=some v3∧w'.cell? ⟨xb,4,none⟩=some v4:=by
 have a:w'.heap[xb]?=some (.cells #[.string nm, .string bn,v2,v3,v4] 46 (0,0)):=h
 exact⟨h,by simp[World.cell?,a],by simp[World.cell?,a],by simp[World.cell?,a],by simp[World.cell?,a],by simp[World.cell?,a]⟩
theorem wH{K xb:Nat}{nm bn:ByteArray}{v2 v3 v4:Value}{w w':World}{R:Prop}(h:XbS xb nm bn v2 v3 v4 w∧R)(hb:Below K w w')(hK:K=w.heap.size):
  XbS xb nm bn v2 v3 v4 w'∧w'.cell? ⟨xb,0,none⟩=some (.string nm)∧w'.cell? ⟨xb,1,none⟩=some (.string bn)∧w'.cell? ⟨xb,2,none⟩=some v2∧w'.cell? ⟨xb,3,none⟩=some v3∧w'.cell? ⟨xb,4,none⟩=some v4:=by
 subst hK
 have a:w.heap[xb]?=some (.cells #[.string nm, .string bn,v2,v3,v4] 46 (0,0)):=h.1
 exact XbS.cells ((hb.block xb (Array.getElem?_eq_some_iff.1 a).1).trans a)
theorem Es{b xb:Nat}{nm bn:ByteArray}{v2 v3 v4:Value}{w w':World}{R:Prop}(h:XbS xb nm bn v2 v3 v4 w∧R)(hk:KeepT b w w')(hne:xb≠b):
  XbS xb nm bn v2 v3 v4 w'∧w'.cell? ⟨xb,0,none⟩=some (.string nm)∧w'.cell? ⟨xb,1,none⟩=some (.string bn)∧w'.cell? ⟨xb,2,none⟩=some v2∧w'.cell? ⟨xb,3,none⟩=some v3∧w'.cell? ⟨xb,4,none⟩=some v4:=
 XbS.cells (hk xb _ _ _ hne (by decide) h.1)
def uh(s:Sg)(l:List Ent)(w1:World)(i:Value)(wr:World):Prop:=∃k:Nat,i= .int .i64 k∧k≤l.length∧IsBld wr w1.heap.size w1.heap.size (bV s (l.take k))∧Below w1.heap.size w1 wr
theorem Cl{S1 S2:Nat→Prop}(sa la:Option Addr)(sc lc:Nat)(s:Sg)(l:List Ent)(w:World)(h1:Sign S1 w sa sc s)(h2:LibL S2 w la lc l)(hl:l.length≤1000)(htab:TabW w):
  Calls Tryz.prog 6 #[.slice sa s.length sc, .slice la l.length lc] w fun e w'=>e= .returned (.string (ah (dW s l)))∧Below w.heap.size w w':=by
 have m:=h2.le
 have m1:=h1.le
 have vs:=pU sa la sc lc s l w h1 h2 hl
 have Z:=Lib.hid h1
 have ab:=Lib.hid h2
 have av:=Lib.hid htab
 clear h1 h2 htab
 cases hs:bz s l with
 |false=>
  rw[hs]at vs
  have E:=Lib.hid vs
  have hf:=Lib.hid (show ah (dW s l)=⟨#[]⟩by unfold dW;rw[if_neg (by simp[hs])];rfl)
  clear vs hs
  go_enter Tryz.func6,Tryz.ntmps6
  go_wp2_with fail
  refine E.out.mono ?_
  rintro e v ⟨rfl,c⟩
  have J:=Lib.hid c
  clear c
  go_wp2_with fail
  go_ret
  exact⟨congrArg (fun b=>Ending.returned (.string b)) hf.out.symm,J.out⟩
 |true=>
 rw[hs]at vs
 have E:=Lib.hid vs
 have R:=Lib.hid hs
 have hF:=Lib.hid (show dW s l=bV s l by unfold dW;rw[if_pos hs])
 clear vs hs
 go_enter Tryz.func6,Tryz.ntmps6
 go_wp2_with fail
 refine E.out.mono ?_
 rintro e v ⟨rfl,c⟩
 have P:=Lib.hid (IsBld.new v)
 have J:=Lib.hid c
 clear c
 go_wp2_with fail
 go_loopw [7,14] (fun _ i wr=>uh s l v i wr) (fun _ i _=>l.length-(intOf i).toNat)
 case atStart=>exact⟨0,rfl,Nat.zero_le _,P.out,an _ _⟩
 case round=>
  obtain⟨k,rfl,hk,j,f⟩:=hrel
  by_cases t:k<l.length
  ·obtain⟨b,bu,F,H,G,I,x,y,rfl,-,p0,p1,p2,p3,p4,z1,z2,hI,hU,hP⟩:=(ab.out.below (aa J.out f)).ent k t
   have K:=jj R.out
   have u:=K.2.2.1 l[k] (List.getElem_mem t)
   have r:b9 s l[k]=true:=by rw[g8,Bool.and_eq_true]at u;exact u.1
   have B:=ji r
   have ag:=qC r
   have aq:(k:Int)<(l.length:Int):=by omega
   have bp:(0:Int)≤(k:Int):=by omega
   have vh:=fun W (c:Below wr.heap.size wr W)=>pX sa sc s l[k] F G x (ai l[k]).length H I y W ((Z.out.below (aa J.out f)).below c) z1 z2 B.2.2.2.1 (hI.below c) (hU.below c) (by have:=B.2.2.2.2.1;omega) (by omega)
   have vf:=fun W (c:Below wr.heap.size wr W)=>As x y (ai l[k]) W (hP.below c) (TabW.below av.out (aa J.out (aa f c)))
   have hE:=uB u
   have ad:=qd u
   have hT:=uL (s:=s) t
   have bq:=uK R.out k
   have C:=cX (aZ s l[k])
   have D:=cX (ei (ai l[k]))
   have z:=congrArg List.length hE
   rw[List.length_append,List.length_append,List.length_singleton]at z
   obtain⟨X,o⟩:∃X,ah (aZ s l[k])=X:=⟨_,rfl⟩
   obtain⟨Y,p⟩:∃Y,ah (ei (ai l[k]))=Y:=⟨_,rfl⟩
   have U:bV s (l.take k)++(X++⟨#[10]⟩++Y).data.toList=bV s (l.take (k+1)):=by
    rw[←o,←p,hT,hE]
    simp[ByteArray.data_append,ah]
   have L:(X++⟨#[10]⟩++Y).size≤10000:=by
    rw[ByteArray.size_append,ByteArray.size_append,←o,←p,C,D]
    show _+1+_≤_
    omega
   rw[o]at C
   rw[p]at D
   have T:∀W,Below wr.heap.size wr W→Calls Tryz.prog 19 #[.slice sa s.length sc,entV (af l[k]) (aC l[k]) (az l[k]).length (ae l[k]).length (ai l[k]).length F G x H I y] W fun e w'=>e= .returned (.string X)∧Below W.heap.size W w':=fun W c=>by rw[←o];exact vh W c
   have S:∀W,Below wr.heap.size wr W→Calls Tryz.prog 20 #[.slice x (ai l[k]).length y] W fun e w'=>e= .returned (.string Y)∧Below W.heap.size W w':=fun W c=>by rw[←p];exact vf W c
   have s1:(9223372036854775807<X.size+1)=False:=eq_false (by omega)
   have s2:(9223372036854775807<X.size+1+Y.size)=False:=eq_false (by omega)
   obtain⟨V,A⟩:∃W,wr.alloc (.cells #[.string (af l[k]), .string (aC l[k]), .slice F (az l[k]).length H, .slice G (ae l[k]).length I, .slice x (ai l[k]).length y] 46)=W:=⟨_,rfl⟩
   have h:Below wr.heap.size wr V.drew:=by rw[←A];exact Below.drew (an wr _)
   have hX:XbS wr.heap.size (af l[k]) (aC l[k]) (.slice F (az l[k]).length H) (.slice G (ae l[k]).length I) (.slice x (ai l[k]).length y) V.drew:=by
    show V.heap[wr.heap.size]?=_
    rw[←A];exact heap_alloc_new wr _
   have al:=hX.cells
   have au:wr.heap.size≠v.heap.size:=by have:=j.lt;omega
   have ay:=Lib.hid T
   have ax:=Lib.hid S
   have a:=Lib.hid f
   have n:=Lib.hid j
   have aj:=Lib.hid U
   have M:=Lib.hid L
   have bt:=Lib.hid hX
   clear vh vf T S hI hU hP K u B r hE hT U f j o p C D z ad z1 z2 hX L ag
   generalize bV s (l.take k)=TK at*
   generalize af l[k]=nm at*
   generalize aC l[k]=bn at*
   generalize (az l[k]).length=n1 at*
   generalize (ae l[k]).length=n2 at*
   generalize (ai l[k]).length=n3 at*
   go_wp2_with fail
   try rw[A]
   go_region_held3 (fun w'=>XbS wr.heap.size nm bn (.slice F n1 H) (.slice G n2 I) (.slice x n3 y) w'∧w'.cell? ⟨wr.heap.size,0,none⟩=some (.string nm)∧w'.cell? ⟨wr.heap.size,1,none⟩=some (.string bn)∧w'.cell? ⟨wr.heap.size,2,none⟩=some (.slice F n1 H)∧w'.cell? ⟨wr.heap.size,3,none⟩=some (.slice G n2 I)∧w'.cell? ⟨wr.heap.size,4,none⟩=some (.slice x n3 y))
    ((first|(with_reducible exact al)|(with_reducible exact Es ‹_› g3 au)|(with_reducible exact wH ‹_› q rfl)|(with_reducible exact wH ‹_› g rfl)))
    ((first
     |(go_at_call 19;(with_reducible refine(ay.out _ h).mono ?_);rintro e w3 ⟨rfl,g⟩)
     |(go_at_call 20;(with_reducible refine(ax.out _ (aa h g)).mono ?_);rintro e w4 ⟨rfl,q⟩)
     |(go_at_call 18;(with_reducible refine(tg v.heap.size v.heap.size TK (X++⟨#[10]⟩++Y) w4 (n.out.below (aa (aa h g) q)) (by have:=M.out;omega) (by have:=(aa (aa (aa a.out h) g) q).size;omega)).mono ?_);rintro e w5 ⟨rfl,g1,g2,g3⟩)))
   have hrel:=Lib.hid (show uh s l v (.int .i64 ((k:Int)+1)) w5 from⟨k+1,by go_num,t,by rw[←aj.out];exact g1,(aa (aa (aa a.out h) g) q).trans g2⟩)
   clear g1 g2 g3 g q h
   go_wp2_with fail
   all_goals go_roundw
   all_goals first|exact hrel.out|(simp[intOf];done)|(simp[intOf];omega)
  have Q:k=l.length:=by omega
  have n:=Lib.hid j
  have a:=Lib.hid f
  have aq:((k:Int)<(l.length:Int))=False:=eq_false (by omega)
  have U:=Lib.hid (show(⟨(bV s (l.take k)).toArray⟩:ByteArray)=ah (dW s l)by rw[Q,List.take_length,hF.out];rfl)
  clear j f Q t
  go_wp2_with fail
  refine(s8 v.heap.size v.heap.size _ wr n.out a.out.size).mono ?_
  rintro e w3 ⟨rfl,N⟩
  have O:=Lib.hid (aa J.out (a.out.trans N))
  clear N
  go_wp2_with fail
  all_goals go_ret
  all_goals exact⟨congrArg (fun b=>Ending.returned (.string b)) U.out,O.out⟩
theorem FV{s:Sg}{t:List UInt8}{l:List Ent}{n:Nat}(h:df s t=(l,n,0)):bz s l=true:=by
 unfold df at h
 by_cases hs:aH s=true
 ·rw[if_pos hs]at h
  by_cases a:t.length≤65536
  ·rw[if_pos a]at h
   exact(ru _ _ _ _ _ (Gd.nil hs) h).1
  rw[if_neg a]at h;exact absurd (congrArg (fun r=>r.2.2) h) (by simp)
 rw[if_neg hs]at h;exact absurd (congrArg (fun r=>r.2.2) h) (by simp)
theorem Ap{S1 S2:Nat→Prop}(sa:Option Addr)(sc:Nat)(s:Sg)(la:Option Addr)(lc:Nat)(l:List Ent)(t:ByteArray)(w:World)(h1:Sign S1 w sa sc s)(h2:LibL S2 w la lc l)(hL:LibW w):
  Calls Tryz.prog 3 #[.slice sa s.length sc, .slice la l.length lc, .string t] w fun e w'=>e= .returned (.bool true)∧Below w.heap.size w w':=by
 have m1:=h1.le
 have m2:=h2.le
 have va:=Lib.hid (By w)
 have vh:=Lib.hid (fun W (j:Below w.heap.size w W)=>DQ sa la sc lc s l W (h1.below j) (h2.below j))
 have B:=Lib.hid h1
 have C:=Lib.hid h2
 have av:=Lib.hid hL
 clear h1 h2 hL
 go_enter Tryz.func3,Tryz.ntmps3
 go_wp2_with fail
 refine va.out.mono ?_
 rintro e w1 ⟨rfl,T⟩
 have bx:=Lib.hid (vh.out w1 T)
 have ax:=Lib.hid T
 clear T
 go_wp2_with fail
 refine bx.out.mono ?_
 rintro e w2 ⟨r,rfl,H,ay⟩
 have q:=Lib.hid (aa ax.out ay)
 clear ay
 cases r with
 |true=>
  clear H
  go_wp2_with fail
  go_ret
  exact⟨rfl,q.out⟩
 |false=>
 have G:=Lib.hid (H rfl)
 clear H
 by_cases x1:3000<t.size
 ·have y1:((3000:Int)<(t.size:Int))=True:=eq_true (by omega)
  have y2:decide (3000<t.size)=true:=decide_eq_true x1
  go_wp2_with fail
  go_ret
  exact⟨rfl,q.out⟩
 have y1:((3000:Int)<(t.size:Int))=False:=eq_false (by omega)
 have y2:decide (3000<t.size)=false:=decide_eq_false x1
 have L:l.length≤1000:=by have:=G.out.1;omega
 have bq:t.size≤60000:=by omega
 have vF:=Lib.hid (fun(S:Nat→Prop) (a:Option Addr) (c:Nat) (m:List Ent) W (j:Below w.heap.size w W) (hm:LibL S W a c m) (hl:m.length≤1000)=>Cl sa a sc c s m W (B.out.below j) hm hl (av.out.later j).1)
 have vG:=Lib.hid (fun W (j:Below w.heap.size w W)=>F7 sa la sc lc s l W (B.out.below j) (C.out.below j))
 have vP:=Lib.hid (fun(u:ByteArray) W (j:Below w.heap.size w W)=>Cm sa sc s u W (B.out.below j) (av.out.later j))
 have vQ:=Lib.hid (fun W (j:Below w.heap.size w W)=>Ga sa sc s t bq W (B.out.below j))
 have vV:=Lib.hid (fun W (j:Below w.heap.size w W)=>x8 sa la sc lc s l W (B.out.below j) (C.out.below j))
 obtain⟨F,M⟩:∃F,ah (dW s l)=F:=⟨_,rfl⟩
 obtain⟨⟨a,n,er⟩,hR⟩:∃R,df s (bL t)=R:=⟨_,rfl⟩
 have ao:=Lib.hid M
 have K:=Lib.hid hR
 have aq:bL F=dW s l:=by rw[←M];rfl
 have au:=Lib.hid aq
 have X:=vF.out _ la lc l w2 q.out (C.out.below q.out) L
 rw[M]at X
 have aT:=Lib.hid X
 clear M hR aq X x1
 go_wp2_with fail
 refine aT.out.mono ?_
 rintro e w3 ⟨rfl,aL⟩
 have N:=Lib.hid (aa q.out aL)
 have bt:=Lib.hid (vP.out t w3 N.out)
 clear aL
 go_wp2_with fail
 refine bt.out.mono ?_
 rintro e w4 ⟨a1,c1,rfl,hA,aN⟩
 rw[K.out]at hA⊢
 simp only at hA⊢
 have O:=Lib.hid (aa N.out aN)
 have bm:=Lib.hid hA
 have bu:=Lib.hid (vQ.out w4 O.out)
 have mA:=hA.le
 clear aN hA
 go_wp2_with fail
 refine bu.out.mono ?_
 rintro e w5 ⟨a2,c2,rfl,J,U⟩
 rw[K.out]at J⊢
 simp only at J⊢
 have P:=Lib.hid (aa O.out U)
 have ag:=Lib.hid (bm.out.below U)
 have ad:=Lib.hid J
 have Z:=vG.out w5 P.out
 rw[ao.out]at Z
 have aW:=Lib.hid Z
 clear U J Z
 have cd:=fe (x:=F) (y:=F) rfl
 go_wp2_with fail
 refine aW.out.mono ?_
 rintro e w6 ⟨rfl,D⟩
 have aO:=Lib.hid (aa P.out D)
 have vS:=pn a1 a2 c1 c2 a a w6 (ag.out.below D) (ad.out.below D)
 rw[decide_eq_true rfl]at vS
 have bw:=Lib.hid vS
 have bf:=Lib.hid (ag.out.below D)
 clear D vS
 go_wp2_with fail
 refine bw.out.mono ?_
 rintro e w7 ⟨rfl,V⟩
 have g:=Lib.hid (aa aO.out V)
 have bl:=Lib.hid (bf.out.below V)
 clear V
 have cc:((n:Int)==(n:Int))=true:=beq_self_eq_true _
 have b8:(er==er)=true:=beq_self_eq_true _
 have bp:=vV.out
 have key:∀(w8:World),Below w.heap.size w w8→True:=fun _ _=>trivial
 clear key bp
 obtain⟨ok,A⟩:∃b,bz s l=b:=⟨_,rfl⟩
 have b0:=Lib.hid A
 have a4:=Lib.hid (fun W j=>(show Calls Tryz.prog 11 #[.slice sa s.length sc, .slice la l.length lc] W fun e w'=>e= .returned (.bool ok)∧Below W.heap.size W w' by rw[←A];exact vV.out W j))
 have a0:=Lib.hid (fun W j=>vP.out F W j)
 have aj:=Lib.hid (fun(h:ok=false)=>(show F=⟨#[]⟩by rw[←ao.out];unfold dW;rw[if_neg (by rw[A,h];simp)];rfl))
 have al:=Lib.hid (fun(h:ok=true)=>(show df s (bL F)=(l,0,0)by
  rw[au.out]
  refine FU (A.trans h) ?_
  have b6:=(jj (A.trans h)).2.1
  have:=G.out
  omega))
 clear A
 by_cases h0:er=0
 case neg=>
  have cf:(er==0)=false:=by rw[beq_eq_false_iff_ne];exact h0
  clear h0
  go_wp2_with fail
  refine(a4.out _ g.out).mono ?_
  rintro e w9 ⟨rfl,E⟩
  have i:=Lib.hid (aa g.out E)
  clear E
  cases ok with
  |false=>
   have M:=aj.out rfl
   subst M
   go_wp2_with fail
   go_ret
   exact⟨rfl,i.out⟩
  |true=>
   have ab:=Lib.hid (a0.out w9 i.out)
   have Q:=Lib.hid (al.out rfl)
   go_wp2_with fail
   refine ab.out.mono ?_
   rintro e ac ⟨a3,c3,rfl,k,o⟩
   rw[Q.out]at k⊢
   simp only at k⊢
   have f:=Lib.hid (aa i.out o)
   have z:=pn a3 la c3 lc l l ac k (C.out.below f.out)
   rw[decide_eq_true rfl]at z
   have I:=Lib.hid z
   clear o z k
   go_wp2_with fail
   refine I.out.mono ?_
   rintro e bA ⟨rfl,p⟩
   have v:=Lib.hid (aa f.out p)
   clear p
   go_wp2_with fail
   go_ret
   exact⟨rfl,v.out⟩
 case pos=>
  subst h0
  have aR:=CZ K.out
  have bn:=Lib.hid (show ah (dW s a)=t by rw[aR.1];exact mY rfl)
  have b7:a.length≤60:=(jj (FV K.out)).2.1
  have Y:=vF.out _ a1 c1 a w7 g.out bl.out (by omega)
  rw[bn.out]at Y
  have aU:=Lib.hid Y
  have ce:=fe (x:=t) (y:=t) rfl
  clear Y aR
  go_wp2_with fail
  refine aU.out.mono ?_
  rintro e w8 ⟨rfl,aP⟩
  have g:=Lib.hid (aa g.out aP)
  clear aP
  go_wp2_with fail
  refine(a4.out _ g.out).mono ?_
  rintro e w9 ⟨rfl,E⟩
  have i:=Lib.hid (aa g.out E)
  clear E
  cases ok with
  |false=>
   have M:=aj.out rfl
   subst M
   go_wp2_with fail
   go_ret
   exact⟨rfl,i.out⟩
  |true=>
   have ab:=Lib.hid (a0.out w9 i.out)
   have Q:=Lib.hid (al.out rfl)
   go_wp2_with fail
   refine ab.out.mono ?_
   rintro e ac ⟨a3,c3,rfl,k,o⟩
   rw[Q.out]at k⊢
   simp only at k⊢
   have f:=Lib.hid (aa i.out o)
   have z:=pn a3 la c3 lc l l ac k (C.out.below f.out)
   rw[decide_eq_true rfl]at z
   have I:=Lib.hid z
   clear o z k
   go_wp2_with fail
   refine I.out.mono ?_
   rintro e bA ⟨rfl,p⟩
   have v:=Lib.hid (aa f.out p)
   clear p
   go_wp2_with fail
   go_ret
   exact⟨rfl,v.out⟩
theorem EG{W:World}{n1 n2 n3 n0:String}{d1 d2 d3 d0 d4 d5:DataW Unit}{rest:List (String×DataW Unit)}(hs:W.ShapedOpen Tryz.prog)(hT:TabW W)(h:laidMet Tryz.prog ((n1,d1)::(n2,d2)::(n3,d3)::(n0,d0)::("strconv.ErrRange",d4)::("strconv.ErrSyntax",d5)::rest) W):LibW W:=by
 have a:Tryz.prog.globalNamed "strconv.ErrRange" =some 2:=by kernel_rfl
 have b:Tryz.prog.globalNamed "strconv.ErrSyntax" =some 1:=by kernel_rfl
 have c:(Tryz.prog.globals[2]?).map (·.type)=some 52:=by kernel_rfl
 have f:(Tryz.prog.globals[1]?).map (·.type)=some 52:=by kernel_rfl
 obtain⟨x,⟨_,_,_,_,_,_,_,_,_,_,⟨_,_,_,_,_,_,_,_,_,_,⟨_,_,_,_,_,_,_,_,_,_,⟨_,_,_,_,_,_,_,_,_,_,⟨t,A,n,r,v,y,g,j,l,p,⟨u,B,o,s,w,z,i,k,m,q,_,_⟩,_⟩,_⟩,_⟩,_⟩,_⟩,_⟩:=h
 obtain rfl:=Option.some.inj (a.symm.trans g)
 obtain rfl:=Option.some.inj (b.symm.trans i)
 obtain rfl:=Option.some.inj (c.symm.trans j)
 obtain rfl:=Option.some.inj (f.symm.trans k)
 exact⟨hT,shM145.s1_3 W hs,yI b m (wa Tryz.underlying52 q),yI a l (wa Tryz.underlying52 p)⟩
theorem ue{W:World}:laidMetH Tryz.prog Rows.depsTextsRow.laid W=laidMet Tryz.prog [("math/bits.deBruijn32tab",Rows.laid_math_bits_deBruijn32tab),("math/bits.deBruijn64tab",Rows.laid_math_bits_deBruijn64tab),("internal/strconv.uint64pow10",Lib.tabData .u64 Lib.pow10Tab),("unicode/utf8.acceptRanges",Rows.laid_unicode_utf8_acceptRanges),("strconv.ErrRange",Rows.laid_strconv_ErrRange),("strconv.ErrSyntax",Rows.laid_strconv_ErrSyntax),("unicode/utf8.first",Rows.laid_unicode_utf8_first)] W:=by kernel_rfl
theorem Cs(os:Os)(started:os.Started)(H:Type)(enc:TypeId×Value→H):
  ReturnsInHanded {} Tryz.checked os 3 .any (fun w args=>(Rows.depsTextsSpec.pre enc Tryz.prog Tryz.f3 [] false w args∧laidMetH Tryz.prog Rows.depsTextsRow.laid w)∧sizedMet enc Tryz.prog Tryz.f3 (OpenSpec.ofChange Rows.depsTextsSpec) false w args)
   (Rows.depsTextsSpec.post enc Tryz.prog Tryz.f3 false true false false):=by
 refine Dp (C:=Tryz.checked) (X:=fun w _=>laidMetH Tryz.prog Rows.depsTextsRow.laid w) (fun _ _ _ J h=>h.of_heap J) Tryz.own started (by kernel_rfl) Tryz.func3
  (ChangeSpec.witness_shaped (enc:=enc) (C:=Tryz.checked) (os:=os) (X:=fun w _=>laidMetH Tryz.prog Rows.depsTextsRow.laid w) false (World.laidAll Tryz.prog os Rows.depsTextsRow.laid) #[.slice none 0 0, .slice none 0 0, .string ByteArray.empty] 8 (World.laidAll_os _ _ _) (World.shaped_of_ZipB (by kernel_rfl) (by kernel_rfl)) (by kernel_rfl) (by kernel_rfl) (by kernel_rfl) (by rw[MakeChecks.laidMetH_plain _ _ _ (by kernel_rfl)];exact laidMet_laidAll _ (by kernel_rfl) (by kernel_rfl))) ?_
 intro W k args E gs r y b D _ _ u _
 have n:TabW W:=Im (n1:=_) (n2:=_) (d1:=_) (d2:=_) (rest:=_) (Eq.mp ue u)
 have m:LibW W:=EG (n1:=_) (n2:=_) (n3:=_) (n0:=_) (d1:=_) (d2:=_) (d3:=_) (d0:=_) (d4:=_) (d5:=_) (rest:=_) y n (Eq.mp ue u)
 clear u
 have a:∀(j:Nat) t v,Tryz.f3.params[j]?=some t→args[j]?=some v→Value.okWide Tryz.prog W .any k t v:=b
 have c:=D
 obtain⟨p,q,l,F,rfl,I,K⟩:=D
 have hA:DataW.TrodAll enc Tryz.prog W 0 (fun _=>true) true Tryz.f3.params.toList args.toList E p:=l
 rw[Tryz.params3]at hA a
 obtain⟨Q,R,S,d0,d1,d2,L,M,N,rfl,rfl,rfl,z,A,B⟩:=trodAll_three hA
 obtain⟨rfl,rfl⟩:=trodVars_none F
 clear l b
 simp only[List.append_nil]at c
 have f:∀x∈L++(M++N),x.block<W.heap.size:=fun x hx=>c.lt x (by simpa using hx)
 have g:=fun(i:World) (o:Below W.heap.size W i)=>Below.trod Tryz.laidOut (by kernel_rfl) (of_decide_eq_true (by kernel_rfl)) z o (fun x hx=>f x (by simp[hx]))
 have wB:=fun(i:World) (o:Below W.heap.size W i)=>Below.trod Tryz.laidOut (by kernel_rfl) (of_decide_eq_true (by kernel_rfl)) A o (fun x hx=>f x (by simp[hx]))
 have wC:=fun(i:World) (o:Below W.heap.size W i)=>Below.trod Tryz.laidOut (by kernel_rfl) (of_decide_eq_true (by kernel_rfl)) B o (fun x hx=>f x (by simp[hx]))
 obtain⟨l0,U,Y,rfl,O⟩:=gSign.arg z (okWide_slice Tryz.underlying23 (a 0 23 Q rfl rfl))
 obtain⟨l1,V,Z,rfl,P⟩:=gLib.arg A (okWide_slice Tryz.underlying24 (a 1 24 R rfl rfl))
 obtain⟨s2,rfl,rfl,rfl,T⟩:=ChangeMaps.open_string Tryz.underlying9 (a 2 9 S rfl rfl) B
 refine(Ap _ _ _ _ _ _ _ W O P m).mono fun e i ⟨G,s⟩=> ?_
 subst G
 exact⟨_,rfl,_,_,_,[],_,[],c,trodAll_mk1 (shut_bool Tryz.underlying4 true),trodAll_mk3 (g _ s) (wB _ s) (wC _ s),rfl,s.frame _,fun h=>by cases h⟩
theorem Cr:Rows.DepsTextsSaid:=
 OpenClaim.holds_of_wide 3 Tryz.f3 rfl rfl rfl rfl rfl rfl rfl ⟨rfl,rfl,rfl,rfl,rfl⟩ rfl rfl rfl rfl rfl (by kernel_rfl) Tryz.func3 (by kernel_rfl)
  (of_decide_eq_true (by kernel_rfl)) (by unfold Func.isWrapper;first|(rw[if_pos (by decide+kernel)];kernel_rfl)|(rw[if_neg (by decide+kernel)];exact⟨rfl,rfl⟩))
  (fun c a H b _=>Cs c a H b)
theorem depsTexts_card_holds:Rows.DepsTextsCardSaid:=
 Claim7.holds_tied_plain_at .later [] [.data, .data, .data, .data, .sentinel, .sentinel, .pinned] true Rows.depsTextsCard.stood.harness Rows.depsTextsCard.stood.looks
  Cr (fun _ h=>by cases h) (by kernel_rfl) (fun _ h=>by cases h) depsTexts_row_tie rfl ⟨rfl,rfl⟩ (by kernel_rfl) rfl
  (fun f g hf b=>by
   obtain rfl:f=3:=Option.some.inj ((show Tryz.prog.funcNamed Rows.depsTextsRow.func=some 3 by kernel_rfl).symm.trans hf) |>.symm
   obtain rfl:g=Tryz.f3:=(Option.some.inj (Tryz.func3.symm.trans b)).symm
   exact⟨by kernel_rfl,fun j t c=>by
    rw[Tryz.params3]at c
    have i:t∈ [23,24,9]:=by simpa using Array.mem_of_getElem? c
    have a:([23,24,9].all fun u=> !Tryz.prog.wantsStandIn u)=true:=by kernel_rfl
    exact(show Tryz.prog.wantsStandIn t=false by simpa using List.all_eq_true.1 a t i)⟩)
  (by kernel_rfl)
end Go.Proofs.YtlejmeegkpdabaaGreatDoor
