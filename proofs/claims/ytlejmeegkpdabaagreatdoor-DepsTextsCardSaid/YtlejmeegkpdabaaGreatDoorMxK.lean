/- The proof of a statement, some of its texts joined in build order: part K. -/
import Derived.Test.YtlejmeegkpdabaaGreatDoorMxJ
import Derived.Deep.CutRange
set_option maxHeartbeats 4000000
set_option maxRecDepth 100000
namespace Go.Proofs.YtlejmeegkpdabaaGreatDoor
open Go Go.RowKit Go.Maps
def yw(s:Sg)(L:List ByteArray)(w1:World)(lV iV:Value)(wr:World):Prop:=
 ∃(i:Nat) (acc:List Ent),iV= .int .i64 i∧i<L.length∧cV s ((aI L).drop i) i acc=cV s (aI L) 0 []∧PS wr w1.heap.size lV acc∧Below w1.heap.size w1 wr∧Gd s acc
theorem yy{s:Sg}{t:ByteArray}{w w':World}{e:Ending}(h:jT s t w e w'):∃nm bn n1 n2 a1 a2 c1 c2 is,e= .returned (.tuple #[entV nm bn n1 n2 0 a1 a2 none c1 c2 0, .bool is])∧Below w.heap.size w w'∧(is=false→bX s (bL t)=none)∧
  (is=true→∃says uses,bX s (bL t)=some (nm,bn,says,uses,[])∧n1=says.length∧n2=uses.length∧Ints (fun b=>w.heap.size≤b) w' a1 c1 says∧Sl strE (fun b=>w.heap.size≤b) w' a2 c2 uses):=by
 obtain⟨h,c⟩:=h
 cases hd:bX s (bL t)with
 |none=>
  rw[hd]at h
  obtain⟨nm,bn,n1,n2,a1,a2,c1,c2,e⟩:=h
  exact⟨_,_,_,_,_,_,_,_,false,e,c,(fun _=>rfl),(fun e=>by cases e)⟩
 |some x=>
  rw[hd]at h
  obtain⟨a1,c1,a2,c2,e,f,g⟩:=h
  have i:=(jF hd).2.2
  obtain⟨nm,bn,says,uses,j⟩:=x
  have a:j=[]:=i
  subst a
  exact⟨_,_,_,_,_,_,_,_,true,e,c,(fun e=>by cases e),(fun _=>⟨says,uses,rfl,rfl,rfl,f,g⟩)⟩
theorem rM{r:List Ent×Nat×Int}{acc:List Ent}{la:Option Addr}{lc N:Nat}{w w':World}(h:r=(acc,0,0))(hN:acc.length=N)(hL:LibL (fun b=>w.heap.size≤b) w' la lc acc)(hb:Below w.heap.size w w'):oG r w (.returned (.tuple #[.slice la N lc, .int .i64 0, .int .i64 0])) w':=by
 subst h hN;exact⟨la,lc,rfl,hL,hb⟩
theorem GW{Q:List Stp}{x:Stp}:Q++[x]≠ []:=by simp
theorem yv(n:Nat)(h:n≤1000000):IntKind.i64.wrap ((n:Int))=(n:Int):=IntWalk.i64_in _ (by omega)
theorem GV(n:Nat)(h:n≤60):n≤1000000:=by omega
theorem rR{n b:Nat}(h:n<60)(hb:b≤1000000):(n+1)*b≤140737488355328:=Nat.le_trans (Nat.mul_le_mul h hb) (by decide)
theorem rQ{n:Nat}(h:n<60):n+1≤aB:=Nat.le_trans h (by decide)
theorem rA{wr:World}{base:Nat}{lv:Value}{acc:List Ent}(hP:PS wr base lv acc)(hne:acc≠ []):∃A y pv vs g cap b2 d2 ap cp,acc=A++[y]∧PS1 wr base lv A y pv vs∧lv= .slice (some ⟨g,0,none⟩) (A.length+1) cap∧base≤g∧g<wr.heap.size∧
  wr.cell? ⟨g,A.length*5+3,none⟩=some (.slice b2 (ae y).length d2)∧pv= .slice ap (ai y).length cp∧wr.cell? ⟨g,A.length*5+4,none⟩=some (.slice ap (ai y).length cp)∧wr.frozen? ⟨g,A.length*5+4,none⟩=false∧Steps (fun b=>base≤b) wr ap cp (ai y)∧(ae y).length≤aB:=by
 have j:=hP
 rcases hP with⟨e,-⟩|⟨A,y,pv,vs,e,h⟩
 ·exact(hne e).elim
 subst e
 obtain⟨g,cap,c,l,m,s,v⟩:=h.at
 obtain⟨x,C,q,i⟩:=j.ent
 have w:A.length<(A++[y]).length:=by simp
 obtain⟨b,o,z,D,b2,d2,B,E,u,-,H,I,J,p,K,L,M,F,r,G⟩:=i.ent A.length w
 have k:b=g∧o=0:=by
  rw[c]at q
  injection q with a
  rw[u]at a
  injection a with a
  injection a with a t
  exact⟨a.symm,t.symm⟩
 obtain⟨rfl,rfl⟩:=k
 have hy:(A++[y])[A.length]=y:=by simp
 rw[hy]at p r
 obtain⟨ap,cp,f,n⟩:=h.last.steps
 simp only[Nat.zero_add]at p
 refine⟨A,y,pv,vs,b,cap,b2,d2,ap,cp,rfl,h,c,l,m,p,f,by rw[←f];exact s,v,n,r.le⟩
theorem Ga{S1:Nat→Prop}(sa:Option Addr)(sc:Nat)(s:Sg)(t:ByteArray)(ht:t.size≤60000)(w:World)(h1:Sign S1 w sa sc s):
  Calls Tryz.prog 8 #[.slice sa s.length sc, .string t] w (oG (df s (bL t)) w):=by
 have m1:=h1.le
 have vs:=ox sa sc s w h1
 have i4:(bL t).length=t.size:=Array.length_toList
 have cW:=Lib.hid i4
 have kI:=Lib.hid h1
 clear h1 i4
 cases hs:aH s with
 |false=>
  rw[hs]at vs
  have gr:=Lib.hid vs
  have hr:=Lib.hid (show df s (bL t)=([],0,1)by unfold df;rw[if_neg (by rw[hs];simp)])
  clear vs hs
  go_enter Tryz.func8,Tryz.ntmps8
  go_wp2_with fail
  refine gr.out.mono ?_
  rintro e w1 ⟨rfl,hd⟩
  have hB:=Lib.hid (hd.below w.heap.size)
  clear hd
  go_wp2_with fail
  go_ret3
  exact et hr.out hB.out
 |true=>
 rw[hs]at vs
 have gr:=Lib.hid vs
 have hr:=Lib.hid (show df s (bL t)=cV s (aA 10 (bL t)) 0 []by unfold df;rw[if_pos hs,if_pos (by rw[cW.out];omega)])
 have lp:=Lib.hid hs
 have g1:(65536<(t.size:Int))=False:=eq_false (by omega)
 clear vs hs
 go_enter Tryz.func8,Tryz.ntmps8
 go_wp2_with fail
 refine gr.out.mono ?_
 rintro e w0 ⟨rfl,hd⟩
 have hv:=Lib.hid (hd.below w.heap.size)
 have vC:=Lib.hid (xW t 10 (by omega) w0)
 clear hd
 go_wp2_with fail
 refine vC.out.mono ?_
 rintro e w1 ⟨v,L,rfl,hO,hL,fn⟩
 have cv:L≠ []:=fun e=>eV 10 (bL t) (by show aA 10 t.data.toList=[];rw[←hL,e];rfl)
 obtain⟨g,m4,rfl,nt,nw⟩:=OwnL.form hO cv
 have ns:L.length≤65537:=by
  have h1:=ii 10 t.data.toList
  rw[←hL,g9]at h1
  have h2:=cW.out
  have h3:(bL t).length=t.data.toList.length:=rfl
  omega
 have kU:0<L.length:=List.length_pos_iff.2 cv
 have hF:=Lib.hid (show∀y∈L,y.size≤60000∧(10:UInt8)∉bL y from fun y hy=>by
  have h1:=jz hy
  rw[hL]at h1
  have h2:=ik h1
  have h3:y.data.toList.length=y.size:=Array.length_toList
  have h4:=cW.out
  have h5:(bL t).length=t.data.toList.length:=rfl
  exact⟨by omega,pc h1⟩)
 have bU:=Lib.hid (show df s (bL t)=cV s (aI L) 0 []by rw[hr.out,hL];rfl)
 have hw:=Lib.hid (aa hv.out fn)
 have k3:=Lib.hid ((kI.out.below hv.out).below fn)
 have k1:=Lib.hid hO
 obtain⟨M,hM⟩:∃M,L.length=M+1:=⟨L.length-1,by omega⟩
 have dB:=Lib.hid hM
 have n3:IntKind.i64.wrap ((L.length:Int)-1)=(M:Int):=by rw[show(L.length:Int)-1=(M:Int)by omega];exact IntWalk.i64_in _ (by omega)
 clear hO hL cv fn hM
 go_wp2_with fail
 go_loopw [8,9,10,11,12,13,14,15,16] (fun lV iV _ _ _ _ _ _ _ wr=>yw s L w1 lV iV wr) (fun _ iV _ _ _ _ _ _ _ _=>L.length-(intOf iV).toNat)
 case atStart=>exact⟨0,[],rfl,kU,rfl, .inl ⟨rfl,rfl⟩, .refl _ _,Gd.nil lp.out⟩
 case round=>
  obtain⟨i,acc,rfl,hi,hp,hP,hB,hG⟩:=hrel
  obtain⟨la,lc,lb,cu⟩:=hP.ent
  subst lb
  have hE:=cu.le
  have b6:=hG.len
  have e0:=k1.out.call hB
  have qx:=(iC e0 i hi).1
  obtain⟨x,hx⟩:∃x,L[i]=x:=⟨_,rfl⟩
  have ls:=hF.out x (by rw[←hx];exact List.getElem_mem _)
  have dx:=iS (L:=L) hi
  rw[hx]at qx dx
  obtain⟨n6,c0⟩:=ls
  have hQ:=Lib.hid hP
  have E:=Lib.hid hB
  have kP:=Lib.hid hG
  have ed:=Lib.hid cu
  have c6:=Lib.hid c0
  have nx:(i:Int)<(L.length:Int):=by omega
  have mm:(0:Int)≤(i:Int):=by omega
  obtain⟨N,hN⟩:∃N,acc.length=N:=⟨_,rfl⟩
  have m:=Lib.hid hN
  have aN:=Lib.hid (aa hw.out hB)
  rw[hN]at b6 hE
  by_cases nV:i<M
  ·have k7:(i:Int)<(M:Int):=by omega
   have bf:=FR (s:=s) (L:=aI L) (i:=i) (acc:=acc) (by rw[g9,dB.out];omega)
   rw[dx]at bf
   have bb:=Lib.hid (fun(h:bK s acc (bL x)=none)=>(show df s (bL t)=([],i,2)by rw[bU.out,←hp,bf,h]))
   have d4:=Lib.hid (fun(cr:List Ent) (lV:Value) (W:World) (h:bK s acc (bL x)=some cr) (k2:PS W w1.heap.size lV cr) (kL:Below w1.heap.size w1 W)=>
    (show yw s L w1 lV (.int .i64 ((i:Int)+1)) W from⟨i+1,cr,by simp,by have:=dB.out;omega,by rw[←hp,bf,h],k2,kL,(rG hG h).1⟩))
   clear hp bf dx hx hP hB hG cu e0 c0 hN
   rw[m.out]
   by_cases aO:6≤x.size∧(bL x).take 6=entW6
   ·obtain⟨h6,f6⟩:=aO
    have i3:((x.extract 0 6).toList==([101,110,116,114,121,32]:List UInt8))=true:=ly (by show(x.extract 0 6).data.toList=_;rw[kq,List.drop_zero];exact f6)
    have g6:((6:Int)≤(x.size:Int))=True:=eq_true (by omega)
    have hl:decide (6≤x.size)=true:=decide_eq_true h6
    have vr:=Lib.hid (GY sa sc s x (by omega) wr (k3.out.below E.out))
    have aO:=Lib.hid (CN f6)
    have Y:=Lib.hid (show PS wr w1.heap.size (.slice la N lc) acc by rw[←m.out];exact hQ.out)
    clear f6 h6
    by_cases o:acc=[]
    ·have cx:N=0:=by rw[←m.out,o];rfl
     subst cx
     go_wp2_with fail
     refine vr.out.mono ?_
     rintro e w2 hh
     obtain⟨nm,bn,n1,n2,a1,a2,c1,c2,is,rfl,u,hn,hy⟩:=yy hh
     obtain⟨W3,ba⟩:∃W3,w2.alloc (.cells #[.string nm, .string bn, .slice a1 n1 c1, .slice a2 n2 c2, .slice none 0 0] 46)=W3:=⟨_,rfl⟩
     have I:Below w2.heap.size w2 W3:=by rw[←ba];exact an w2 _
     have r3:W3.heap[w2.heap.size]?=some (.cells #[.string nm, .string bn, .slice a1 n1 c1, .slice a2 n2 c2, .slice none 0 0] 46 (0,0)):=by rw[←ba];exact heap_alloc_new w2 _
     obtain⟨⟨y0,y1,y2,y3,y4⟩,-⟩:=dN r3
     have B:=Lib.hid (aa u I)
     have O:=Lib.hid I
     have Z:=Lib.hid (aa aN.out (aa u I))
     have ax:=Lib.hid ba
     dsimp only[entV]
     clear hh u I r3 ba
     cases is with
     |false=>
      have l:=Lib.hid (bb.out (yc aO.out (hn rfl)))
      go_wp2_with fail
      all_goals(try rw[ax.out])
      all_goals go_ret3
      all_goals exact et l.out Z.out
     |true=>
      obtain⟨C,D,hd,rfl,rfl,hI,hU⟩:=hy rfl
      have bW:=Lib.hid (show(af (nm,bn,C,D,([]:List Stp))).size≤aB∧(aC (nm,bn,C,D,([]:List Stp))).size≤aB by
       have h2:=qE s (nm,bn,C,D,[])
       rw[(jF hd).2.1]at h2
       have h3:(bL x).length=x.size:=Array.length_toList
       unfold aB
       omega)
      have dy:=Lib.hid hI
      have dO:=Lib.hid hU
      have vI:=rC la lc acc nm W3 (ed.out.below B.out)
      rw[m.out]at vI
      clear hn hy hI hU
      cases G:aG acc nm with
      |some j=>
       rw[qN G]at vI
       have b2:=Lib.hid vI
       have l:=Lib.hid (bb.out (oD hd (.inr (.inl ⟨j,G⟩))))
       have k8:(0:Int)≤(j:Int):=by omega
       clear vI G hd
       go_wp2_with fail
       all_goals(try rw[ax.out])
       refine b2.out.mono ?_
       rintro e w4 ⟨rfl,rfl⟩
       go_wp2_with fail
       all_goals go_ret3
       all_goals exact et l.out Z.out
      |none=>
       rw[qM G]at vI
       have b2:=Lib.hid vI
       clear vI
       go_wp2_with fail
       all_goals(try rw[ax.out])
       refine b2.out.mono ?_
       rintro e w4 ⟨rfl,rfl⟩
       have ag:¬(0:Nat)=60:=by decide
       have bw:de acc=false:=by rw[o];rfl
       have J:∀b,wr.heap.size≤b→bZ (fun b=>w1.heap.size≤b) (.slice la 0 lc) b:=fun b hb=>⟨Nat.le_trans E.out.size hb,fun e=>Nat.lt_irrefl _ (Nat.lt_of_lt_of_le (Y.out.lt b e.symm).2 hb)⟩
       have H:w1.heap.size≤W3.heap.size:=Nat.le_trans E.out.size B.out.size
       have ao:acc.length<60:=by rw[m.out];exact Nat.lt_of_le_of_ne b6 ag
       obtain⟨v',w6,al,av,bv⟩:=(Y.out.below B.out).push (P:=Tryz.prog) (t:=24) (ty:=24) Tryz.underlying24 lF rfl (x:=(nm,bn,C,D,[])) bW.out.1 bW.out.2 ((dy.out.below O.out).weak J) ((dO.out.below O.out).weak J) rfl (rR ao (by decide)) (rQ ao) H
       obtain⟨a',c',ac,-⟩:=av.ent
       rw[List.length_append,List.length_singleton,m.out]at ac
       have bN:(Builtin.append_ #[24,24] 24 #[.slice la 0 lc, .slice (some ⟨W3.heap.size,0,none⟩) 1 1]).run Tryz.prog (W3.alloc (.cells #[.string nm, .string bn, .slice a1 C.length c1, .slice a2 D.length c2, .slice none 0 0] 46))= .ok (.slice a' (0+1) c') w6:=by
        rw[←ac];exact al
       have l:=Lib.hid (d4.out _ _ w6 (rH hd bw G (by rw[m.out];exact ag)) av ((E.out.trans (B.out.mono E.out.size)).grown bv H (fun k e=>(Y.out.lt k e).1)))
       rw[ac]at l
       clear al av bv ac J H G bw ag
       go_wp2_with (at_builtin;refine bo rfl _ _ _ rfl rfl rfl bN ?_)
       all_goals go_roundw
       all_goals first|exact l.out|(simp[intOf];done)|(simp[intOf];omega)
    obtain⟨A,y,pv,j1,gl,ec,bu,du,ap,cp,q,h0,ab,cc,d1,c3,cN,c4,f4,ce,bx⟩:=rA Y.out o
    have bp:N=A.length+1:=by rw[←m.out,q];simp
    obtain⟨k,hk⟩:∃k,A.length=k:=⟨_,rfl⟩
    rw[hk]at bp c3 c4 f4 ab
    subst bp
    injection ab with e1 e2 e3
    subst e1 e3
    obtain⟨nu,aR⟩:∃n,(ae y).length=n:=⟨_,rfl⟩
    obtain⟨np,aP⟩:∃n,(ai y).length=n:=⟨_,rfl⟩
    rw[aR]at c3 bx
    rw[aP]at c4
    have aT:=Lib.hid (show de acc=(decide (nu≠0)&&decide (np=0))by
     rw[q,ou,←aR,←aP]
     congr 1
     ·rw[decide_eq_decide,ne_eq,ne_eq,List.length_eq_zero_iff]
     rw[decide_eq_decide,List.length_eq_zero_iff])
    have i5:IntKind.i64.wrap (k:Int)=(k:Int):=IntWalk.i64_in _ (by omega)
    have h8:(0:Int)≤(k:Int):=by omega
    have ib:(k:Int)<(k:Int)+1:=by omega
    have cb:=Lib.hid c3
    have ct:=Lib.hid c4
    clear h0 cN ce f4 q o hk aR aP e2 cc c3 c4
    go_wp2_with fail
    refine vr.out.mono ?_
    rintro e w2 hh
    obtain⟨nm,bn,n1,n2,a1,a2,c1,c2,is,rfl,u,hn,hy⟩:=yy hh
    obtain⟨W3,ba⟩:∃W3,w2.alloc (.cells #[.string nm, .string bn, .slice a1 n1 c1, .slice a2 n2 c2, .slice none 0 0] 46)=W3:=⟨_,rfl⟩
    have I:Below w2.heap.size w2 W3:=by rw[←ba];exact an w2 _
    have r3:W3.heap[w2.heap.size]?=some (.cells #[.string nm, .string bn, .slice a1 n1 c1, .slice a2 n2 c2, .slice none 0 0] 46 (0,0)):=by rw[←ba];exact heap_alloc_new w2 _
    obtain⟨⟨y0,y1,y2,y3,y4⟩,-⟩:=dN r3
    have B:=Lib.hid (aa u I)
    have O:=Lib.hid I
    have Z:=Lib.hid (aa aN.out (aa u I))
    have ax:=Lib.hid ba
    have mU:=cell_later (aa u I) cb.out
    have m0:=cell_later (aa u I) ct.out
    dsimp only[entV]
    clear hh u I r3 ba
    cases is with
    |false=>
     have l:=Lib.hid (bb.out (yc aO.out (hn rfl)))
     go_wp2_with fail
     all_goals(try rw[ax.out])
     all_goals go_ret3
     all_goals exact et l.out Z.out
    |true=>
     obtain⟨C,D,hd,rfl,rfl,hI,hU⟩:=hy rfl
     have bW:=Lib.hid (show(af (nm,bn,C,D,([]:List Stp))).size≤aB∧(aC (nm,bn,C,D,([]:List Stp))).size≤aB by
      have h2:=qE s (nm,bn,C,D,[])
      rw[(jF hd).2.1]at h2
      have h3:(bL x).length=x.size:=Array.length_toList
      unfold aB
      omega)
     have dy:=Lib.hid hI
     have dO:=Lib.hid hU
     have vI:=rC (some ⟨gl,0,none⟩) lc acc nm W3 (ed.out.below B.out)
     rw[m.out]at vI
     clear hn hy hI hU
     cases G:aG acc nm with
     |some j=>
      rw[qN G]at vI
      have b2:=Lib.hid vI
      have l:=Lib.hid (bb.out (oD hd (.inr (.inl ⟨j,G⟩))))
      have k8:(0:Int)≤(j:Int):=by omega
      clear vI G hd
      go_wp2_with fail
      all_goals(try rw[ax.out])
      refine b2.out.mono ?_
      rintro e w4 ⟨rfl,rfl⟩
      go_wp2_with fail
      all_goals go_ret3
      all_goals exact et l.out Z.out
     |none=>
      rw[qM G]at vI
      have b2:=Lib.hid vI
      clear vI
      go_wp2_with fail
      all_goals(try rw[ax.out])
      refine b2.out.mono ?_
      rintro e w4 ⟨rfl,rfl⟩
      by_cases ag:k+1=60
      ·have kw:((k:Int)+1==60)=true:=by rw[beq_iff_eq];omega
       have l:=Lib.hid (bb.out (oD hd (.inr (.inr (by rw[m.out];exact ag)))))
       clear G hd ag
       go_wp2_with fail
       all_goals go_ret3
       all_goals exact et l.out Z.out
      have kw:((k:Int)+1==60)=false:=by rw[beq_eq_false_iff_ne];omega
      cases nu with
      |zero=>
       have bw:de acc=false:=by rw[aT.out];rfl
       have J:∀b,wr.heap.size≤b→bZ (fun b=>w1.heap.size≤b) (.slice (some ⟨gl,0,none⟩) (k+1) lc) b:=fun b hb=>⟨Nat.le_trans E.out.size hb,fun e=>Nat.lt_irrefl _ (Nat.lt_of_lt_of_le (Y.out.lt b e.symm).2 hb)⟩
       have H:w1.heap.size≤W3.heap.size:=Nat.le_trans E.out.size B.out.size
       have ao:acc.length<60:=by rw[m.out];exact Nat.lt_of_le_of_ne b6 ag
       obtain⟨v',w6,al,av,bv⟩:=(Y.out.below B.out).push (P:=Tryz.prog) (t:=24) (ty:=24) Tryz.underlying24 lF rfl (x:=(nm,bn,C,D,[])) bW.out.1 bW.out.2 ((dy.out.below O.out).weak J) ((dO.out.below O.out).weak J) rfl (rR ao (by decide)) (rQ ao) H
       obtain⟨a',c',ac,-⟩:=av.ent
       rw[List.length_append,List.length_singleton,m.out]at ac
       have bN:(Builtin.append_ #[24,24] 24 #[.slice (some ⟨gl,0,none⟩) (k+1) lc, .slice (some ⟨W3.heap.size,0,none⟩) 1 1]).run Tryz.prog (W3.alloc (.cells #[.string nm, .string bn, .slice a1 C.length c1, .slice a2 D.length c2, .slice none 0 0] 46))= .ok (.slice a' (k+1+1) c') w6:=by
        rw[←ac];exact al
       have l:=Lib.hid (d4.out _ _ w6 (rH hd bw G (by rw[m.out];exact ag)) av ((E.out.trans (B.out.mono E.out.size)).grown bv H (fun k e=>(Y.out.lt k e).1)))
       rw[ac]at l
       clear al av bv ac J H G bw ag
       go_wp2_with (at_builtin;refine bo rfl _ _ _ rfl rfl rfl bN ?_)
       all_goals go_roundw
       all_goals first|exact l.out|(simp[intOf];done)|(simp[intOf];omega)
      |succ nu=>
       have gu:((0:Int)<(nu:Int)+1)=True:=eq_true (by omega)
       cases np with
       |zero=>
        have l:=Lib.hid (bb.out (oD hd (.inl (by rw[aT.out];simp))))
        clear G hd ag
        go_wp2_with fail
        all_goals go_ret3
        all_goals exact et l.out Z.out
       |succ np=>
        have bw:de acc=false:=by rw[aT.out];simp
        have gp:(((np:Int)+1)==0)=false:=mg np
        have J:∀b,wr.heap.size≤b→bZ (fun b=>w1.heap.size≤b) (.slice (some ⟨gl,0,none⟩) (k+1) lc) b:=fun b hb=>⟨Nat.le_trans E.out.size hb,fun e=>Nat.lt_irrefl _ (Nat.lt_of_lt_of_le (Y.out.lt b e.symm).2 hb)⟩
        have H:w1.heap.size≤W3.heap.size:=Nat.le_trans E.out.size B.out.size
        have ao:acc.length<60:=by rw[m.out];exact Nat.lt_of_le_of_ne b6 ag
        obtain⟨v',w6,al,av,bv⟩:=(Y.out.below B.out).push (P:=Tryz.prog) (t:=24) (ty:=24) Tryz.underlying24 lF rfl (x:=(nm,bn,C,D,[])) bW.out.1 bW.out.2 ((dy.out.below O.out).weak J) ((dO.out.below O.out).weak J) rfl (rR ao (by decide)) (rQ ao) H
        obtain⟨a',c',ac,-⟩:=av.ent
        rw[List.length_append,List.length_singleton,m.out]at ac
        have bN:(Builtin.append_ #[24,24] 24 #[.slice (some ⟨gl,0,none⟩) (k+1) lc, .slice (some ⟨W3.heap.size,0,none⟩) 1 1]).run Tryz.prog (W3.alloc (.cells #[.string nm, .string bn, .slice a1 C.length c1, .slice a2 D.length c2, .slice none 0 0] 46))= .ok (.slice a' (k+1+1) c') w6:=by
         rw[←ac];exact al
        have l:=Lib.hid (d4.out _ _ w6 (rH hd bw G (by rw[m.out];exact ag)) av ((E.out.trans (B.out.mono E.out.size)).grown bv H (fun k e=>(Y.out.lt k e).1)))
        rw[ac]at l
        clear al av bv ac J H G bw ag
        go_wp2_with (at_builtin;refine bo rfl _ _ _ rfl rfl rfl bN ?_)
        all_goals go_roundw
        all_goals first|exact l.out|(simp[intOf];done)|(simp[intOf];omega)
   have hd:bX s (bL x)=none:=DE (fun e=>aO ⟨by
    have h1:=congrArg List.length e
    have h2:(bL x).length=x.size:=Array.length_toList
    rw[List.length_take,h2]at h1
    have h3:entW6.length=6:=rfl
    omega,e⟩)
   have hV:=Lib.hid hd
   have fV:=Lib.hid aO
   have Y:=Lib.hid (show PS wr w1.heap.size (.slice la N lc) acc by rw[←m.out];exact hQ.out)
   have vP:=xZ (x++⟨#[10]⟩) wr
   rw[mZ,show x.data.toList=bL x from rfl,show(#[10]:Array UInt8).toList=[10]from rfl,FW c6.out (by show(bL x).length≤65000;rw[show(bL x).length=x.size from Array.length_toList];omega)]at vP
   have mc:¬9223372036854775807<x.size+1:=by omega
   have db:=Lib.hid vP
   clear hd aO vP
   go_upto_region 11 with fail
   go_cut [49]from 26 to 174 (fun c wx=>c= .bool false∧wr=wx)
   case first=>
    by_cases h6:6≤x.size
    ·have i3:((x.extract 0 6).toList==([101,110,116,114,121,32]:List UInt8))=false:=lD (by show¬(x.extract 0 6).data.toList=_;rw[kq,List.drop_zero];exact fun e=>fV.out ⟨h6,e⟩)
     have g6:((6:Int)≤(x.size:Int))=True:=eq_true (by omega)
     have hl:decide (6≤x.size)=true:=decide_eq_true h6
     go_wp2_with fail
     all_goals go_meet
     all_goals exact⟨rfl,rfl⟩
    have g6:((6:Int)≤(x.size:Int))=False:=eq_false (by omega)
    have hl:decide (6≤x.size)=false:=decide_eq_false h6
    go_wp2_with fail
    all_goals go_meet
    all_goals exact⟨rfl,rfl⟩
   case rest=>
    obtain⟨rfl,rfl⟩:=hcut
    obtain⟨xr,f7⟩:∃r,bF (bL x)=r:=⟨_,rfl⟩
    rw[f7]at db
    obtain⟨⟨P1,n1,e1⟩,e9⟩:∃R:List Stp×Nat×Int,(if aY 60 0 xr=true then(([xr],0,0):List Stp×Nat×Int)else([],0,2))=R:=⟨_,rfl⟩
    rw[e9]at db
    have ef:=Lib.hid e9
    have c7:=Lib.hid f7
    clear e9 f7
    by_cases o:acc=[]
    ·have cx:N=0:=by rw[←m.out,o];rfl
     subst cx
     have l:=Lib.hid (bb.out (by rw[o];exact ye hV.out))
     go_wp2_with fail
     refine db.out.mono ?_
     rintro e w2 ⟨v2,rfl,cd,u⟩
     obtain⟨a2,c2,rfl,ca⟩:=OwnSt.steps cd
     go_wp2_with fail
     all_goals go_ret3
     all_goals exact et l.out (aa aN.out u)
    obtain⟨A,y,pv,j1,gl,ec,bu,du,ap,cp,q,h0,ab,cc,d1,c3,cN,c4,f4,ce,bx⟩:=rA Y.out o
    have bp:N=A.length+1:=by rw[←m.out,q];simp
    have cF:(ai y).length≤60:=kP.out.pf y (by rw[q];simp)
    obtain⟨k,hk⟩:∃k,A.length=k:=⟨_,rfl⟩
    have k9:=Lib.hid hk
    have ih:=Lib.hid ab
    rw[hk]at bp c3 c4 f4 ab
    subst bp
    injection ab with e1 e2 e3
    subst e1 e3
    have f3:=Lib.hid (show bK s acc (bL x)=if ae y≠ []∧bk (ae y).length (ai y++[bF (bL x)])=true then some (A++[dm y (ai y++[bF (bL x)])])else none by rw[q];exact Gw hV.out)
    obtain⟨nu,aR⟩:∃n,(ae y).length=n:=⟨_,rfl⟩
    obtain⟨np,aP⟩:∃n,(ai y).length=n:=⟨_,rfl⟩
    have b7:=Lib.hid aR
    have T:=Lib.hid aP
    rw[aR]at c3 bx
    rw[aP]at c4 cF
    have i5:IntKind.i64.wrap (k:Int)=(k:Int):=yv k (by omega)
    have h8:(0:Int)≤(k:Int):=by omega
    have ib:(k:Int)<(k:Int)+1:=by omega
    have kH:=Lib.hid h0
    have i2:=Lib.hid ce
    have cb:=Lib.hid c3
    have ct:=Lib.hid c4
    have kv:=Lib.hid f4
    have k4:=Lib.hid q
    have hY:=Lib.hid d1
    have hX:=Lib.hid cc
    have lA:=Lib.hid qx
    clear h0 cN ce f4 q o hk aR aP e2 cc d1 c3 c4
    cases nu with
    |zero=>
     have l:=Lib.hid (bb.out (by rw[f3.out,if_neg (fun e=>e.1 (List.length_eq_zero_iff.1 b7.out))]))
     go_wp2_with fail
     refine db.out.mono ?_
     rintro e w2 ⟨v2,rfl,cd,u⟩
     obtain⟨a2,c2,rfl,ca⟩:=OwnSt.steps cd
     have kd:=cell_later u cb.out
     go_wp2_with fail
     all_goals go_ret3
     all_goals exact et l.out (aa aN.out u)
    |succ nu=>
     have lm:(((nu:Int)+1)==0)=false:=mg nu
     obtain⟨pb,i0⟩:∃b,bk (((nu+1:Nat)):Int) (ai y++[xr])=b:=⟨_,rfl⟩
     have b8:=Lib.hid i0
     have cB:=Lib.hid (fun(h:pb=false)=>bb.out (by rw[f3.out,c7.out,b7.out,b8.out,h,if_neg (fun e=>by cases e.2)]))
     have f8:=Lib.hid (fun(h:pb=true)=>(show bK s acc (bL x)=some (A++[dm y (ai y++[xr])])by rw[f3.out,c7.out,b7.out,b8.out,h,if_pos ⟨(fun e=>by have h9:=b7.out;rw[e]at h9;cases h9),rfl⟩]))
     clear i0
     go_wp2_with fail
     refine db.out.mono ?_
     rintro e w2 ⟨v2,rfl,cd,u⟩
     obtain⟨a2,c2,rfl,ca⟩:=OwnSt.steps cd
     have kd:=cell_later u cb.out
     have kl:=cell_later u ct.out
     have lB:=cell_later u lA.out
     have a0:=Lib.hid u
     have f5:=Lib.hid ca
     obtain⟨pd,bf⟩:∃p,ah (ep (min np 59))=p:=⟨_,rfl⟩
     have dn:=GX np (GV np cF)
     rw[bf]at dn
     have mp:pd.size≤500:=by rw[←bf,cX,rr];omega
     have k5:¬9223372036854775807<pd.size+x.size:=by omega
     have k6:¬9223372036854775807<pd.size+x.size+1:=by omega
     have d5:=xZ ((pd++x)++⟨#[10]⟩)
     rw[show((pd++x)++⟨#[10]⟩:ByteArray).data.toList=ep (min np 59)++(bL x++[10])by
      rw[←bf,mZ,ByteArray.data_append,Array.toList_append,List.append_assoc];rfl,
      xN c6.out (Nat.min_le_right _ _) (by rw[show(bL x).length=x.size from Array.length_toList];omega),c7.out]at d5
     obtain⟨⟨P2,n2,e2⟩,fa⟩:∃R:List Stp×Nat×Int,(if aY 60 (min np 59) xr=true then((List.replicate (min np 59) (1,0,0)++[xr],0,0):List Stp×Nat×Int)else([],min np 59,2))=R:=⟨_,rfl⟩
     rw[fa]at d5
     have fr:=Lib.hid (fun(h:¬aY 60 (min np 59) xr=true)=>(show pb=false by rw[←b8.out];exact Gq (by rw[T.out];exact h)))
     have eg:=Lib.hid fa
     have gk:=Lib.hid dn
     have jv:=Lib.hid d5
     clear fa dn d5 bf cd ca u
     go_upto_if 123 with fail
     go_cut [13,15]from 26 to 174 (fun lQ lR wx=>∃(a':Option Addr) (c':Nat) (P':List Stp) (ev:Int),lQ= .slice a' P'.length c'∧lR= .int .i64 ev∧Steps (fun b=>w1.heap.size≤b) wx a' c' P'∧Below w2.heap.size w2 wx∧((ev=0∧fP xr∧∃Q,P'=Q++[xr])∨(ev≠0∧pb=false)))
     case first=>
      by_cases cP:aY 60 0 xr=true
      ·have hq:=ef.out
       rw[if_pos cP]at hq
       injection hq with q1 q2
       injection q2 with q2 q3
       subst q1 q2 q3
       have d3:=Lib.hid (jp cP (by decide))
       clear cP
       go_wp2_with fail
       all_goals go_meet
       all_goals exact⟨a2,c2,[xr],0,rfl,rfl,f5.out.weak (fun b hb=>Nat.le_trans E.out.size hb), .refl _ _, .inl ⟨rfl,d3.out,[],rfl⟩⟩
      have hq:=ef.out
      rw[if_neg cP]at hq
      injection hq with q1 q2
      injection q2 with q2 q3
      subst q1 q2 q3
      clear cP
      go_wp2_with fail
      refine wp_region_held_drew (S:=fun w'=>w'.cell? ⟨gl,k*5+4,none⟩=some (.slice ap np cp)∧w'.cell? ⟨g,i,none⟩=some (.string x)) (by as_aux_lemma=>kernel_rfl) ⟨cell_later (Below.drew (.refl _ _)) kl,cell_later (Below.drew (.refl _ _)) lB⟩ (fun hS=> ?_)
      refine cK 0 (some 125) (v:= ?_) rfl rfl (by as_aux_lemma=>kernel_rfl) (by as_aux_lemma=>kernel_rfl) (by as_aux_lemma=>kernel_rfl) (fun _ _ _ h=>h) rfl ?_ hS ?_
      rotate_left
      ·(intro U f;obtain⟨V,X⟩:=f;go_simp;try(with_reducible rfl))
      simp only[Act.put,List.setIfInBounds_toArray,List.set_cons_zero,List.set_cons_succ]
      refine cK 1 (some 126) (v:= ?_) rfl rfl (by as_aux_lemma=>kernel_rfl) (by as_aux_lemma=>kernel_rfl) (by as_aux_lemma=>kernel_rfl) (fun _ _ _ h=>h) rfl ?_ hS ?_
      rotate_left
      ·(intro U f;obtain⟨V,X⟩:=f;go_simp;try(with_reducible rfl))
      simp only[Act.put,List.setIfInBounds_toArray,List.set_cons_zero,List.set_cons_succ]
      refine cK 2 (some 127) (v:= ?_) rfl rfl (by as_aux_lemma=>kernel_rfl) (by as_aux_lemma=>kernel_rfl) (by as_aux_lemma=>kernel_rfl) (fun _ _ _ h=>h) rfl ?_ hS ?_
      rotate_left
      ·(intro U f;obtain⟨V,X⟩:=f;go_simp;try(with_reducible rfl))
      simp only[Act.put,List.setIfInBounds_toArray,List.set_cons_zero,List.set_cons_succ]
      refine cK 3 (some 128) (v:= ?_) rfl rfl (by as_aux_lemma=>kernel_rfl) (by as_aux_lemma=>kernel_rfl) (by as_aux_lemma=>kernel_rfl) (fun _ _ _ h=>h) rfl ?_ hS ?_
      rotate_left
      ·(intro U f;obtain⟨V,X⟩:=f;go_simp;try(with_reducible rfl))
      simp only[Act.put,List.setIfInBounds_toArray,List.set_cons_zero,List.set_cons_succ]
      refine cK 4 (some 129) (v:= ?_) rfl rfl (by as_aux_lemma=>kernel_rfl) (by as_aux_lemma=>kernel_rfl) (by as_aux_lemma=>kernel_rfl) (fun _ _ _ h=>h) rfl ?_ hS ?_
      rotate_left
      ·(intro U f;obtain⟨V,X⟩:=f;go_simp;try(with_reducible rfl))
      simp only[Act.put,List.setIfInBounds_toArray,List.set_cons_zero,List.set_cons_succ]
      refine cK 5 (some 130) (v:= ?_) rfl rfl (by as_aux_lemma=>kernel_rfl) (by as_aux_lemma=>kernel_rfl) (by as_aux_lemma=>kernel_rfl) (fun _ _ _ h=>h) rfl ?_ hS ?_
      rotate_left
      ·(intro U f;obtain⟨V,X⟩:=f;go_simp;try(with_reducible rfl))
      simp only[Act.put,List.setIfInBounds_toArray,List.set_cons_zero,List.set_cons_succ]
      refine cK 7 (some 132) (v:= ?_) rfl rfl (by as_aux_lemma=>kernel_rfl) (by as_aux_lemma=>kernel_rfl) (by as_aux_lemma=>kernel_rfl) (fun _ _ _ h=>h) rfl ?_ hS ?_
      rotate_left
      ·(intro U f;obtain⟨V,X⟩:=f;go_simp;try(with_reducible rfl))
      simp only[Act.put,List.setIfInBounds_toArray,List.set_cons_zero,List.set_cons_succ]
      refine cK 8 (some 133) (v:= ?_) rfl rfl (by as_aux_lemma=>kernel_rfl) (by as_aux_lemma=>kernel_rfl) (by as_aux_lemma=>kernel_rfl) (fun _ _ _ h=>h) rfl ?_ hS ?_
      rotate_left
      ·(intro U f;obtain⟨V,X⟩:=f;go_simp;try(with_reducible rfl))
      simp only[Act.put,List.setIfInBounds_toArray,List.set_cons_zero,List.set_cons_succ]
      refine cK 9 (some 134) (v:= ?_) rfl rfl (by as_aux_lemma=>kernel_rfl) (by as_aux_lemma=>kernel_rfl) (by as_aux_lemma=>kernel_rfl) (fun _ _ _ h=>h) rfl ?_ hS ?_
      rotate_left
      ·(intro U f;obtain⟨V,X⟩:=f;go_simp;try(with_reducible rfl))
      simp only[Act.put,List.setIfInBounds_toArray,List.set_cons_zero,List.set_cons_succ]
      refine cK 10 (some 135) (v:= ?_) rfl rfl (by as_aux_lemma=>kernel_rfl) (by as_aux_lemma=>kernel_rfl) (by as_aux_lemma=>kernel_rfl) (fun _ _ _ h=>h) rfl ?_ hS ?_
      rotate_left
      ·(intro U f;obtain⟨V,X⟩:=f;go_simp;try(with_reducible rfl))
      simp only[Act.put,List.setIfInBounds_toArray,List.set_cons_zero,List.set_cons_succ]
      refine bI 6 rfl (by as_aux_lemma=>kernel_rfl) (fun K F=> ?_)
      go_simp
      (with_reducible refine(gk.out _).mono ?_)
      rintro e w5 ⟨rfl,rfl⟩
      go_simp
      refine F.out _ _ hS ?_
      clear F hS K
      intro hS
      try simp only[Act.put,List.setIfInBounds_toArray,List.set_cons_zero,List.set_cons_succ]
      refine cK 11 (some 136) (v:= ?_) rfl rfl (by as_aux_lemma=>kernel_rfl) (by as_aux_lemma=>kernel_rfl) (by as_aux_lemma=>kernel_rfl) (fun _ _ _ h=>h) rfl ?_ hS ?_
      rotate_left
      ·(intro U f;obtain⟨V,X⟩:=f;go_simp;try(with_reducible rfl))
      simp only[Act.put,List.setIfInBounds_toArray,List.set_cons_zero,List.set_cons_succ]
      refine cK 12 (some 137) (v:= ?_) rfl rfl (by as_aux_lemma=>kernel_rfl) (by as_aux_lemma=>kernel_rfl) (by as_aux_lemma=>kernel_rfl) (fun _ _ _ h=>h) rfl ?_ hS ?_
      rotate_left
      ·(intro U f;obtain⟨V,X⟩:=f;go_simp;try(with_reducible rfl))
      simp only[Act.put,List.setIfInBounds_toArray,List.set_cons_zero,List.set_cons_succ]
      refine bI 13 rfl (by as_aux_lemma=>kernel_rfl) (fun K F=> ?_)
      go_simp
      (with_reducible refine(jv.out _).mono ?_)
      rintro e w5 ⟨v5,rfl,ln,aL⟩
      obtain⟨a5,c5,rfl,em⟩:=OwnSt.steps ln
      go_simp
      refine F.out _ _ ⟨cell_later aL hS.1,cell_later aL hS.2⟩ ?_
      clear F hS K
      intro hS
      try simp only[Act.put,List.setIfInBounds_toArray,List.set_cons_zero,List.set_cons_succ]
      refine cK 14 (some 124) (v:= ?_) rfl rfl (by as_aux_lemma=>kernel_rfl) (by as_aux_lemma=>kernel_rfl) (by as_aux_lemma=>kernel_rfl) (fun _ _ _ h=>h) rfl ?_ hS ?_
      rotate_left
      ·(intro U f;obtain⟨V,X⟩:=f;go_simp;try(with_reducible rfl))
      simp only[Act.put,List.setIfInBounds_toArray,List.set_cons_zero,List.set_cons_succ]
      refine cK 15 (some 139) (v:= ?_) rfl rfl (by as_aux_lemma=>kernel_rfl) (by as_aux_lemma=>kernel_rfl) (by as_aux_lemma=>kernel_rfl) (fun _ _ _ h=>h) rfl ?_ hS ?_
      rotate_left
      ·(intro U f;obtain⟨V,X⟩:=f;go_simp;try(with_reducible rfl))
      simp only[Act.put,List.setIfInBounds_toArray,List.set_cons_zero,List.set_cons_succ]
      refine cK 16 (some 140) (v:= ?_) rfl rfl (by as_aux_lemma=>kernel_rfl) (by as_aux_lemma=>kernel_rfl) (by as_aux_lemma=>kernel_rfl) (fun _ _ _ h=>h) rfl ?_ hS ?_
      rotate_left
      ·(intro U f;obtain⟨V,X⟩:=f;go_simp;try(with_reducible rfl))
      simp only[Act.put,List.setIfInBounds_toArray,List.set_cons_zero,List.set_cons_succ]
      refine cK 17 (some 141) (v:= ?_) rfl rfl (by as_aux_lemma=>kernel_rfl) (by as_aux_lemma=>kernel_rfl) (by as_aux_lemma=>kernel_rfl) (fun _ _ _ h=>h) rfl ?_ hS ?_
      rotate_left
      ·(intro U f;obtain⟨V,X⟩:=f;go_simp;try(with_reducible rfl))
      simp only[Act.put,List.setIfInBounds_toArray,List.set_cons_zero,List.set_cons_succ]
      refine cK 18 (some 13) (v:= ?_) rfl rfl (by as_aux_lemma=>kernel_rfl) (by as_aux_lemma=>kernel_rfl) (by as_aux_lemma=>kernel_rfl) (fun _ _ _ h=>h) rfl ?_ hS ?_
      rotate_left
      ·(intro U f;obtain⟨V,X⟩:=f;go_simp;try(with_reducible rfl))
      simp only[Act.put,List.setIfInBounds_toArray,List.set_cons_zero,List.set_cons_succ]
      refine cK 19 (some 15) (v:= ?_) rfl rfl (by as_aux_lemma=>kernel_rfl) (by as_aux_lemma=>kernel_rfl) (by as_aux_lemma=>kernel_rfl) (fun _ _ _ h=>h) rfl ?_ hS ?_
      rotate_left
      ·(intro U f;obtain⟨V,X⟩:=f;go_simp;try(with_reducible rfl))
      simp only[Act.put,List.setIfInBounds_toArray,List.set_cons_zero,List.set_cons_succ]
      refine wpAnyH_done (by as_aux_lemma=>kernel_rfl) ?_ _
      clear hS
      go_wp2_with fail
      all_goals go_meet
      all_goals(
       by_cases bU:aY 60 (min np 59) xr=true
       ·have hq:=eg.out
        rw[if_pos bU]at hq
        injection hq with q1 q2
        injection q2 with q2 q3
        subst q1 q2 q3
        exact⟨a5,c5,_,0,rfl,rfl,em.weak (fun b hb=>Nat.le_trans (Nat.le_trans E.out.size a0.out.size) hb),(Below.drew (.refl _ _)).trans aL, .inl ⟨rfl,jp bU (Nat.le_trans (Nat.min_le_right _ _) (by decide)),_,rfl⟩⟩
       have hq:=eg.out
       rw[if_neg bU]at hq
       injection hq with q1 q2
       injection q2 with q2 q3
       subst q1 q2 q3
       exact⟨a5,c5,_,2,rfl,rfl,em.weak (fun b hb=>Nat.le_trans (Nat.le_trans E.out.size a0.out.size) hb),(Below.drew (.refl _ _)).trans aL, .inr ⟨by decide,fr.out bU⟩⟩)
     case rest=>
      obtain⟨a3,mT,P',ev,rfl,rfl,cU,d0,fz⟩:=hcut
      obtain⟨w3,lq⟩:∃z,z=wc:=⟨_,rfl⟩
      subst lq
      have Z:=Lib.hid (aa aN.out (a0.out.trans (d0.mono a0.out.size)))
      have ay:=Lib.hid (a0.out.trans (d0.mono a0.out.size))
      rcases fz with⟨rfl,d3,Q,rfl⟩|⟨hW,lo⟩
      ·obtain⟨nq,f0⟩:∃n,Q.length=n:=⟨_,rfl⟩
       have e4:(Q++[xr]).length=nq+1:=by rw[List.length_append,List.length_singleton,f0]
       have ee:=cU.le
       rw[e4]at ee
       obtain⟨bq,oq,rfl,-,s0,s1,s2,-⟩:=cU.stp nq (by omega)
       have bl:(Q++[xr])[nq]'(by omega)=xr:=by
        rw[List.getElem_append_right (by omega)];simp[f0]
       rw[bl]at s0 s1 s2
       have ka:=cell_later ay.out cb.out
       have hc:=cell_later ay.out ct.out
       have cy:Below w3.heap.size w3 w3.drew:=(Below.refl _ w3).drew
       have hC:∀w',Below w3.drew.heap.size w3.drew w'→w'.cell? ⟨gl,k*5+4,none⟩=some (.slice ap np cp)∧w'.cell? ⟨bq,oq+nq*3,none⟩=some (.int .i64 xr.1)∧w'.cell? ⟨bq,oq+nq*3+1,none⟩=some (.int .i64 xr.2.1)∧w'.cell? ⟨bq,oq+nq*3+2,none⟩=some (.int .i64 xr.2.2):=
        fun w' hb=>⟨cell_later (cy.trans hb) hc,cell_later (cy.trans hb) s0,cell_later (cy.trans hb) s1,cell_later (cy.trans hb) s2⟩
       obtain⟨eB,eF,eO⟩:=H5 (w:=w3.drew) ((i2.out.below ay.out).below cy) xr d3 (by rw[T.out];omega)
       rw[T.out]at eB eF eO
       have aj:=Lib.hid (show(ai y++[xr]).length=np+1 by rw[List.length_append,List.length_singleton,T.out])
       have aq:=Lib.hid hC
       have hm:=Lib.hid eB
       have ho:=Lib.hid eF
       have hu:=Lib.hid eO
       have n4:IntKind.i64.wrap (nq:Int)=(nq:Int):=IntWalk.i64_in _ (by omega)
       have nW:(0:Int)≤(nq:Int):=by omega
       have n0:(nq:Int)<(nq:Int)+1:=by omega
       have B:=Lib.hid d0
       rw[e4]
       clear cU hC eB eF eO e4 ee bl f0 d3 s0 s1 s2 ka hc d0
       go_upto_region 23 with fail
       go_cut [16]from 26 to 174 (fun lT wx=>∃(a':Option Addr) (c':Nat),lT= .slice a' (np+1) c'∧OwnSt wx w3.heap.size (.slice a' (np+1) c') (ai y++[xr])∧Below w3.heap.size w3 wx)
       case first=>
        refine wp_region_held_drew (S:=fun w'=>w'.cell? ⟨gl,k*5+4,none⟩=some (.slice ap np cp)∧w'.cell? ⟨bq,oq+nq*3,none⟩=some (.int .i64 xr.1)∧w'.cell? ⟨bq,oq+nq*3+1,none⟩=some (.int .i64 xr.2.1)∧w'.cell? ⟨bq,oq+nq*3+2,none⟩=some (.int .i64 xr.2.2)) (by as_aux_lemma=>kernel_rfl) (aq.out _ (.refl _ _)) (fun hS=> ?_)
        refine cK 1 (some 146) (v:= ?_) rfl rfl (by as_aux_lemma=>kernel_rfl) (by as_aux_lemma=>kernel_rfl) (by as_aux_lemma=>kernel_rfl) (fun _ _ _ h=>h) rfl ?_ hS ?_
        rotate_left
        ·(intro U f;obtain⟨V,X,z2,z3⟩:=f;go_simp;try(with_reducible rfl))
        simp only[Act.put,List.setIfInBounds_toArray,List.set_cons_zero,List.set_cons_succ]
        refine cK 2 (some 147) (v:= ?_) rfl rfl (by as_aux_lemma=>kernel_rfl) (by as_aux_lemma=>kernel_rfl) (by as_aux_lemma=>kernel_rfl) (fun _ _ _ h=>h) rfl ?_ hS ?_
        rotate_left
        ·(intro U f;obtain⟨V,X,z2,z3⟩:=f;go_simp;try(with_reducible rfl))
        simp only[Act.put,List.setIfInBounds_toArray,List.set_cons_zero,List.set_cons_succ]
        refine cK 3 (some 148) (v:= ?_) rfl rfl (by as_aux_lemma=>kernel_rfl) (by as_aux_lemma=>kernel_rfl) (by as_aux_lemma=>kernel_rfl) (fun _ _ _ h=>h) rfl ?_ hS ?_
        rotate_left
        ·(intro U f;obtain⟨V,X,z2,z3⟩:=f;go_simp;try(with_reducible rfl))
        simp only[Act.put,List.setIfInBounds_toArray,List.set_cons_zero,List.set_cons_succ]
        refine cK 4 (some 149) (v:= ?_) rfl rfl (by as_aux_lemma=>kernel_rfl) (by as_aux_lemma=>kernel_rfl) (by as_aux_lemma=>kernel_rfl) (fun _ _ _ h=>h) rfl ?_ hS ?_
        rotate_left
        ·(intro U f;obtain⟨V,X,z2,z3⟩:=f;go_simp;try(with_reducible rfl))
        simp only[Act.put,List.setIfInBounds_toArray,List.set_cons_zero,List.set_cons_succ]
        refine cK 5 (some 150) (v:= ?_) rfl rfl (by as_aux_lemma=>kernel_rfl) (by as_aux_lemma=>kernel_rfl) (by as_aux_lemma=>kernel_rfl) (fun _ _ _ h=>h) rfl ?_ hS ?_
        rotate_left
        ·(intro U f;obtain⟨V,X,z2,z3⟩:=f;go_simp;try(with_reducible rfl))
        simp only[Act.put,List.setIfInBounds_toArray,List.set_cons_zero,List.set_cons_succ]
        refine cK 7 (some 152) (v:= ?_) rfl rfl (by as_aux_lemma=>kernel_rfl) (by as_aux_lemma=>kernel_rfl) (by as_aux_lemma=>kernel_rfl) (fun _ _ _ h=>h) rfl ?_ hS ?_
        rotate_left
        ·(intro U f;obtain⟨V,X,z2,z3⟩:=f;go_simp;try(with_reducible rfl))
        simp only[Act.put,List.setIfInBounds_toArray,List.set_cons_zero,List.set_cons_succ]
        refine cK 8 (some 153) (v:= ?_) rfl rfl (by as_aux_lemma=>kernel_rfl) (by as_aux_lemma=>kernel_rfl) (by as_aux_lemma=>kernel_rfl) (fun _ _ _ h=>h) rfl ?_ hS ?_
        rotate_left
        ·(intro U f;obtain⟨V,X,z2,z3⟩:=f;go_simp;try(with_reducible rfl))
        simp only[Act.put,List.setIfInBounds_toArray,List.set_cons_zero,List.set_cons_succ]
        refine cK 9 (some 154) (v:= ?_) rfl rfl (by as_aux_lemma=>kernel_rfl) (by as_aux_lemma=>kernel_rfl) (by as_aux_lemma=>kernel_rfl) (fun _ _ _ h=>h) rfl ?_ hS ?_
        rotate_left
        ·(intro U f;obtain⟨V,X,z2,z3⟩:=f;go_simp;try(with_reducible rfl))
        simp only[Act.put,List.setIfInBounds_toArray,List.set_cons_zero,List.set_cons_succ]
        refine cK 10 (some 155) (v:= ?_) rfl rfl (by as_aux_lemma=>kernel_rfl) (by as_aux_lemma=>kernel_rfl) (by as_aux_lemma=>kernel_rfl) (fun _ _ _ h=>h) rfl ?_ hS ?_
        rotate_left
        ·(intro U f;obtain⟨V,X,z2,z3⟩:=f;go_simp;try(with_reducible rfl))
        simp only[Act.put,List.setIfInBounds_toArray,List.set_cons_zero,List.set_cons_succ]
        refine cK 11 (some 156) (v:= ?_) rfl rfl (by as_aux_lemma=>kernel_rfl) (by as_aux_lemma=>kernel_rfl) (by as_aux_lemma=>kernel_rfl) (fun _ _ _ h=>h) rfl ?_ hS ?_
        rotate_left
        ·(intro U f;obtain⟨V,X,z2,z3⟩:=f;go_simp;try(with_reducible rfl))
        simp only[Act.put,List.setIfInBounds_toArray,List.set_cons_zero,List.set_cons_succ]
        refine cK 12 (some 157) (v:= ?_) rfl rfl (by as_aux_lemma=>kernel_rfl) (by as_aux_lemma=>kernel_rfl) (by as_aux_lemma=>kernel_rfl) (fun _ _ _ h=>h) rfl ?_ hS ?_
        rotate_left
        ·(intro U f;obtain⟨V,X,z2,z3⟩:=f;go_simp;try(with_reducible rfl))
        simp only[Act.put,List.setIfInBounds_toArray,List.set_cons_zero,List.set_cons_succ]
        refine oE 0 13 rfl rfl (by as_aux_lemma=>kernel_rfl) (fun K F=> ?_) (fun K F=> ?_)
        ·go_simp
         refine F.out _ _ (aq.out _ (an _ _)) ?_
         clear F hS
         intro hS
         try simp only[Act.put,List.setIfInBounds_toArray,List.set_cons_zero,List.set_cons_succ]
         refine oE 6 13 rfl rfl (by as_aux_lemma=>kernel_rfl) (fun K F=> ?_) (fun K F=> ?_)
         ·obtain⟨x1,w2,x2,w4,B2,r1,r2,o4,b4⟩:=hm.out
          refine ip rfl ?_
          refine gj (.tmp 145) (.tmp 150) _ rfl rfl rfl r1.out ?_
          refine F.out _ _ (aq.out _ B2.out) ?_
          clear F hS
          intro hS
          try simp only[Act.put,List.setIfInBounds_toArray,List.set_cons_zero,List.set_cons_succ]
          refine bI 13 rfl (by as_aux_lemma=>kernel_rfl) (fun K F=> ?_)
          go_simp
          refine F.out _ _ (aq.out _ (B2.out.trans ((an _ _).mono B2.out.size))) ?_
          clear F hS
          intro hS
          try simp only[Act.put,List.setIfInBounds_toArray,List.set_cons_zero,List.set_cons_succ]
          refine bI 14 rfl (by as_aux_lemma=>kernel_rfl) (fun K F=> ?_)
          refine ip rfl ?_
          refine gj (.tmp 151) (.tmp 158) _ rfl rfl rfl r2.out ?_
          refine F.out _ _ (aq.out _ b4.out) ?_
          clear F hS
          intro hS
          try simp only[Act.put,List.setIfInBounds_toArray,List.set_cons_zero,List.set_cons_succ]
          obtain⟨a9,c9,rfl,-⟩:=OwnSt.steps o4.out
          refine cK 15 (some 16) (v:= ?_) rfl rfl (by as_aux_lemma=>kernel_rfl) (by as_aux_lemma=>kernel_rfl) (by as_aux_lemma=>kernel_rfl) (fun _ _ _ h=>h) rfl ?_ hS ?_
          rotate_left
          ·(intro U f;obtain⟨V,X,z2,z3⟩:=f;go_simp;try(with_reducible rfl))
          simp only[Act.put,List.setIfInBounds_toArray,List.set_cons_zero,List.set_cons_succ]
          refine wpAnyH_done (by as_aux_lemma=>kernel_rfl) ?_ _
          clear hS
          rw[aj.out]
          go_wp2_with fail
          all_goals go_meet
          all_goals exact⟨a9,c9,by rw[T.out],by have h9:=o4.out;rw[aj.out]at h9;exact h9,(Below.drew (.refl _ _)).trans b4.out⟩
         go_simp
         refine F.out _ _ (aq.out _ (dT _ _ _)) ?_
         clear F hS
         intro hS
         try simp only[Act.put,List.setIfInBounds_toArray,List.set_cons_zero,List.set_cons_succ]
         obtain⟨x1,w3,x2,w4,B2,r1,r2,o4,b4⟩:=ho.out
         refine bI 6 rfl (by as_aux_lemma=>kernel_rfl) (fun K F=> ?_)
         refine ip rfl ?_
         refine gj (.tmp 145) (.tmp 150) _ rfl rfl rfl r1.out ?_
         refine F.out _ _ (aq.out _ B2.out) ?_
         clear F hS
         intro hS
         try simp only[Act.put,List.setIfInBounds_toArray,List.set_cons_zero,List.set_cons_succ]
         refine bI 14 rfl (by as_aux_lemma=>kernel_rfl) (fun K F=> ?_)
         refine ip rfl ?_
         refine gj (.tmp 151) (.tmp 158) _ rfl rfl rfl r2.out ?_
         refine F.out _ _ (aq.out _ b4.out) ?_
         clear F hS
         intro hS
         try simp only[Act.put,List.setIfInBounds_toArray,List.set_cons_zero,List.set_cons_succ]
         obtain⟨a9,c9,rfl,-⟩:=OwnSt.steps o4.out
         refine cK 15 (some 16) (v:= ?_) rfl rfl (by as_aux_lemma=>kernel_rfl) (by as_aux_lemma=>kernel_rfl) (by as_aux_lemma=>kernel_rfl) (fun _ _ _ h=>h) rfl ?_ hS ?_
         rotate_left
         ·(intro U f;obtain⟨V,X,z2,z3⟩:=f;go_simp;try(with_reducible rfl))
         simp only[Act.put,List.setIfInBounds_toArray,List.set_cons_zero,List.set_cons_succ]
         refine wpAnyH_done (by as_aux_lemma=>kernel_rfl) ?_ _
         clear hS
         rw[aj.out]
         go_wp2_with fail
         all_goals go_meet
         all_goals exact⟨a9,c9,by rw[T.out],by have h9:=o4.out;rw[aj.out]at h9;exact h9,(Below.drew (.refl _ _)).trans b4.out⟩
        go_simp
        refine F.out _ _ (aq.out _ (an _ _)) ?_
        clear F hS
        intro hS
        try simp only[Act.put,List.setIfInBounds_toArray,List.set_cons_zero,List.set_cons_succ]
        refine bI 0 rfl (by as_aux_lemma=>kernel_rfl) (fun K F=> ?_)
        go_simp
        refine F.out _ _ (aq.out _ (dT _ _ _)) ?_
        clear F hS
        intro hS
        try simp only[Act.put,List.setIfInBounds_toArray,List.set_cons_zero,List.set_cons_succ]
        obtain⟨x1,w3,x2,w4,B2,r1,r2,o4,b4⟩:=hu.out
        refine bI 6 rfl (by as_aux_lemma=>kernel_rfl) (fun K F=> ?_)
        refine ip rfl ?_
        refine gj (.tmp 145) (.tmp 150) _ rfl rfl rfl r1.out ?_
        refine F.out _ _ (aq.out _ B2.out) ?_
        clear F hS
        intro hS
        try simp only[Act.put,List.setIfInBounds_toArray,List.set_cons_zero,List.set_cons_succ]
        refine bI 14 rfl (by as_aux_lemma=>kernel_rfl) (fun K F=> ?_)
        refine ip rfl ?_
        refine gj (.tmp 151) (.tmp 158) _ rfl rfl rfl r2.out ?_
        refine F.out _ _ (aq.out _ b4.out) ?_
        clear F hS
        intro hS
        try simp only[Act.put,List.setIfInBounds_toArray,List.set_cons_zero,List.set_cons_succ]
        obtain⟨a9,c9,rfl,-⟩:=OwnSt.steps o4.out
        refine cK 15 (some 16) (v:= ?_) rfl rfl (by as_aux_lemma=>kernel_rfl) (by as_aux_lemma=>kernel_rfl) (by as_aux_lemma=>kernel_rfl) (fun _ _ _ h=>h) rfl ?_ hS ?_
        rotate_left
        ·(intro U f;obtain⟨V,X,z2,z3⟩:=f;go_simp;try(with_reducible rfl))
        simp only[Act.put,List.setIfInBounds_toArray,List.set_cons_zero,List.set_cons_succ]
        refine wpAnyH_done (by as_aux_lemma=>kernel_rfl) ?_ _
        clear hS
        rw[aj.out]
        go_wp2_with fail
        all_goals go_meet
        all_goals exact⟨a9,c9,by rw[T.out],by have h9:=o4.out;rw[aj.out]at h9;exact h9,(Below.drew (.refl _ _)).trans b4.out⟩
       case rest=>
        obtain⟨a4,ez,rfl,cH,fo⟩:=hcut
        have bt:=Lib.hid (ay.out.trans (fo.mono ay.out.size))
        have m2:=cell_later bt.out cb.out
        have vv:Calls Tryz.prog 31 #[.int .i64 ((nu:Int)+1), .slice a4 (np+1) ez] wc fun e w'=>e= .returned (.bool pb)∧Below wc.heap.size wc w':=by
         obtain⟨a5,c5,e5,h5⟩:=OwnSt.steps cH
         rw[aj.out]at e5
         injection e5 with e6 e7 e8
         subst e6 e8
         have h9:=rD (((nu+1:Nat)):Int) a4 ez (ai y++[xr]) wc h5
         rw[aj.out,b8.out]at h9
         exact h9
        have j2:=Lib.hid vv
        have f1:=Lib.hid cH
        have ej:=Lib.hid fo
        clear vv cH fo
        cases pb with
        |false=>
         have l:=Lib.hid (cB.out (by first|trivial|rfl))
         go_wp2_with fail
         refine j2.out.mono ?_
         rintro e w5 ⟨rfl,aL⟩
         go_wp2_with fail
         all_goals go_ret3
         all_goals exact et l.out (aa aN.out (bt.out.trans (aL.mono bt.out.size)))
        |true=>
         go_wp2_with fail
         refine j2.out.mono ?_
         rintro e w5 ⟨rfl,aL⟩
         have b5:=bt.out.trans (aL.mono bt.out.size)
         have m3:=cell_later b5 ct.out
         have nd:=(World.frozen?_of_block (a:=⟨gl,k*5+4,none⟩) (b5.block gl hY.out)).trans kv.out
         have cT:=F4 (kH.out.below ay.out) (ej.out.trans (aL.mono ej.out.size)) ih.out (f1.out.call aL) GW (Nat.le_trans E.out.size ay.out.size)
         rw[k9.out]at cT
         have l:=Lib.hid (d4.out _ (.slice (some ⟨gl,0,none⟩) (k+1) lc) (w5.setCell ⟨gl,k*5+4,none⟩ (.slice a4 (np+1) ez)) (f8.out (by first|trivial|rfl)) (.inr ⟨A,_,_,_,rfl,cT.1⟩) ((E.out.trans (b5.mono E.out.size)).setCell (p:=⟨gl,k*5+4,none⟩) hX.out _))
         clear cT b5 aL
         go_wp2_with fail
         all_goals go_roundw
         all_goals first|exact l.out|(simp[intOf];done)|(simp[intOf];omega)
      have md:(ev==0)=false:=by rw[beq_eq_false_iff_ne];exact hW
      have mk:(ev != 0)=true:=by simpa using hW
      have l:=Lib.hid (cB.out lo)
      go_wp2_with fail
      all_goals go_ret3
      all_goals exact et l.out Z.out
  obtain rfl:i=M:=by have:=dB.out;omega
  have k7:((i:Int)<(i:Int))=False:=eq_false (by omega)
  have f2:=FS (s:=s) (L:=aI L) (i:=i) (acc:=acc) (by rw[g9,dB.out])
  rw[dx,hp,←bU.out]at f2
  have cL:=Lib.hid f2
  have Y:=Lib.hid (show PS wr w1.heap.size (.slice la N lc) acc by rw[←hN];exact hP)
  have hT:=hw.out.size
  have eQ:=Lib.hid (show LibL (fun b=>w.heap.size≤b) wr la lc acc from cu.weak (fun b hb=>Nat.le_trans hT hb))
  clear f2 hp dx hx hP hB hG cu e0 c0 hN hT
  rw[m.out]
  by_cases bl:bL x=[]
  case neg=>
   have n5:=nH (x:=x) bl
   have l:=Lib.hid (show df s (bL t)=([],i,2)by rw[cL.out,if_neg (fun e=>bl e.1)])
   clear bl
   go_wp2_with fail
   all_goals go_ret3
   all_goals exact et l.out aN.out
  case pos=>
   have ex:x=⟨#[]⟩:=mY bl
   have cJ:=Lib.hid (fun(h:de acc=false)=>(show df s (bL t)=(acc,0,0)by rw[cL.out,if_pos ⟨bl,h⟩]))
   have i1:=Lib.hid (fun(h:de acc=true)=>(show df s (bL t)=([],i,2)by rw[cL.out,if_neg (fun e=>by rw[h]at e;cases e.2)]))
   clear bl
   subst ex
   by_cases o:acc=[]
   ·have cx:N=0:=by rw[←m.out,o];rfl
    subst cx
    have l:=Lib.hid (cJ.out (by rw[o];rfl))
    go_wp2_with fail
    all_goals go_ret3
    all_goals exact rM l.out m.out eQ.out aN.out
   obtain⟨A,y,pv,j1,gl,ec,bu,du,ap,cp,q,h0,ab,cc,d1,c3,cN,c4,f4,ce,bx⟩:=rA Y.out o
   have bp:N=A.length+1:=by rw[←m.out,q];simp
   obtain⟨k,hk⟩:∃k,A.length=k:=⟨_,rfl⟩
   rw[hk]at bp c3 c4 f4 ab
   subst bp
   injection ab with e1 e2 e3
   subst e1 e3
   obtain⟨nu,aR⟩:∃n,(ae y).length=n:=⟨_,rfl⟩
   obtain⟨np,aP⟩:∃n,(ai y).length=n:=⟨_,rfl⟩
   rw[aR]at c3 bx
   rw[aP]at c4
   have aT:=Lib.hid (show de acc=(decide (nu≠0)&&decide (np=0))by
    rw[q,ou,←aR,←aP]
    congr 1
    ·rw[decide_eq_decide,ne_eq,ne_eq,List.length_eq_zero_iff]
    rw[decide_eq_decide,List.length_eq_zero_iff])
   have i5:IntKind.i64.wrap (k:Int)=(k:Int):=yv k (by omega)
   have h8:(0:Int)≤(k:Int):=by omega
   have ib:(k:Int)<(k:Int)+1:=by omega
   have ny:((0:Int)<(k:Int)+1)=True:=eq_true (by omega)
   clear h0 cN ce f4 q o hk aR aP e2 cc
   cases nu with
   |zero=>
    have l:=Lib.hid (cJ.out (by rw[aT.out];rfl))
    go_wp2_with fail
    all_goals go_ret3
    all_goals exact rM l.out m.out eQ.out aN.out
   |succ nu=>
    have gu:((0:Int)<(nu:Int)+1)=True:=eq_true (by omega)
    cases np with
    |zero=>
     have l:=Lib.hid (i1.out (by rw[aT.out];simp))
     go_wp2_with fail
     all_goals go_ret3
     all_goals exact et l.out aN.out
    |succ np=>
     have l:=Lib.hid (cJ.out (by rw[aT.out];simp))
     have gp:(((np:Int)+1)==0)=false:=mg np
     go_wp2_with fail
     all_goals go_ret3
     all_goals exact rM l.out m.out eQ.out aN.out
end Go.Proofs.YtlejmeegkpdabaaGreatDoor
