/- The proof of a statement, some of its texts joined in build order: part Z3. -/
import Derived.Test.YtlejmeegkpdabaaGreatDoorMxZ2
set_option maxHeartbeats 8000000
set_option maxRecDepth 100000
namespace Go.Proofs.YtlejmeegkpdabaaGreatDoor
open Go Go.RowKit Go.Maps
theorem ik{m:UInt8}:∀{l w:List UInt8},w∈aA m l→w.length≤l.length
 | [],w,h=>by simp[aA]at h;subst h;simp
 |c::r,w,h=>by
  rw[aA]at h
  by_cases e:c=m
  ·rw[if_pos e,List.mem_cons]at h
   rcases h with h|h
   ·subst h;simp
   have:=ik h;rw[List.length_cons];omega
  rw[if_neg e]at h
  cases hw:aA m r with
  |nil=>exact(eV m r hw).elim
  |cons v a=>
   rw[hw]at h
   simp only[List.mem_cons]at h
   rcases h with h|h
   ·subst h
    have:=ik (m:=m) (l:=r) (w:=v) (by rw[hw];simp)
    rw[List.length_cons,List.length_cons];omega
   have:=ik (m:=m) (l:=r) (w:=w) (by rw[hw];simp[h])
   rw[List.length_cons];omega
theorem jz{l:List ByteArray}{b:ByteArray}(h:b∈l):b.data.toList∈aI l:=List.mem_map.2 ⟨b,h,rfl⟩
theorem iR(b:ByteArray):b.data.toList.length=b.size:=Array.length_toList
theorem Strs.tail1{S:Nat→Prop}{w:World}{b off c:Nat}{x:ByteArray}{l:List ByteArray}(h:Sl strE S w (some ⟨b,off,none⟩) c (x::l)):Sl strE S w (if c=1 then some ⟨b,off,none⟩else some ⟨b,off+1,none⟩) (c-1) l:=by
 have p:=h.cap
 have y:=h.max
 rw[List.length_cons]at p
 refine⟨by omega,by omega,(fun e=>by split at e<;>cases e),fun f=> ?_⟩
 obtain⟨u,g,q,o,s,a⟩:=h.dat (by simp)
 cases q
 have t:0<l.length:=List.length_pos_iff.2 f
 rw[if_neg (by omega)]
 refine⟨b,off+1,rfl,o,s,fun i v=> ?_⟩
 obtain⟨vs,k,m,n⟩:=a (i+1) (by rw[List.length_cons];omega)
 refine⟨vs,k,fun j r=> ?_,n⟩
 have:=m j r
 rw[show off+(i+1)*strE.size+j=off+1+i*strE.size+j by show off+(i+1)*1+j=off+1+i*1+j;omega]at this
 exact this
theorem m5{x:ByteArray}{a:Array UInt8}(h:x.data.toList=a.toList):x=⟨a⟩:=by
 have b:x.data=a:=Array.toList_inj.1 h
 cases x
 exact congrArg ByteArray.mk b
theorem ql{x:ByteArray}(h:x.data.toList=dU):(x.toList==([99,105,116,101]:List UInt8))=true:=by
 rw[show x=⟨#[99,105,116,101]⟩from m5 (by rw[h];rfl)];(first|rfl|kernel_rfl|simp[ByteArray.toList,ByteArray.toList.loop])
theorem qm{x:ByteArray}(h:x.data.toList=dL):(x.toList==([100,101,116,97,99,104]:List UInt8))=true:=by
 rw[show x=⟨#[100,101,116,97,99,104]⟩from m5 (by rw[h];rfl)];(first|rfl|kernel_rfl|simp[ByteArray.toList,ByteArray.toList.loop])
theorem qr{x:ByteArray}(h:¬x.data.toList=dU):(x.toList==([99,105,116,101]:List UInt8))=false:=by
 have a:=eM (x:=x) (y:=⟨#[99,105,116,101]⟩) (fun e=>h (by rw[e];rfl))
 rwa[show(⟨#[99,105,116,101]⟩:ByteArray).toList=[99,105,116,101]by(first|rfl|kernel_rfl|simp[ByteArray.toList,ByteArray.toList.loop])]at a
theorem lC{x:ByteArray}(h:¬x.data.toList=dL):(x.toList==([100,101,116,97,99,104]:List UInt8))=false:=by
 have a:=eM (x:=x) (y:=⟨#[100,101,116,97,99,104]⟩) (fun e=>h (by rw[e];rfl))
 rwa[show(⟨#[100,101,116,97,99,104]⟩:ByteArray).toList=[100,101,116,97,99,104]by(first|rfl|kernel_rfl|simp[ByteArray.toList,ByteArray.toList.loop])]at a
theorem nH{x:ByteArray}(h:¬x.data.toList=[]):(x.toList==([]:List UInt8))=false:=by
 have a:=eM (x:=x) (y:=⟨#[]⟩) (fun e=>h (by rw[e]))
 rwa[show(⟨#[]⟩:ByteArray).toList=[]by(first|rfl|kernel_rfl|simp[ByteArray.toList,ByteArray.toList.loop])]at a
theorem jp{i:Nat}{x:Stp}(h:aY 60 i x=true)(hi:i≤60):fP x:=by
 rcases jq h hi with⟨a,ha,rfl⟩|⟨a,b,ha,c,rfl⟩
 ·exact⟨(show aE (1:Int)by unfold aE;omega),(show aE (a:Int)by unfold aE;omega),(show aE (0:Int)by unfold aE;omega)⟩
 exact⟨(show aE (2:Int)by unfold aE;omega),(show aE (a:Int)by unfold aE;omega),(show aE (b:Int)by unfold aE;omega)⟩
def jV(ls:List (List UInt8))(w1:World)(vP iV:Value)(wr:World):Prop:=
 ∃(i:Nat) (acc:List Stp),iV= .int .i64 i∧acc.length=i∧i+1≤ls.length∧i≤60∧be (ls.drop i) i acc=be ls 0 []∧OwnSt wr w1.heap.size vP acc∧Below w1.heap.size w1 wr
def GN(r:List Stp×Nat×Int)(w:World)(e:Ending)(w':World):Prop:=∃v,e= .returned (.tuple #[v, .int .i64 r.2.1, .int .i64 r.2.2])∧OwnSt w' w.heap.size v r.1∧Below w.heap.size w w'
theorem GF{l:List UInt8}(h:(aA 32 l).tail.mapM bi=none):bF l=(0,0,0):=by unfold bF;rw[h]
theorem GC{l:List UInt8}{a:Int}(h:(aA 32 l).tail.mapM bi=some [a]):bF l=if(aA 32 l).headD []=dU then(1,a,0)else(0,0,0):=by unfold bF;rw[h]
theorem GD{l:List UInt8}{a b:Int}(h:(aA 32 l).tail.mapM bi=some [a,b]):bF l=if(aA 32 l).headD []=dL then(2,a,b)else(0,0,0):=by unfold bF;rw[h]
theorem GE{l:List UInt8}{ns:List Int}(h:(aA 32 l).tail.mapM bi=some ns)(h1:ns.length≠1)(h2:ns.length≠2):bF l=(0,0,0):=by
 unfold bF
 rw[h]
 match ns,h1,h2 with
 | [],_,_=>rfl
 | [_],h1,_=>exact(h1 rfl).elim
 | [_,_],_,h2=>exact(h2 rfl).elim
 |_::_::_::_,_,_=>rfl
theorem xZ(t:ByteArray)(w:World):Calls Tryz.prog 29 #[.string t] w (GN (jk t.data.toList) w):=by
 by_cases hs:t.size≤65536
 case neg=>
  have g1:(65536<(t.size:Int))=True:=eq_true (by omega)
  have H:=Lib.hid (show jk t.data.toList=([],0,3)by unfold jk;rw[if_neg (by rw[iR];exact hs)])
  go_enter Tryz.func29,Tryz.ntmps29
  go_wp2_with fail
  all_goals go_ret3
  all_goals rw[H.out]
  all_goals exact⟨_,rfl, .nil _ _ _ _ _, .refl _ _⟩
 have g1:(65536<(t.size:Int))=False:=eq_false (by omega)
 have b3:jk t.data.toList=be (aA 10 t.data.toList) 0 []:=by unfold jk;rw[if_pos (by rw[iR];exact hs)]
 have cd:=Lib.hid (tf t 10 hs w)
 have b4:=ii 10 t.data.toList
 rw[iR]at b4
 have b1:=eV 10 t.data.toList
 have cs:=Lib.hid (fun u (h:u∈aA 10 t.data.toList)=>Nat.le_trans (ik h) (by rw[iR];exact hs))
 go_enter Tryz.func29,Tryz.ntmps29
 go_wp2_with fail
 refine cd.out.mono ?_
 rintro e w1 ⟨v1,out,rfl,o1,bS,ci⟩
 obtain⟨aO,cO,rfl,cg⟩:=OwnS.strs o1
 have Q:(aI out).length=out.length:=by unfold aI;rw[List.length_map]
 rw[←bS]at b3 b4 b1
 have H:=Lib.hid b3
 have cq:RowKit.Hid (∀b∈out,b.size≤65536):=Lib.hid (fun b hb=>by
  have:=cs.out b.data.toList (by rw[←bS];exact jz hb)
  rw[iR]at this;exact this)
 have cU:1≤out.length:=by
  rw[←Q];exact List.length_pos_iff.2 b1
 rw[Q]at b4
 have bn:=Lib.hid cg
 have y:=Lib.hid ci
 clear o1 cg ci b3 b1 bS cd cs
 go_wp2_with fail
 go_loopw [6,7,8,9,10,11] (fun vP iV _ _ _ _ wr=>jV (aI out) w1 vP iV wr) (fun _ iV _ _ _ _ _=>out.length-(intOf iV).toNat)
 case atStart=>exact⟨0,[],rfl,rfl,by rw[Q];exact cU,by omega,rfl, .nil _ _ _ _ _,Below.refl _ _⟩
 case round=>
  obtain⟨i,O,rfl,Y,hi,c6,hp,hO,hB⟩:=hrel
  rw[Q]at hi
  have z:=Lib.hid hp
  have ab:=Lib.hid hO
  have B:=Lib.hid hB
  by_cases bU:i+1<out.length
  ·have gl:((i:Int)<(out.length:Int)-1)=True:=eq_true (by omega)
   obtain⟨bl,ol,X,-,q0,-⟩:=(bn.out.below hB).str i (by omega)
   subst X
   have a1:=cq.out _ (List.getElem_mem (show i<out.length by omega))
   obtain⟨l,Z⟩:∃l,out[i]=l:=⟨_,rfl⟩
   have L:(aI out).drop i=l.data.toList::(aI out).drop (i+1):=by
    rw[List.drop_eq_getElem_cons (by rw[Q];omega)]
    congr 1
    simp[aI,Z]
   obtain⟨v0,M,aU⟩:∃v0 M,(aI out).drop (i+1)=v0::M:=by
    cases hd:(aI out).drop (i+1)with
    |nil=>have:=congrArg List.length hd;rw[List.length_drop,Q]at this;simp at this;omega
    |cons v0 M=>exact⟨v0,M,rfl⟩
   rw[aU]at L
   have n:=Lib.hid L
   have T:=Lib.hid aU
   rw[Z]at q0 a1
   have cc:=tf l 32 a1 wr
   have av:=ii 32 l.data.toList
   rw[iR]at av
   have a2:=eV 32 l.data.toList
   have bt:=Lib.hid (fun u (h:u∈aA 32 l.data.toList)=>Nat.le_trans (ik h) (by rw[iR];exact a1))
   have bm:=Lib.hid cc
   clear cc L aU hp hO hB Z
   go_wp2_with fail
   refine bm.out.mono ?_
   rintro e w2 ⟨v2,wo,rfl,o2,ad,bx⟩
   obtain⟨aW,cW,rfl,hW⟩:=OwnS.strs o2
   rw[←ad]at av a2
   obtain⟨w0,wt,rfl⟩:∃w0 wt,wo=w0::wt:=by
    cases wo with
    |nil=>exact(a2 rfl).elim
    |cons a b=>exact⟨a,b,rfl⟩
   obtain⟨bW,oW,cJ,-,c0,-⟩:=hW.str 0 (by simp)
   subst cJ
   rw[List.getElem_cons_zero,Nat.add_zero]at c0
   have cl:=hW.cap
   have c7:=hW.max
   rw[List.length_cons]at cl
   unfold aI at av
   rw[List.length_map,List.length_cons]at av
   have cn:=AE _ _ wt w2 (Strs.tail1 hW) (fun b hb=>by
    have:=bt.out b.data.toList (by rw[←ad];exact jz (by simp[hb]))
    rw[iR]at this;exact this) (by omega)
   have cm:(aA 32 l.data.toList).headD []=w0.data.toList:=by rw[←ad];rfl
   have bb:(aA 32 l.data.toList).tail=aI wt:=by rw[←ad];rfl
   obtain⟨aT,aq⟩:∃aT,(if cW=1 then some (⟨bW,oW,none⟩:Addr)else some ⟨bW,oW+1,none⟩)=aT:=⟨_,rfl⟩
   rw[aq]at cn
   have d1:((1:Int)≤(wt.length:Int)+1)=True:=eq_true (by omega)
   have cF:=Lib.hid cn
   have cj:=Lib.hid bx
   have aL:=cell_later bx q0
   clear cn o2 hW bx bm ad a2 bt
   simp only
   go_wp2_with fail
   refine cF.out.mono ?_
   rintro e N ⟨vN,ns,rfl,oN,b2,bA⟩
   obtain⟨aN,cN,rfl,hN⟩:=oN.ints
   have c0:=cell_later bA c0
   have bp:=aa cj.out bA
   have S:=Lib.hid bp
   have bw:=Lib.hid hN
   clear oN hN bA bp
   simp only
   cases hm:(aI wt).mapM bi with
   |none=>
    have hX:bF l.data.toList=(0,0,0):=GF (by rw[bb];exact hm)
    simp only[Option.isSome_none]
    clear hm b2
    go_upto_region 15 with fail
    obtain⟨C,c⟩:∃W,N.alloc (.cells #[.int .i64 0, .int .i64 0, .int .i64 0] 72)=W:=⟨_,rfl⟩
    rw[c]
    have y0:C.cell? ⟨N.heap.size,0,none⟩=some (.int .i64 0):=by rw[←c];clear c;go_simp
    have y1:C.cell? ⟨N.heap.size,1,none⟩=some (.int .i64 0):=by rw[←c];clear c;go_simp
    have y2:C.cell? ⟨N.heap.size,2,none⟩=some (.int .i64 0):=by rw[←c];clear c;go_simp
    have E:Below wr.heap.size wr C:=by rw[←c];exact aa S.out (an _ _)
    clear c c0 aL aq
    have D:=Lib.hid hX
    have o:=Lib.hid E
    clear hX E
    by_cases r:i=60
    ·have U:((i:Int)==60)=true:=by simp[r]
     have j:be (aI out) 0 []=([],i,2):=by rw[←z.out,n.out,be,if_neg (by omega)]
     have f:=Lib.hid j
     clear j r
     go_wp2_with fail
     all_goals go_ret3
     all_goals rw[H.out,f.out]
     all_goals exact⟨_,rfl, .nil _ _ _ _ _,aa y.out (aa B.out o.out)⟩
    have U:((i:Int)==60)=false:=by rw[beq_eq_false_iff_ne];omega
    have A:=j9 60 i (0,0,0) C (by omega) (by omega) (by omega)
    cases m:aY 60 i (0,0,0)with
    |false=>
     rw[m]at A
     have j:be (aI out) 0 []=([],i,2):=by rw[←z.out,n.out,be,D.out,if_neg (by rw[m];simp)]
     have f:=Lib.hid j
     have p:=Lib.hid A
     clear j A m r
     dsimp only[stpV]at p
     go_wp2_with fail
     refine p.out.mono ?_
     rintro e w8 ⟨rfl,g⟩
     go_wp2_with fail
     all_goals go_ret3
     all_goals rw[H.out,f.out]
     all_goals exact⟨_,rfl, .nil _ _ _ _ _,aa y.out (aa B.out (aa o.out g))⟩
    |true=>
     rw[m]at A
     have J:fP (0,0,0):=jp m (by omega)
     have F:be (v0::M) (i+1) (O++[(0,0,0)])=be (aI out) 0 []:=by rw[←z.out,n.out,be,D.out,if_pos ⟨by omega,m⟩]
     have G:=Lib.hid F
     have p:=Lib.hid A
     have K:=Lib.hid J
     clear F A m J
     dsimp only[stpV]at p
     go_wp2_with fail
     refine p.out.mono ?_
     rintro e w8 ⟨rfl,g⟩
     have q:=aa B.out (aa o.out g)
     have s:=OwnL.call (OwnL.call ab.out o.out) g
     have y0:=cell_later g y0
     have y1:=cell_later g y1
     have y2:=cell_later g y2
     obtain⟨v',W',I,ho,hg,-⟩:=OwnL.push (P:=Tryz.prog) (t:=44) (ty:=44) s Tryz.underlying44 jd rfl (vs:=[.int .i64 0, .int .i64 0, .int .i64 0]) (x:=(0,0,0)) (kF K.out) (by omega) (by unfold aB;omega) (by have:=q.size;omega)
     have hrel:jV (aI out) w1 v' (.int .i64 ((i:Int)+1)) W':=⟨i+1,O++[(0,0,0)],by go_num,by simp[Y],by rw[Q];omega,by omega,by rw[T.out];exact G.out,ho,q.grown hg (by have:=q.size;omega) (fun k e=>(OwnL.lt s k e).1)⟩
     have v:=Lib.hid hrel
     clear hrel ho hg q s g
     go_wp2_with (at_builtin;refine bo rfl _ _ _ rfl rfl rfl I ?_)
     all_goals go_roundw
     all_goals first|exact v.out|(simp[intOf];done)|(simp[intOf];omega)
   |some ms=>
    obtain rfl:ns=ms:=b2 ms hm
    simp only[Option.isSome_some]
    clear b2
    have cb:(N.alloc (.cells #[.int .i64 0, .int .i64 0, .int .i64 0] 72)).cell? ⟨bW,oW,none⟩=some (.string w0):=cell_later (an N _) c0
    by_cases h1:ns.length=1
    ·obtain⟨R,rfl⟩:∃R,ns=[R]:=by
      match ns,h1 with
      | [a],_=>exact⟨a,rfl⟩
     obtain⟨bN,oN,X,-,n0,b6⟩:=bw.out.int 0 (by simp)
     subst X
     simp only[List.getElem_cons_zero,Nat.add_zero]at n0 b6
     have b5:(N.alloc (.cells #[.int .i64 0, .int .i64 0, .int .i64 0] 72)).cell? ⟨bN,oN,none⟩=some (.int .i64 R):=cell_later (an N _) n0
     have V:=GC (by rw[bb];exact hm)
     rw[cm]at V
     clear hm h1
     by_cases hc:w0.data.toList=dU
     ·have hX:bF l.data.toList=(1,R,0):=by rw[V,if_pos hc]
      have ge:=ql hc
      clear V hc
      go_upto_region 15 with fail
      obtain⟨C,c⟩:∃W,N.alloc (.cells #[.int .i64 1, .int .i64 R, .int .i64 0] 72)=W:=⟨_,rfl⟩
      rw[c]
      have y0:C.cell? ⟨N.heap.size,0,none⟩=some (.int .i64 1):=by rw[←c];clear c;go_simp
      have y1:C.cell? ⟨N.heap.size,1,none⟩=some (.int .i64 R):=by rw[←c];clear c;go_simp
      have y2:C.cell? ⟨N.heap.size,2,none⟩=some (.int .i64 0):=by rw[←c];clear c;go_simp
      have E:Below wr.heap.size wr C:=by rw[←c];exact aa S.out (an _ _)
      clear c c0 aL aq cb b5
      have D:=Lib.hid hX
      have o:=Lib.hid E
      clear hX E
      by_cases r:i=60
      ·have U:((i:Int)==60)=true:=by simp[r]
       have j:be (aI out) 0 []=([],i,2):=by rw[←z.out,n.out,be,if_neg (by omega)]
       have f:=Lib.hid j
       clear j r
       go_wp2_with fail
       all_goals go_ret3
       all_goals rw[H.out,f.out]
       all_goals exact⟨_,rfl, .nil _ _ _ _ _,aa y.out (aa B.out o.out)⟩
      have U:((i:Int)==60)=false:=by rw[beq_eq_false_iff_ne];omega
      have A:=j9 60 i (1,R,0) C (by omega) (by omega) (by omega)
      cases m:aY 60 i (1,R,0)with
      |false=>
       rw[m]at A
       have j:be (aI out) 0 []=([],i,2):=by rw[←z.out,n.out,be,D.out,if_neg (by rw[m];simp)]
       have f:=Lib.hid j
       have p:=Lib.hid A
       clear j A m r
       dsimp only[stpV]at p
       go_wp2_with fail
       refine p.out.mono ?_
       rintro e w8 ⟨rfl,g⟩
       go_wp2_with fail
       all_goals go_ret3
       all_goals rw[H.out,f.out]
       all_goals exact⟨_,rfl, .nil _ _ _ _ _,aa y.out (aa B.out (aa o.out g))⟩
      |true=>
       rw[m]at A
       have J:fP (1,R,0):=jp m (by omega)
       have F:be (v0::M) (i+1) (O++[(1,R,0)])=be (aI out) 0 []:=by rw[←z.out,n.out,be,D.out,if_pos ⟨by omega,m⟩]
       have G:=Lib.hid F
       have p:=Lib.hid A
       have K:=Lib.hid J
       clear F A m J
       dsimp only[stpV]at p
       go_wp2_with fail
       refine p.out.mono ?_
       rintro e w8 ⟨rfl,g⟩
       have q:=aa B.out (aa o.out g)
       have s:=OwnL.call (OwnL.call ab.out o.out) g
       have y0:=cell_later g y0
       have y1:=cell_later g y1
       have y2:=cell_later g y2
       obtain⟨v',W',I,ho,hg,-⟩:=OwnL.push (P:=Tryz.prog) (t:=44) (ty:=44) s Tryz.underlying44 jd rfl (vs:=[.int .i64 1, .int .i64 R, .int .i64 0]) (x:=(1,R,0)) (kF K.out) (by omega) (by unfold aB;omega) (by have:=q.size;omega)
       have hrel:jV (aI out) w1 v' (.int .i64 ((i:Int)+1)) W':=⟨i+1,O++[(1,R,0)],by go_num,by simp[Y],by rw[Q];omega,by omega,by rw[T.out];exact G.out,ho,q.grown hg (by have:=q.size;omega) (fun k e=>(OwnL.lt s k e).1)⟩
       have v:=Lib.hid hrel
       clear hrel ho hg q s g
       go_wp2_with (at_builtin;refine bo rfl _ _ _ rfl rfl rfl I ?_)
       all_goals go_roundw
       all_goals first|exact v.out|(simp[intOf];done)|(simp[intOf];omega)
     have hX:bF l.data.toList=(0,0,0):=by rw[V,if_neg hc]
     have ge:=qr hc
     clear V hc
     go_upto_region 15 with fail
     obtain⟨C,c⟩:∃W,N.alloc (.cells #[.int .i64 0, .int .i64 0, .int .i64 0] 72)=W:=⟨_,rfl⟩
     rw[c]
     have y0:C.cell? ⟨N.heap.size,0,none⟩=some (.int .i64 0):=by rw[←c];clear c;go_simp
     have y1:C.cell? ⟨N.heap.size,1,none⟩=some (.int .i64 0):=by rw[←c];clear c;go_simp
     have y2:C.cell? ⟨N.heap.size,2,none⟩=some (.int .i64 0):=by rw[←c];clear c;go_simp
     have E:Below wr.heap.size wr C:=by rw[←c];exact aa S.out (an _ _)
     clear c c0 aL aq
     have D:=Lib.hid hX
     have o:=Lib.hid E
     clear hX E
     by_cases r:i=60
     ·have U:((i:Int)==60)=true:=by simp[r]
      have j:be (aI out) 0 []=([],i,2):=by rw[←z.out,n.out,be,if_neg (by omega)]
      have f:=Lib.hid j
      clear j r
      go_wp2_with fail
      all_goals go_ret3
      all_goals rw[H.out,f.out]
      all_goals exact⟨_,rfl, .nil _ _ _ _ _,aa y.out (aa B.out o.out)⟩
     have U:((i:Int)==60)=false:=by rw[beq_eq_false_iff_ne];omega
     have A:=j9 60 i (0,0,0) C (by omega) (by omega) (by omega)
     cases m:aY 60 i (0,0,0)with
     |false=>
      rw[m]at A
      have j:be (aI out) 0 []=([],i,2):=by rw[←z.out,n.out,be,D.out,if_neg (by rw[m];simp)]
      have f:=Lib.hid j
      have p:=Lib.hid A
      clear j A m r
      dsimp only[stpV]at p
      go_wp2_with fail
      refine p.out.mono ?_
      rintro e w8 ⟨rfl,g⟩
      go_wp2_with fail
      all_goals go_ret3
      all_goals rw[H.out,f.out]
      all_goals exact⟨_,rfl, .nil _ _ _ _ _,aa y.out (aa B.out (aa o.out g))⟩
     |true=>
      rw[m]at A
      have J:fP (0,0,0):=jp m (by omega)
      have F:be (v0::M) (i+1) (O++[(0,0,0)])=be (aI out) 0 []:=by rw[←z.out,n.out,be,D.out,if_pos ⟨by omega,m⟩]
      have G:=Lib.hid F
      have p:=Lib.hid A
      have K:=Lib.hid J
      clear F A m J
      dsimp only[stpV]at p
      go_wp2_with fail
      refine p.out.mono ?_
      rintro e w8 ⟨rfl,g⟩
      have q:=aa B.out (aa o.out g)
      have s:=OwnL.call (OwnL.call ab.out o.out) g
      have y0:=cell_later g y0
      have y1:=cell_later g y1
      have y2:=cell_later g y2
      obtain⟨v',W',I,ho,hg,-⟩:=OwnL.push (P:=Tryz.prog) (t:=44) (ty:=44) s Tryz.underlying44 jd rfl (vs:=[.int .i64 0, .int .i64 0, .int .i64 0]) (x:=(0,0,0)) (kF K.out) (by omega) (by unfold aB;omega) (by have:=q.size;omega)
      have hrel:jV (aI out) w1 v' (.int .i64 ((i:Int)+1)) W':=⟨i+1,O++[(0,0,0)],by go_num,by simp[Y],by rw[Q];omega,by omega,by rw[T.out];exact G.out,ho,q.grown hg (by have:=q.size;omega) (fun k e=>(OwnL.lt s k e).1)⟩
      have v:=Lib.hid hrel
      clear hrel ho hg q s g
      go_wp2_with (at_builtin;refine bo rfl _ _ _ rfl rfl rfl I ?_)
      all_goals go_roundw
      all_goals first|exact v.out|(simp[intOf];done)|(simp[intOf];omega)
    by_cases h2:ns.length=2
    ·obtain⟨R,b0,rfl⟩:∃R b0,ns=[R,b0]:=by
      match ns,h2 with
      | [a,b],_=>exact⟨a,b,rfl⟩
     obtain⟨bN,oN,X,-,n0,b6⟩:=bw.out.int 0 (by simp)
     subst X
     obtain⟨dB,ec,X,-,n1,c1⟩:=bw.out.int 1 (by simp)
     cases X
     simp only[List.getElem_cons_zero,List.getElem_cons_succ,Nat.add_zero]at n0 b6 n1 c1
     have b5:(N.alloc (.cells #[.int .i64 0, .int .i64 0, .int .i64 0] 72)).cell? ⟨bN,oN,none⟩=some (.int .i64 R):=cell_later (an N _) n0
     have eb:(N.alloc (.cells #[.int .i64 0, .int .i64 0, .int .i64 0] 72)).cell? ⟨bN,oN+1,none⟩=some (.int .i64 b0):=cell_later (an N _) n1
     have V:=GD (by rw[bb];exact hm)
     rw[cm]at V
     clear hm h1 h2
     by_cases hc:w0.data.toList=dL
     ·have hX:bF l.data.toList=(2,R,b0):=by rw[V,if_pos hc]
      have ge:=qm hc
      clear V hc
      go_upto_region 15 with fail
      go_region
      go_upto_region 15 with fail
      obtain⟨C,c⟩:∃W,(N.alloc (.cells #[.int .i64 2, .int .i64 R, .int .i64 b0] 72)).drew=W:=⟨_,rfl⟩
      rw[c]
      have y0:C.cell? ⟨N.heap.size,0,none⟩=some (.int .i64 2):=by rw[←c];clear c;go_simp
      have y1:C.cell? ⟨N.heap.size,1,none⟩=some (.int .i64 R):=by rw[←c];clear c;go_simp
      have y2:C.cell? ⟨N.heap.size,2,none⟩=some (.int .i64 b0):=by rw[←c];clear c;go_simp
      have E:Below wr.heap.size wr C:=by rw[←c];exact aa S.out (an _ _).drew
      clear c c0 aL aq cb b5
      have D:=Lib.hid hX
      have o:=Lib.hid E
      clear hX E
      by_cases r:i=60
      ·have U:((i:Int)==60)=true:=by simp[r]
       have j:be (aI out) 0 []=([],i,2):=by rw[←z.out,n.out,be,if_neg (by omega)]
       have f:=Lib.hid j
       clear j r
       go_wp2_with fail
       all_goals go_ret3
       all_goals rw[H.out,f.out]
       all_goals exact⟨_,rfl, .nil _ _ _ _ _,aa y.out (aa B.out o.out)⟩
      have U:((i:Int)==60)=false:=by rw[beq_eq_false_iff_ne];omega
      have A:=j9 60 i (2,R,b0) C (by omega) (by omega) (by omega)
      cases m:aY 60 i (2,R,b0)with
      |false=>
       rw[m]at A
       have j:be (aI out) 0 []=([],i,2):=by rw[←z.out,n.out,be,D.out,if_neg (by rw[m];simp)]
       have f:=Lib.hid j
       have p:=Lib.hid A
       clear j A m r
       dsimp only[stpV]at p
       go_wp2_with fail
       refine p.out.mono ?_
       rintro e w8 ⟨rfl,g⟩
       go_wp2_with fail
       all_goals go_ret3
       all_goals rw[H.out,f.out]
       all_goals exact⟨_,rfl, .nil _ _ _ _ _,aa y.out (aa B.out (aa o.out g))⟩
      |true=>
       rw[m]at A
       have J:fP (2,R,b0):=jp m (by omega)
       have F:be (v0::M) (i+1) (O++[(2,R,b0)])=be (aI out) 0 []:=by rw[←z.out,n.out,be,D.out,if_pos ⟨by omega,m⟩]
       have G:=Lib.hid F
       have p:=Lib.hid A
       have K:=Lib.hid J
       clear F A m J
       dsimp only[stpV]at p
       go_wp2_with fail
       refine p.out.mono ?_
       rintro e w8 ⟨rfl,g⟩
       have q:=aa B.out (aa o.out g)
       have s:=OwnL.call (OwnL.call ab.out o.out) g
       have y0:=cell_later g y0
       have y1:=cell_later g y1
       have y2:=cell_later g y2
       obtain⟨v',W',I,ho,hg,-⟩:=OwnL.push (P:=Tryz.prog) (t:=44) (ty:=44) s Tryz.underlying44 jd rfl (vs:=[.int .i64 2, .int .i64 R, .int .i64 b0]) (x:=(2,R,b0)) (kF K.out) (by omega) (by unfold aB;omega) (by have:=q.size;omega)
       have hrel:jV (aI out) w1 v' (.int .i64 ((i:Int)+1)) W':=⟨i+1,O++[(2,R,b0)],by go_num,by simp[Y],by rw[Q];omega,by omega,by rw[T.out];exact G.out,ho,q.grown hg (by have:=q.size;omega) (fun k e=>(OwnL.lt s k e).1)⟩
       have v:=Lib.hid hrel
       clear hrel ho hg q s g
       go_wp2_with (at_builtin;refine bo rfl _ _ _ rfl rfl rfl I ?_)
       all_goals go_roundw
       all_goals first|exact v.out|(simp[intOf];done)|(simp[intOf];omega)
     have hX:bF l.data.toList=(0,0,0):=by rw[V,if_neg hc]
     have ge:=lC hc
     clear V hc
     go_upto_region 15 with fail
     obtain⟨C,c⟩:∃W,N.alloc (.cells #[.int .i64 0, .int .i64 0, .int .i64 0] 72)=W:=⟨_,rfl⟩
     rw[c]
     have y0:C.cell? ⟨N.heap.size,0,none⟩=some (.int .i64 0):=by rw[←c];clear c;go_simp
     have y1:C.cell? ⟨N.heap.size,1,none⟩=some (.int .i64 0):=by rw[←c];clear c;go_simp
     have y2:C.cell? ⟨N.heap.size,2,none⟩=some (.int .i64 0):=by rw[←c];clear c;go_simp
     have E:Below wr.heap.size wr C:=by rw[←c];exact aa S.out (an _ _)
     clear c c0 aL aq
     have D:=Lib.hid hX
     have o:=Lib.hid E
     clear hX E
     by_cases r:i=60
     ·have U:((i:Int)==60)=true:=by simp[r]
      have j:be (aI out) 0 []=([],i,2):=by rw[←z.out,n.out,be,if_neg (by omega)]
      have f:=Lib.hid j
      clear j r
      go_wp2_with fail
      all_goals go_ret3
      all_goals rw[H.out,f.out]
      all_goals exact⟨_,rfl, .nil _ _ _ _ _,aa y.out (aa B.out o.out)⟩
     have U:((i:Int)==60)=false:=by rw[beq_eq_false_iff_ne];omega
     have A:=j9 60 i (0,0,0) C (by omega) (by omega) (by omega)
     cases m:aY 60 i (0,0,0)with
     |false=>
      rw[m]at A
      have j:be (aI out) 0 []=([],i,2):=by rw[←z.out,n.out,be,D.out,if_neg (by rw[m];simp)]
      have f:=Lib.hid j
      have p:=Lib.hid A
      clear j A m r
      dsimp only[stpV]at p
      go_wp2_with fail
      refine p.out.mono ?_
      rintro e w8 ⟨rfl,g⟩
      go_wp2_with fail
      all_goals go_ret3
      all_goals rw[H.out,f.out]
      all_goals exact⟨_,rfl, .nil _ _ _ _ _,aa y.out (aa B.out (aa o.out g))⟩
     |true=>
      rw[m]at A
      have J:fP (0,0,0):=jp m (by omega)
      have F:be (v0::M) (i+1) (O++[(0,0,0)])=be (aI out) 0 []:=by rw[←z.out,n.out,be,D.out,if_pos ⟨by omega,m⟩]
      have G:=Lib.hid F
      have p:=Lib.hid A
      have K:=Lib.hid J
      clear F A m J
      dsimp only[stpV]at p
      go_wp2_with fail
      refine p.out.mono ?_
      rintro e w8 ⟨rfl,g⟩
      have q:=aa B.out (aa o.out g)
      have s:=OwnL.call (OwnL.call ab.out o.out) g
      have y0:=cell_later g y0
      have y1:=cell_later g y1
      have y2:=cell_later g y2
      obtain⟨v',W',I,ho,hg,-⟩:=OwnL.push (P:=Tryz.prog) (t:=44) (ty:=44) s Tryz.underlying44 jd rfl (vs:=[.int .i64 0, .int .i64 0, .int .i64 0]) (x:=(0,0,0)) (kF K.out) (by omega) (by unfold aB;omega) (by have:=q.size;omega)
      have hrel:jV (aI out) w1 v' (.int .i64 ((i:Int)+1)) W':=⟨i+1,O++[(0,0,0)],by go_num,by simp[Y],by rw[Q];omega,by omega,by rw[T.out];exact G.out,ho,q.grown hg (by have:=q.size;omega) (fun k e=>(OwnL.lt s k e).1)⟩
      have v:=Lib.hid hrel
      clear hrel ho hg q s g
      go_wp2_with (at_builtin;refine bo rfl _ _ _ rfl rfl rfl I ?_)
      all_goals go_roundw
      all_goals first|exact v.out|(simp[intOf];done)|(simp[intOf];omega)
    have hX:bF l.data.toList=(0,0,0):=GE (by rw[bb];exact hm) h1 h2
    have d3:((ns.length:Int)==1)=false:=by rw[beq_eq_false_iff_ne];omega
    have d4:((ns.length:Int)==2)=false:=by rw[beq_eq_false_iff_ne];omega
    clear hm h1 h2
    go_upto_region 15 with fail
    obtain⟨C,c⟩:∃W,N.alloc (.cells #[.int .i64 0, .int .i64 0, .int .i64 0] 72)=W:=⟨_,rfl⟩
    rw[c]
    have y0:C.cell? ⟨N.heap.size,0,none⟩=some (.int .i64 0):=by rw[←c];clear c;go_simp
    have y1:C.cell? ⟨N.heap.size,1,none⟩=some (.int .i64 0):=by rw[←c];clear c;go_simp
    have y2:C.cell? ⟨N.heap.size,2,none⟩=some (.int .i64 0):=by rw[←c];clear c;go_simp
    have E:Below wr.heap.size wr C:=by rw[←c];exact aa S.out (an _ _)
    clear c c0 aL aq
    have D:=Lib.hid hX
    have o:=Lib.hid E
    clear hX E
    by_cases r:i=60
    ·have U:((i:Int)==60)=true:=by simp[r]
     have j:be (aI out) 0 []=([],i,2):=by rw[←z.out,n.out,be,if_neg (by omega)]
     have f:=Lib.hid j
     clear j r
     go_wp2_with fail
     all_goals go_ret3
     all_goals rw[H.out,f.out]
     all_goals exact⟨_,rfl, .nil _ _ _ _ _,aa y.out (aa B.out o.out)⟩
    have U:((i:Int)==60)=false:=by rw[beq_eq_false_iff_ne];omega
    have A:=j9 60 i (0,0,0) C (by omega) (by omega) (by omega)
    cases m:aY 60 i (0,0,0)with
    |false=>
     rw[m]at A
     have j:be (aI out) 0 []=([],i,2):=by rw[←z.out,n.out,be,D.out,if_neg (by rw[m];simp)]
     have f:=Lib.hid j
     have p:=Lib.hid A
     clear j A m r
     dsimp only[stpV]at p
     go_wp2_with fail
     refine p.out.mono ?_
     rintro e w8 ⟨rfl,g⟩
     go_wp2_with fail
     all_goals go_ret3
     all_goals rw[H.out,f.out]
     all_goals exact⟨_,rfl, .nil _ _ _ _ _,aa y.out (aa B.out (aa o.out g))⟩
    |true=>
     rw[m]at A
     have J:fP (0,0,0):=jp m (by omega)
     have F:be (v0::M) (i+1) (O++[(0,0,0)])=be (aI out) 0 []:=by rw[←z.out,n.out,be,D.out,if_pos ⟨by omega,m⟩]
     have G:=Lib.hid F
     have p:=Lib.hid A
     have K:=Lib.hid J
     clear F A m J
     dsimp only[stpV]at p
     go_wp2_with fail
     refine p.out.mono ?_
     rintro e w8 ⟨rfl,g⟩
     have q:=aa B.out (aa o.out g)
     have s:=OwnL.call (OwnL.call ab.out o.out) g
     have y0:=cell_later g y0
     have y1:=cell_later g y1
     have y2:=cell_later g y2
     obtain⟨v',W',I,ho,hg,-⟩:=OwnL.push (P:=Tryz.prog) (t:=44) (ty:=44) s Tryz.underlying44 jd rfl (vs:=[.int .i64 0, .int .i64 0, .int .i64 0]) (x:=(0,0,0)) (kF K.out) (by omega) (by unfold aB;omega) (by have:=q.size;omega)
     have hrel:jV (aI out) w1 v' (.int .i64 ((i:Int)+1)) W':=⟨i+1,O++[(0,0,0)],by go_num,by simp[Y],by rw[Q];omega,by omega,by rw[T.out];exact G.out,ho,q.grown hg (by have:=q.size;omega) (fun k e=>(OwnL.lt s k e).1)⟩
     have v:=Lib.hid hrel
     clear hrel ho hg q s g
     go_wp2_with (at_builtin;refine bo rfl _ _ _ rfl rfl rfl I ?_)
     all_goals go_roundw
     all_goals first|exact v.out|(simp[intOf];done)|(simp[intOf];omega)
  have gl:((i:Int)<(out.length:Int)-1)=False:=eq_false (by omega)
  obtain⟨bl,ol,X,-,q0,-⟩:=(bn.out.below hB).str i (by omega)
  subst X
  obtain⟨l,Z⟩:∃l,out[i]=l:=⟨_,rfl⟩
  have L:(aI out).drop i=[l.data.toList]:=by
   rw[List.drop_eq_getElem_cons (by rw[Q];omega),List.drop_of_length_le (by rw[Q];omega)]
   simp[aI,Z]
  rw[Z]at q0
  have q1:wr.cell? ⟨bl,ol+(out.length-1),none⟩=some (.string l):=by rw[show out.length-1=i by omega];exact q0
  obtain⟨aP,cP,rfl,-⟩:=OwnSt.steps ab.out
  have bq:=Lib.hid (show(i:Int)=(out.length:Int)-1 by omega)
  have bP:=Lib.hid (aa y.out B.out)
  have d5:(0:Int)≤(out.length:Int)-1:=by omega
  have d6:(out.length:Int)-1<(out.length:Int):=by omega
  have c9:out.length≤65537:=by omega
  by_cases au:l.data.toList=[]
  ·have cT:l=⟨#[]⟩:=m5 (by rw[au])
   subst cT
   by_cases a9:O=[]
   ·subst a9
    have f:=Lib.hid (show be (aI out) 0 []=([],i,2)by rw[←z.out,L,be,if_neg (by simp)])
    clear L hp hO hB Z au q0 Y hi bU
    go_wp2_with fail
    all_goals go_ret3
    all_goals rw[H.out,f.out]
    all_goals refine⟨_,?_, .nil _ _ _ _ _,bP.out⟩
    all_goals(show _=Ending.returned (.tuple #[_, .int .i64 (i:Int), .int .i64 2]);rw[bq.out];rfl)
   have f:=Lib.hid (show be (aI out) 0 []=(O,0,0)by rw[←z.out,L,be,if_pos ⟨au,a9⟩])
   have ea:((O.length:Int)==0)=false:=by
    rw[beq_eq_false_iff_ne]
    intro e
    exact a9 (List.length_eq_zero_iff.1 (by omega))
   clear L hp hO hB Z au q0 Y hi bU a9
   go_wp2_with fail
   all_goals go_ret3
   all_goals rw[H.out,f.out]
   all_goals exact⟨_,rfl,OwnL.baseMono ab.out y.out.size,bP.out⟩
  have f:=Lib.hid (show be (aI out) 0 []=([],i,2)by rw[←z.out,L,be,if_neg (fun e=>au e.1)])
  have hq:(l.toList== [])=false:=nH au
  clear L hp hO hB Z au q0 Y hi bU
  go_wp2_with fail
  all_goals go_ret3
  all_goals rw[H.out,f.out]
  all_goals refine⟨_,?_, .nil _ _ _ _ _,bP.out⟩
  all_goals(show _=Ending.returned (.tuple #[_, .int .i64 (i:Int), .int .i64 2]);rw[bq.out];rfl)
def fC(n:Nat):ByteArray:=⟨(Lib.itoa (n:Int)).toArray⟩
theorem ui(n:Nat):(fC n).data.toList=Lib.itoa (n:Int):=rfl
theorem ko{n:Nat}(h:n<60):(fC n).size≤2:=by
 have f:=ew ⟨n,h⟩
 have:(fC n).size=(Lib.itoa (n:Int)).length:=by unfold fC;simp[ByteArray.size]
 rw[this,je (by omega)];exact f.2.2.1
theorem wR{a:Nat}:(⟨#[99,105,116,101,32]⟩:ByteArray)++fC a++⟨#[10]⟩=⟨(bD (1,(a:Int),0)).toArray⟩:=by
 refine ByteArray.ext (Array.toList_inj.1 ?_)
 rw[ByteArray.data_append,ByteArray.data_append,Array.toList_append,Array.toList_append,ui]
 unfold bD dA;rw[if_pos rfl];simp[dU]
theorem wT{a b:Nat}:(⟨#[100,101,116,97,99,104,32]⟩:ByteArray)++fC a++⟨#[32]⟩++fC b++⟨#[10]⟩=⟨(bD (2,(a:Int),(b:Int))).toArray⟩:=by
 refine ByteArray.ext (Array.toList_inj.1 ?_)
 simp only[ByteArray.data_append,Array.toList_append,ui]
 unfold bD dA;rw[if_neg (by simp)];simp[dL]
theorem qU{i:Nat}{x:Stp}(h:aY 60 i x=true)(hi:i≤60):(bD x).length≤13:=by
 unfold bD
 rcases jq h hi with⟨a,ha,rfl⟩|⟨a,b,ha,c,rfl⟩
 ·have f:=ew ⟨a,ha⟩
  have:(dg a).length≤2:=f.2.2.1
  rw[lN ha];simp[dU];omega
 have f:=ew ⟨a,ha⟩
 have g:=ew ⟨b,c⟩
 have:(dg a).length≤2:=f.2.2.1
 have:(dg b).length≤2:=g.2.2.1
 rw[lO ha c];simp[dL];omega
theorem I6{i:Nat}(x:Stp)(hx:aY 60 i x=true)(hi:i≤60)(w:World):
  Calls Tryz.prog 77 #[stpV x] w fun e w'=>e= .returned (.string ⟨(bD x).toArray⟩)∧Below w.heap.size w w':=by
 rcases jq hx hi with⟨a,ha,rfl⟩|⟨a,b,ha,y,rfl⟩
 ·have v:=fun W=>kQ (a:Int) (by omega) (by omega) W
  have k:=wR (a:=a)
  have hs:=ko ha
  obtain⟨D,j⟩:∃D,fC a=D:=⟨_,rfl⟩
  have o:∀W,Calls Tryz.prog 120 #[.int .i64 (a:Int)] W fun e w'=>e= .returned (.string D)∧W=w':=fun W=>by rw[←j];exact v W
  rw[j]at k hs
  obtain⟨h,c⟩:∃W,w.alloc (.cells #[.int .i64 1, .int .i64 (a:Int), .int .i64 0] 72)=W:=⟨_,rfl⟩
  have f:Below w.heap.size w h:=by rw[←c];exact an w _
  have A:h.cell? ⟨w.heap.size,0,none⟩=some (.int .i64 1):=by rw[←c];clear c;go_simp
  have B:h.cell? ⟨w.heap.size,1,none⟩=some (.int .i64 (a:Int)):=by rw[←c];clear c;go_simp
  have C:(9223372036854775807<5+D.size)=False:=eq_false (by omega)
  have E:(9223372036854775807<5+D.size+1)=False:=eq_false (by omega)
  have s:=Lib.hid o
  have l:=Lib.hid k
  have g:=Lib.hid f
  clear v o k j f hx
  dsimp only[stpV]
  go_enter Tryz.func77,Tryz.ntmps77
  go_wp2_with fail
  try rw[c]
  go_wp2_with fail
  refine(s.out _).mono ?_
  rintro e J ⟨rfl,rfl⟩
  go_wp2_with fail
  go_ret
  exact⟨by rw[←l.out];rfl,g.out⟩
 have t:=fun W=>kQ (a:Int) (by omega) (by omega) W
 have u:=fun W=>kQ (b:Int) (by omega) (by omega) W
 have k:=wT (a:=a) (b:=b)
 have hs:=ko ha
 have z:=ko y
 obtain⟨D,j⟩:∃D,fC a=D:=⟨_,rfl⟩
 obtain⟨F,p⟩:∃F,fC b=F:=⟨_,rfl⟩
 have m:∀W,Calls Tryz.prog 120 #[.int .i64 (a:Int)] W fun e w'=>e= .returned (.string D)∧W=w':=fun W=>by rw[←j];exact t W
 have n:∀W,Calls Tryz.prog 120 #[.int .i64 (b:Int)] W fun e w'=>e= .returned (.string F)∧W=w':=fun W=>by rw[←p];exact u W
 rw[j,p]at k
 rw[j]at hs
 rw[p]at z
 obtain⟨h,c⟩:∃W,w.alloc (.cells #[.int .i64 2, .int .i64 (a:Int), .int .i64 (b:Int)] 72)=W:=⟨_,rfl⟩
 have f:Below w.heap.size w h:=by rw[←c];exact an w _
 have A:h.cell? ⟨w.heap.size,0,none⟩=some (.int .i64 2):=by rw[←c];clear c;go_simp
 have B:h.cell? ⟨w.heap.size,1,none⟩=some (.int .i64 (a:Int)):=by rw[←c];clear c;go_simp
 have G:h.cell? ⟨w.heap.size,2,none⟩=some (.int .i64 (b:Int)):=by rw[←c];clear c;go_simp
 have C:(9223372036854775807<7+D.size)=False:=eq_false (by omega)
 have E:(9223372036854775807<7+D.size+1)=False:=eq_false (by omega)
 have H:(9223372036854775807<7+D.size+1+F.size)=False:=eq_false (by omega)
 have I:(9223372036854775807<7+D.size+1+F.size+1)=False:=eq_false (by omega)
 have q:=Lib.hid m
 have r:=Lib.hid n
 have l:=Lib.hid k
 have g:=Lib.hid f
 clear t u m n k j p f hx
 dsimp only[stpV]
 go_enter Tryz.func77,Tryz.ntmps77
 go_wp2_with fail
 try rw[c]
 go_wp2_with fail
 go_quiet ((go_at_call 120;first|(with_reducible exact fl (q.out _))|(with_reducible exact fl (r.out _))))
 go_wp2_with fail
 go_ret
 exact⟨by rw[←l.out];rfl,fW g.out nq⟩
def uH(p:List Stp)(w:World)(sV iV:Value)(wr:World):Prop:=
 ∃k:Nat,iV= .int .i64 k∧k≤p.length∧sV= .string ⟨((p.take k).flatMap bD).toArray⟩∧Below w.heap.size w wr
theorem qj{p:List Stp}(h:a8 60 0 p=true)(h60:p.length≤60):∀k,k≤p.length→((p.take k).flatMap bD).length≤13*k
 |0,_=>by simp
 |k+1,hk=>by
  have ih:=qj h h60 k (by omega)
  have hr:=ky p 0 k (by omega) h
  rw[Nat.zero_add]at hr
  have a:=qU hr (by omega)
  rw[List.take_succ_eq_append_getElem (by omega),List.flatMap_append,List.length_append]
  simp only[List.flatMap_cons,List.flatMap_nil,List.append_nil]
  omega
theorem uI{p:List Stp}{k:Nat}(h:k<p.length):(p.take (k+1)).flatMap bD=(p.take k).flatMap bD++bD p[k]:=by
 rw[List.take_succ_eq_append_getElem h,List.flatMap_append];simp
theorem F8{S:Nat→Prop}(a:Option Addr)(c:Nat)(p:List Stp)(w:World)(h:Steps S w a c p):
  Calls Tryz.prog 34 #[.slice a p.length c] w fun e w'=>e= .returned (.string ⟨(ei p).toArray⟩)∧Below w.heap.size w w':=by
 have r:=rD 60 a c p w h
 have m:bk 60 p=dE 60 p:=by unfold bk;simp
 rw[m]at r
 cases q:dE 60 p with
 |false=>
  rw[q]at r
  have g:=Lib.hid r
  have n:=Lib.hid (show ei p=[]by unfold ei;rw[q];rfl)
  clear r h q m
  go_enter Tryz.func34,Tryz.ntmps34
  go_wp2_with fail
  refine g.out.mono ?_
  rintro e I ⟨rfl,f⟩
  go_wp2_with fail
  go_ret
  exact⟨by rw[n.out];rfl,f⟩
 |true=>
  rw[q]at r
  obtain⟨ok,V,R⟩:=zW q
  have g:=Lib.hid r
  have O:=Lib.hid h
  have H:=Lib.hid ok
  have n:=Lib.hid (show ei p=(p.take p.length).flatMap bD by unfold ei;rw[q,if_pos rfl,List.take_length])
  have F:=Lib.hid (qj ok R)
  clear r h q m ok
  go_enter Tryz.func34,Tryz.ntmps34
  go_wp2_with fail
  refine g.out.mono ?_
  rintro e I ⟨rfl,f⟩
  have i:=Lib.hid f
  clear f g
  go_wp2_with fail
  go_loopw [3,4] (fun sV iV wr=>uH p I sV iV wr) (fun _ iV _=>p.length-(intOf iV).toNat)
  case atStart=>exact⟨0,rfl,Nat.zero_le _,rfl,Below.refl _ _⟩
  case round=>
   obtain⟨k,rfl,U,rfl,u⟩:=hrel
   by_cases l:k<p.length
   ·obtain⟨T,Q,E,-,J,K,L,-⟩:=Sl.stp ((O.out.below i.out).below u) k l
    subst E
    have hr:=ky p 0 k l H.out
    rw[Nat.zero_add]at hr
    have cw:=fun W=>I6 p[k] hr (by omega) W
    have b:=uI l
    have P:=F.out k (by omega)
    have G:=qU hr (by omega)
    obtain⟨x,B⟩:∃x,p[k]=x:=⟨_,rfl⟩
    rw[B]at J K L cw b G
    obtain⟨A,hA⟩:∃A:ByteArray,(⟨((p.take k).flatMap bD).toArray⟩:ByteArray)=A:=⟨_,rfl⟩
    obtain⟨D,C⟩:∃D:ByteArray,(⟨(bD x).toArray⟩:ByteArray)=D:=⟨_,rfl⟩
    have M:A.size≤780:=by rw[←hA];show((p.take k).flatMap bD).toArray.size≤780;rw[List.size_toArray];omega
    have N:D.size≤13:=by rw[←C];show(bD x).toArray.size≤13;rw[List.size_toArray];omega
    have y:A++D=⟨((p.take (k+1)).flatMap bD).toArray⟩:=by
     refine ByteArray.ext (Array.toList_inj.1 ?_)
     rw[ByteArray.data_append,Array.toList_append,b,←hA,←C]
    have s:∀W,Calls Tryz.prog 77 #[stpV x] W fun e w'=>e= .returned (.string D)∧Below W.heap.size W w':=fun W=>by rw[←C];exact cw W
    have X:(9223372036854775807<A.size+D.size)=False:=eq_false (by omega)
    have t:=Lib.hid s
    have z:=Lib.hid y
    have j:=Lib.hid u
    rw[hA]
    clear cw s y u hA C b B hr
    obtain⟨Y,Z,x3⟩:=x
    dsimp only at J K L
    dsimp only[stpV]at t
    go_wp2_with fail
    refine(t.out _).mono ?_
    rintro e w2 ⟨rfl,v⟩
    have hrel:uH p I (.string (A++D)) (.int .i64 ((k:Int)+1)) w2:=⟨k+1,by go_num,by omega,by rw[z.out],aa j.out v⟩
    have o:=Lib.hid hrel
    clear hrel v
    go_wp2_with fail
    all_goals go_roundw
    all_goals first|exact o.out|(simp[intOf];done)|(simp[intOf];omega)
   obtain rfl:k=p.length:=by omega
   have j:=Lib.hid u
   clear u
   rw[←n.out]
   go_wp2_with fail
   all_goals go_ret
   all_goals exact⟨rfl,aa i.out j.out⟩
theorem EU{l:List ByteArray}{k:Nat}(hk:k<l.length):(fun z=>if z=l[k]then true else bC (l.take k) z)=bC (l.take (k+1)):=by
 funext z
 rw[nR hk]
 by_cases e:z=l[k]
 ·rw[if_pos e,decide_eq_true e.symm,Bool.or_true]
 rw[if_neg e,decide_eq_false (fun h=>e h.symm),Bool.or_false]
theorem B7{l:List ByteArray}{k:Nat}(hk:k<l.length):(if bC (l.take k) l[k]=true then eI [] (l.take k)else eI [] (l.take k)+1)=eI [] (l.take (k+1)):=by
 rw[List.take_succ_eq_append_getElem hk,tW,List.nil_append]
 split<;>rfl
abbrev SSet (w:World) (b M n:Nat) (f:ByteArray→Bool):Prop:=SMap Tryz.prog 9 4 w b M n f
def Cv(l:List ByteArray)(w:World)(i:Value)(wr:World):Prop:=
 ∃k:Nat,i= .int .i64 k∧k≤l.length∧SSet wr w.heap.size k (eI [] (l.take k)) (bC (l.take k))∧Below w.heap.size w wr
theorem um{S:Nat→Prop}(a:Option Addr)(c:Nat)(l:List ByteArray)(w:World)(h:Sl strE S w a c l)(hl:l.length≤1000000):
  Calls Tryz.prog 51 #[.slice a l.length c] w fun e w'=>e= .returned (.bool (decide l.Nodup))∧Below w.heap.size w w':=by
 have m:=h.le
 have J:= @run_makeMap Tryz.prog
 have G:=Lib.hid h
 clear h
 go_enter Tryz.func51,Tryz.ntmps51
 go_wp2_with fail
 go_loopw [9] (fun i wr=>Cv l w i wr) (fun i _=>l.length-(intOf i).toNat)
 case atStart=>exact⟨0,rfl,Nat.zero_le _,(funext (fun x=>by simp[bC]):bC (l.take 0)=fun _=>false)▸SMap.made w,an _ _⟩
 case round=>
  obtain⟨k,rfl,H,u,s⟩:=hrel
  by_cases f:k<l.length
  ·obtain⟨b,o,rfl,-,q,E⟩:=G.out.str k f
   have p:=(s.cell (p:=⟨b,o+k,none⟩) (World.block_lt_of_cell? w _ q)).trans q
   clear q
   have K:=u.lt
   obtain⟨w2,F,r,z⟩:=u.store (tm:=82) Tryz.underlying82 Tryz.underlying9 Tryz.underlying4 (by unfold maxLen;omega) l[k] (fA E)
   rw[EU f,B7 f]at r
   obtain⟨x,hx⟩:∃x,l[k]=x:=⟨_,rfl⟩
   rw[hx]at p F
   have y:=Lib.hid r
   have A:=Lib.hid z
   clear r z hx u
   go_wp2_with fail
   go_roundw
   case rel=>exact⟨k+1,by go_num,by omega,y.out,s.grown A.out s.size (fun j e=>by cases e;exact Nat.le_refl _)⟩
   case measure=>simp[intOf];omega
  have g:=u.len (tm:=82) Tryz.underlying82 3
  have t:k=l.length:=by omega
  rw[t,List.take_length]at g
  have B:=tU l [] List.nodup_nil
  rw[List.nil_append]at B
  obtain⟨n,v⟩:∃n,eI [] l=n:=⟨_,rfl⟩
  rw[v]at g B
  have I:((k:Int)<(l.length:Int))=False:=eq_false (by omega)
  have hf:((n:Int)==(l.length:Int))=decide l.Nodup:=by
   rw[Bool.eq_iff_iff,beq_iff_eq,decide_eq_true_eq,←B]
   exact⟨fun h=>by omega,fun h=>by omega⟩
  have D:=Lib.hid hf
  have C:=Lib.hid s
  clear hf B t u s v f H
  go_wp2_with fail
  go_ret
  exact⟨aF D.out,C.out⟩
def jc{α:Type}(l:List α)(pd:α→Bool):Int:=match l.findIdx? pd with|some i=>(i:Int)|none=>-1
theorem v6{α:Type}{l:List α}{pd:α→Bool}{k:Nat}(hk:k<l.length)(h1:∀j (hj:j<k),pd (l[j]'(by omega))=false)(h2:pd l[k]=true):jc l pd=k:=by
 unfold jc
 have:l.findIdx? pd=some k:=by
  rw[List.findIdx?_eq_some_iff_getElem]
  exact⟨hk,h2,fun j hj=>by rw[h1 j hj];simp⟩
 rw[this]
theorem vZ{α:Type}{l:List α}{pd:α→Bool}(h:∀j (hj:j<l.length),pd l[j]=false):jc l pd=-1:=by
 unfold jc
 have:l.findIdx? pd=none:=by
  rw[List.findIdx?_eq_none_iff]
  intro x hx
  obtain⟨j,hj,rfl⟩:=List.getElem_of_mem hx
  exact h j hj
 rw[this]
theorem DU{α:Type}(l:List α)(pd:α→Bool):decide (0≤jc l pd)=l.any pd:=by
 unfold jc
 cases h:l.findIdx? pd with
 |none=>
  rw[List.findIdx?_eq_none_iff]at h
  have:l.any pd=false:=by rw[List.any_eq_false];intro x hx;rw[h x hx];simp
  rw[this];rfl
 |some i=>
  rw[List.findIdx?_eq_some_iff_getElem]at h
  obtain⟨b,a,-⟩:=h
  have:l.any pd=true:=by rw[List.any_eq_true];exact⟨l[i],List.getElem_mem b,a⟩
  rw[this]
  simp
def Em(l:List ByteArray)(pd:ByteArray→Bool)(w:World)(i:Value)(wr:World):Prop:=
 ∃k:Nat,i= .int .i64 k∧k≤l.length∧(∀j (hj:j<k) (hl:j<l.length),pd l[j]=false)∧Below w.heap.size w wr
def sT(g:FuncId)(cb:Array Value)(l:List ByteArray)(pd:ByteArray→Bool)(w:World):Prop:=
 ∀(i:Nat) (hi:i<l.length) (W:World),Below w.heap.size w W→Calls Tryz.prog g (#[.string l[i]]++cb) W fun e w'=>e= .returned (.bool (pd l[i]))∧Below W.heap.size W w'
theorem Aw{S:Nat→Prop}(a:Option Addr)(c:Nat)(l:List ByteArray)(g:FuncId)(cb:Array Value)(eg:∀args w,(callFunc g args).run Tryz.prog w= .ok (.enter g args) w)(pd:ByteArray→Bool)(w:World)(h:Sl strE S w a c l)(hf:sT g cb l pd w):
  Calls Tryz.prog 128 #[.slice a l.length c, .func (.func g) #[] cb] w fun e w'=>e= .returned (.int .i64 (jc l pd))∧Below w.heap.size w w':=by
 have m:=h.le
 have F:=Lib.hid h
 have D:=Lib.hid hf
 clear h hf
 go_enter Tryz.func128,Tryz.ntmps128
 go_wp2_with fail
 go_loopw [8] (fun i wr=>Em l pd w i wr) (fun i _=>l.length-(intOf i).toNat)
 case atStart=>exact⟨0,rfl,Nat.zero_le _,fun j z=>by omega, .refl _ _⟩
 case round=>
  obtain⟨k,rfl,G,r,t⟩:=hrel
  by_cases s:k<l.length
  ·obtain⟨b,o,rfl,-,q,I⟩:=F.out.str k s
   have p:=(t.cell (p:=⟨b,o+k,none⟩) (World.block_lt_of_cell? w _ q)).trans q
   clear q
   have y:=D.out k s wr t
   cases A:pd l[k]with
   |true=>
    have n:=v6 s (fun j z=>r j z (by omega)) A
    have x:=Lib.hid n
    rw[A]at y
    have v:=Lib.hid y
    have f:=Lib.hid t
    clear n y A r t
    go_wp2_with (first|(go_at_fn g;refine v.out.mono ?_;rintro e w2 ⟨rfl,C⟩)|go_in)
    go_ret
    exact⟨fd x.out.symm,f.out.trans (C.mono f.out.size)⟩
   |false=>
    have u:∀j (z:j<k+1) (E:j<l.length),pd l[j]=false:=fun j z E=>by
     by_cases e:j=k
     ·subst e;exact A
     exact r j (by omega) E
    rw[A]at y
    have v:=Lib.hid y
    have f:=Lib.hid t
    have B:=Lib.hid u
    clear y A r u t
    go_wp2_with (first|(go_at_fn g;refine v.out.mono ?_;rintro e w2 ⟨rfl,C⟩)|go_in)
    go_roundw
    case rel=>exact⟨k+1,by go_num,by omega,B.out,f.out.trans (C.mono f.out.size)⟩
    case measure=>simp[intOf];omega
  have H:((k:Int)<(l.length:Int))=False:=eq_false (by omega)
  have n:=Lib.hid (vZ (fun j z=>r j (by omega) z))
  have f:=Lib.hid t
  clear r t s G
  go_wp2_with fail
  go_ret
  exact⟨fd n.out.symm,f.out⟩
theorem An{S:Nat→Prop}(a:Option Addr)(c:Nat)(l:List ByteArray)(g:FuncId)(cb:Array Value)(eg:∀args w,(callFunc g args).run Tryz.prog w= .ok (.enter g args) w)(pd:ByteArray→Bool)(w:World)(h:Sl strE S w a c l)(hf:sT g cb l pd w):
  Calls Tryz.prog 96 #[.slice a l.length c, .func (.func g) #[] cb] w fun e w'=>e= .returned (.bool (l.any pd))∧Below w.heap.size w w':=by
 have i:=Aw a c l g cb eg pd w h hf
 have hg:=DU l pd
 have b:=Lib.hid i
 have f:=Lib.hid hg
 clear i h hf hg
 go_enter Tryz.func96,Tryz.ntmps96
 go_wp2_with (go_at_call 128;refine b.out.mono ?_;rintro e w' ⟨rfl,j⟩)
 go_ret
 exact⟨aF f.out,j⟩
theorem LN.call{p0 p1:Addr}{u0 u1:Value}{W w1 w2:World}(h:w1.cell? p0=some u0∧w1.cell? p1=some u1∧Below W.heap.size W w1)(hb:Below w1.heap.size w1 w2):
  w2.cell? p0=some u0∧w2.cell? p1=some u1∧Below W.heap.size W w2:=⟨cell_later hb h.1,cell_later hb h.2.1,h.2.2.trans (hb.mono h.2.2.size)⟩
theorem EI{i:Nat}(x:Stp)(hx:aY 60 i x=true)(hi:i≤60)(w:World)(htab:TabW w):
  Calls Tryz.prog 56 #[stpV x] w fun e w'=>e= .returned (.string ⟨(bD x).toArray⟩)∧Below w.heap.size w w':=by
 rcases jq hx hi with⟨a,ha,rfl⟩|⟨a,b,ha,k,rfl⟩
 ·have o:=wR (a:=a)
  have hs:=ko ha
  obtain⟨f,c⟩:∃W,w.alloc (.cells #[.int .i64 1, .int .i64 (a:Int), .int .i64 0] 72)=W:=⟨_,rfl⟩
  have h:Below w.heap.size w f:=by rw[←c];exact an w _
  have G:=mE (a:Int) (by omega) (by omega) f (TabW.below htab h)
  obtain⟨D,l⟩:∃D,fC a=D:=⟨_,rfl⟩
  have s:Calls Tryz.prog 107 #[.int .i64 (a:Int)] f fun e w'=>e= .returned (.string D)∧Below f.heap.size f w':=by rw[←l];exact G
  rw[l]at o hs
  have L:f.cell? ⟨w.heap.size,0,none⟩=some (.int .i64 1):=by rw[←c];clear c;go_simp
  have H:f.cell? ⟨w.heap.size,1,none⟩=some (.int .i64 (a:Int)):=by rw[←c];clear c;go_simp
  have N:(9223372036854775807<5+D.size)=False:=eq_false (by omega)
  have O:(9223372036854775807<5+D.size+1)=False:=eq_false (by omega)
  have A:=Lib.hid s
  have p:=Lib.hid o
  have j:=Lib.hid h
  clear G s o l h hx htab
  dsimp only[stpV]
  go_enter Tryz.func56,Tryz.ntmps56
  go_wp2_with fail
  try rw[c]
  go_wp2_with fail
  refine A.out.mono ?_
  rintro e T ⟨rfl,B⟩
  go_wp2_with fail
  go_ret
  exact⟨by rw[←p.out];rfl,aa j.out B⟩
 have o:=wT (a:=a) (b:=b)
 have hs:=ko ha
 have J:=ko k
 obtain⟨f,c⟩:∃W,w.alloc (.cells #[.int .i64 2, .int .i64 (a:Int), .int .i64 (b:Int)] 72)=W:=⟨_,rfl⟩
 have h:Below w.heap.size w f:=by rw[←c];exact an w _
 have C:=fun W (k:Below f.heap.size f W)=>mE (a:Int) (by omega) (by omega) W (TabW.below htab (aa h k))
 have E:=fun W (k:Below f.heap.size f W)=>mE (b:Int) (by omega) (by omega) W (TabW.below htab (aa h k))
 obtain⟨D,l⟩:∃D,fC a=D:=⟨_,rfl⟩
 obtain⟨F,u⟩:∃F,fC b=F:=⟨_,rfl⟩
 have q:∀W,Below f.heap.size f W→Calls Tryz.prog 107 #[.int .i64 (a:Int)] W fun e w'=>e= .returned (.string D)∧Below W.heap.size W w':=fun W k=>by rw[←l];exact C W k
 have r:∀W,Below f.heap.size f W→Calls Tryz.prog 107 #[.int .i64 (b:Int)] W fun e w'=>e= .returned (.string F)∧Below W.heap.size W w':=fun W k=>by rw[←u];exact E W k
 rw[l,u]at o
 rw[l]at hs
 rw[u]at J
 have L:f.cell? ⟨w.heap.size,0,none⟩=some (.int .i64 2):=by rw[←c];clear c;go_simp
 have H:f.cell? ⟨w.heap.size,1,none⟩=some (.int .i64 (a:Int)):=by rw[←c];clear c;go_simp
 have M:f.cell? ⟨w.heap.size,2,none⟩=some (.int .i64 (b:Int)):=by rw[←c];clear c;go_simp
 have N:(9223372036854775807<7+D.size)=False:=eq_false (by omega)
 have O:(9223372036854775807<7+D.size+1)=False:=eq_false (by omega)
 have Q:(9223372036854775807<7+D.size+1+F.size)=False:=eq_false (by omega)
 have R:(9223372036854775807<7+D.size+1+F.size+1)=False:=eq_false (by omega)
 have y:=Lib.hid q
 have z:=Lib.hid r
 have p:=Lib.hid o
 have j:=Lib.hid h
 clear C E q r o l u h hx htab
 dsimp only[stpV]
 go_enter Tryz.func56,Tryz.ntmps56
 go_wp2_with fail
 try rw[c]
 go_wp2_with fail
 refine wp_region_held_drew (S:=fun w'=>w'.cell? ⟨w.heap.size,1,none⟩=some (.int .i64 (a:Int))∧w'.cell? ⟨w.heap.size,2,none⟩=some (.int .i64 (b:Int))∧Below f.heap.size f w') (by kernel_rfl) ⟨H,M,(Below.refl _ _).drew⟩ (fun hS=> ?_)
 refine ak 0 11 (v:= ?_) hS ?_ ?_;rotate_left;·(intro m g;go_simp;try(with_reducible rfl))
 refine ak 1 12 (v:= ?_) hS ?_ ?_;rotate_left;·(intro m g;go_simp;try(with_reducible rfl))
 refine ak 5 16 (v:= ?_) hS ?_ ?_;rotate_left;·(intro m g;go_simp;try(with_reducible rfl))
 refine ak 6 17 (v:= ?_) hS ?_ ?_;rotate_left;·(intro m g;go_simp;try(with_reducible rfl))
 refine bI 2 rfl (by kernel_rfl) (fun K t=> ?_)
 go_simp
 refine(y.out _ hS.2.2).mono ?_
 rintro e P ⟨rfl,n⟩
 refine t.out _ _ (LN.call hS n) ?_
 clear hS t
 intro hS
 refine ak 3 14 (v:= ?_) hS ?_ ?_;rotate_left;·(intro m g;go_simp;try(with_reducible rfl))
 refine ak 4 15 (v:= ?_) hS ?_ ?_;rotate_left;·(intro m g;go_simp;try(with_reducible rfl))
 refine bI 7 rfl (by kernel_rfl) (fun K t=> ?_)
 go_simp
 refine(z.out _ hS.2.2).mono ?_
 rintro e P ⟨rfl,n⟩
 refine t.out _ _ (LN.call hS n) ?_
 clear hS t
 intro hS
 refine ak 8 19 (v:= ?_) hS ?_ ?_;rotate_left;·(intro m g;go_simp;try(with_reducible rfl))
 refine ak 9 20 (v:= ?_) hS ?_ ?_;rotate_left;·(intro m g;go_simp;try(with_reducible rfl))
 refine ak 10 2 (v:= ?_) hS ?_ ?_;rotate_left;·(intro m g;go_simp;try(with_reducible rfl))
 refine wpAnyH_done (by kernel_rfl) ?_ _
 have I:=hS.2.2
 clear hS
 go_wp2_with fail
 go_ret
 exact⟨by rw[←p.out];rfl,aa j.out I⟩
def uM(p:List Stp)(w1:World)(iV:Value)(wr:World):Prop:=
 ∃k:Nat,iV= .int .i64 k∧k≤p.length∧IsBld wr w1.heap.size w1.heap.size ((p.take k).flatMap bD)∧Below w1.heap.size w1 wr
theorem As{S:Nat→Prop}(a:Option Addr)(c:Nat)(p:List Stp)(w:World)(h:Steps S w a c p)(htab:TabW w):
  Calls Tryz.prog 20 #[.slice a p.length c] w fun e w'=>e= .returned (.string ⟨(ei p).toArray⟩)∧Below w.heap.size w w':=by
 have E:=qQ 60 a c p w h (by omega) (by omega)
 cases B:dE 60 p with
 |false=>
  rw[B]at E
  have m:=Lib.hid E
  have y:=Lib.hid (show ei p=[]by unfold ei;rw[B];rfl)
  clear E h B htab
  go_enter Tryz.func20,Tryz.ntmps20
  go_wp2_with fail
  refine m.out.mono ?_
  rintro e r ⟨rfl,j⟩
  go_wp2_with fail
  go_ret
  exact⟨by rw[y.out];rfl,j⟩
 |true=>
  rw[B]at E
  obtain⟨ok,p1,p2⟩:=zW B
  have m:=Lib.hid E
  have hH:=Lib.hid h
  have A:=Lib.hid htab
  have ab:=Lib.hid ok
  have y:=Lib.hid (show ei p=(p.take p.length).flatMap bD by unfold ei;rw[B,if_pos rfl,List.take_length])
  have X:=Lib.hid (qj ok p2)
  clear E h B ok htab
  go_enter Tryz.func20,Tryz.ntmps20
  go_wp2_with fail
  refine m.out.mono ?_
  rintro e r ⟨rfl,j⟩
  have g:=Lib.hid j
  have M:=Lib.hid (IsBld.new r)
  clear j m
  go_wp2_with fail
  go_loopw [5,11] (fun _ iV wr=>uM p r iV wr) (fun _ iV _=>p.length-(intOf iV).toNat)
  case atStart=>exact⟨0,rfl,Nat.zero_le _,M.out,an _ _⟩
  case round=>
   obtain⟨k,rfl,hk,i,C⟩:=hrel
   by_cases v:k<p.length
   ·obtain⟨bp,aL,U,-,r0,r1,r2,-⟩:=Sl.stp ((hH.out.below g.out).below C) k v
    subst U
    have hr:=ky p 0 k v ab.out
    rw[Nat.zero_add]at hr
    have b:=uI v
    have Y:=X.out k (by omega)
    have Z:=qU hr (by omega)
    obtain⟨x,N⟩:∃x,p[k]=x:=⟨_,rfl⟩
    rw[N]at r0 r1 r2 hr b Z
    obtain⟨F,G,H⟩:=x
    dsimp only at r0 r1 r2
    obtain⟨P,t⟩:∃W,wr.alloc (.cells #[.int .i64 F, .int .i64 G, .int .i64 H] 72)=W:=⟨_,rfl⟩
    have l:Below wr.heap.size wr P:=by rw[←t];exact an wr _
    have hX:P.heap[wr.heap.size]?=some (.cells #[.int .i64 F, .int .i64 G, .int .i64 H] 72 (0,0)):=by rw[←t];exact heap_alloc_new wr _
    obtain⟨q0,q1,q2⟩:=H8 hX
    have Q:=EI (F,G,H) hr (by omega) P (TabW.below A.out (aa g.out (aa C l)))
    obtain⟨D,O⟩:∃D:ByteArray,(⟨(bD (F,G,H)).toArray⟩:ByteArray)=D:=⟨_,rfl⟩
    have R:D.data.toList=bD (F,G,H):=by rw[←O]
    have ax:D.size≤13:=by rw[←O];show(bD (F,G,H)).toArray.size≤13;rw[List.size_toArray];omega
    rw[O]at Q
    have q:=i.below l
    have I:=Lib.hid Q
    have f:=Lib.hid q
    have L:=Lib.hid (aa C l)
    obtain⟨T,hT⟩:∃T,(p.take k).flatMap bD=T:=⟨_,rfl⟩
    rw[hT]at f Y b
    dsimp only[stpV]at I
    clear Q q i C hX O hr N hT l
    go_wp2_with fail
    try rw[t]
    go_wp2_with fail
    refine I.out.mono ?_
    rintro e w2 ⟨rfl,u⟩
    have o:=f.out.below u
    have J:=aa L.out u
    have s:=Lib.hid o
    have n:=Lib.hid J
    clear u o J
    go_wp2_with fail
    refine(tg r.heap.size r.heap.size T D w2 s.out (by omega) n.out.size).mono ?_
    rintro e w3 ⟨rfl,b1,b2,b3⟩
    have hrel:uM p r (.int .i64 ((k:Int)+1)) w3:=⟨k+1,by go_num,by omega,by rw[b,←R];exact b1,n.out.trans b2⟩
    have z:=Lib.hid hrel
    clear hrel b1 b2 b3
    go_wp2_with fail
    all_goals go_roundw
    all_goals first|exact z.out|(simp[intOf];done)|(simp[intOf];omega)
   obtain rfl:k=p.length:=by omega
   have K:=Lib.hid C
   have f:=Lib.hid i
   clear C i
   go_wp2_with fail
   refine(s8 r.heap.size r.heap.size _ wr f.out K.out.size).mono ?_
   rintro e w3 ⟨rfl,V⟩
   go_wp2_with fail
   all_goals go_ret
   all_goals exact⟨by rw[y.out,List.take_length];rfl,aa g.out (K.out.trans V)⟩
end Go.Proofs.YtlejmeegkpdabaaGreatDoor
