/- The proof of a statement, some of its texts joined in build order: part J. -/
import Derived.Test.YtlejmeegkpdabaaGreatDoorMxH
set_option maxHeartbeats 8000000
set_option maxRecDepth 100000
namespace Go.Proofs.YtlejmeegkpdabaaGreatDoor
open Go Go.RowKit Go.Maps
def entW6:List UInt8:=[101,110,116,114,121,32]
theorem yc{s:Sg}{acc:List Ent}{b r:List UInt8}(hb:b=entW6++r)(h:bX s b=none):bK s acc b=none:=by
 unfold bK
 rw[h]
 simp only
 rw[yl (r:=r) hb]
 split
 ·rw[if_neg];rw[yk];simp
 rfl
theorem DE{s:Sg}{b:List UInt8}(h:¬b.take 6=entW6):bX s b=none:=by
 cases hd:bX s b with
 |none=>rfl
 |some x=>
  obtain⟨-,a,-⟩:=jF hd
  obtain⟨r,hr⟩:=qB s x
  rw[←a,hr]at h
  exact(h rfl).elim
theorem CN{b:List UInt8}(h:b.take 6=entW6):b=entW6++b.drop 6:=by rw[←h,List.take_append_drop]
theorem FW{b:List UInt8}(hb:(10:UInt8)∉b)(hl:b.length≤65000):jk (b++[10])=if aY 60 0 (bF b)=true then([bF b],0,0)else([],0,2):=by
 have:=xN (n:=0) hb (Nat.zero_le _) hl
 rwa[show ep 0=[]from rfl,List.nil_append,show(List.replicate 0 ((1,0,0):Stp))=[]from rfl,List.nil_append]at this
theorem Gq{G:Int}{pf:List Stp}{x:Stp}(h:¬aY 60 (min pf.length 59) x=true):bk G (pf++[x])=false:=by
 cases c:bk G (pf++[x])with
 |false=>rfl
 |true=>
  obtain⟨a,b⟩:=ma c
  exact(h (by rw[Nat.min_eq_left b];exact a)).elim
theorem rH{s:Sg}{acc:List Ent}{b:List UInt8}{x:Ent}(h:bX s b=some x)(ho:de acc=false)(ht:aG acc (af x)=none)(h60:acc.length≠60):bK s acc b=some (acc++[x]):=by
 unfold bK
 rw[h]
 simp only
 have ha:acc.any (fun y=>decide (af y=af x))=false:=by
  rw[List.any_eq_false]
  intro y hy
  have:=pH ht y hy
  simpa using this
 rw[ho,ha,decide_eq_false h60];rfl
theorem oD{s:Sg}{acc:List Ent}{b:List UInt8}{x:Ent}(h:bX s b=some x)(hn:de acc=true∨(∃j,aG acc (af x)=some j)∨acc.length=60):bK s acc b=none:=by
 unfold bK
 rw[h]
 simp only
 rw[if_pos]
 rw[Bool.or_eq_true,Bool.or_eq_true,decide_eq_true_eq]
 rcases hn with hn|⟨j,hn⟩|hn
 ·exact .inl hn
 ·refine .inr (.inl ?_)
  obtain⟨a,e⟩:=gx hn
  rw[List.any_eq_true]
  exact⟨_,List.getElem_mem a,decide_eq_true e⟩
 exact .inr (.inr hn)
theorem FT{s:Sg}{b:List UInt8}{i:Nat}{acc:List Ent}:cV s [b] i acc=if b=[]∧de acc=false then(acc,0,0)else([],i,2):=rfl
theorem FR{s:Sg}{L:List (List UInt8)}{i:Nat}{acc:List Ent}(hi:i+1<L.length):cV s (L.drop i) i acc=match bK s acc (L.getD i [])with|some acc'=>cV s (L.drop (i+1)) (i+1) acc'|none=>([],i,2):=by
 have a:L.drop i=L.getD i []::L.drop (i+1):=by
  rw[List.drop_eq_getElem_cons (by omega),List.getD_eq_getElem?_getD,List.getElem?_eq_getElem (by omega)];rfl
 have b:L.drop (i+1)=L.getD (i+1) []::L.drop (i+2):=by
  rw[List.drop_eq_getElem_cons (by omega),List.getD_eq_getElem?_getD,List.getElem?_eq_getElem (by omega)];rfl
 rw[a,b,cV]
 cases bK s acc (L.getD i [])<;>rfl
theorem FS{s:Sg}{L:List (List UInt8)}{i:Nat}{acc:List Ent}(hi:i+1=L.length):cV s (L.drop i) i acc=if L.getD i []=[]∧de acc=false then(acc,0,0)else([],i,2):=by
 have a:L.drop i=[L.getD i []]:=by
  rw[List.drop_eq_getElem_cons (by omega),List.drop_eq_nil_of_le (by omega),List.getD_eq_getElem?_getD,List.getElem?_eq_getElem (by omega)];rfl
 rw[a,FT]
theorem GX(n:Nat)(hn:n≤1000000)(w:World):
  Calls Tryz.prog 30 #[.int .i64 n] w fun e w'=>e= .returned (.string (ah (ep (min n 59))))∧w=w':=by
 go_enter Tryz.func30,Tryz.ntmps30
 go_wp2_with fail
 go_loopw [3,4] (fun sv i wr=>∃j:Nat,i= .int .i64 j∧j≤min n 59∧sv= .string (ah (ep j))∧wr=w) (fun _ i _=>60-(intOf i).toNat)
 case atStart=>exact⟨0,rfl,Nat.zero_le _,rfl,rfl⟩
 case round=>
  obtain⟨j,rfl,q,rfl,rfl⟩:=hrel
  have l:=cX (ep j)
  rw[rr]at l
  by_cases g:j<min n 59
  ·have m:((j:Int)<(n:Int))=True:=eq_true (by omega)
   have o:((j:Int)<59)=True:=eq_true (by omega)
   have h:ah (ep j)++⟨#[99,105,116,101,32,48,10]⟩=ah (ep (j+1)):=by
    rw[xJ,←dl,show bD (1,0,0)=[99,105,116,101,32,48,10]from by decide+kernel];rfl
   obtain⟨B,c⟩:∃B,ah (ep j)=B:=⟨_,rfl⟩
   rw[c]at l h
   rw[c]
   have r:(9223372036854775807<B.size+7)=False:=eq_false (by omega)
   have k:=Lib.hid h
   clear c h l
   go_wp2_with fail
   go_roundw
   case rel=>exact⟨j+1,by go_num,by omega,congrArg Value.string k.out,by trivial⟩
   case measure=>simp[intOf];omega
  have f:j=min n 59:=by omega
  have a:=Lib.hid (show ah (ep j)=ah (ep (min n 59))by rw[f])
  by_cases p:j<n
  ·have m:((j:Int)<(n:Int))=True:=eq_true (by omega)
   have o:((j:Int)<59)=False:=eq_false (by omega)
   generalize ah (ep j)=B at*
   clear f g
   go_wp2_with fail
   go_ret
   exact⟨congrArg (fun b=>Ending.returned (.string b)) a.out,rfl⟩
  have m:((j:Int)<(n:Int))=False:=eq_false (by omega)
  generalize ah (ep j)=B at*
  clear f g
  go_wp2_with fail
  go_ret
  exact⟨congrArg (fun b=>Ending.returned (.string b)) a.out,rfl⟩
theorem FG(s:Sg):bz s []=aH s:=by unfold bz;simp
def oG(r:List Ent×Nat×Int)(w:World)(e:Ending)(w':World):Prop:=∃a c,e= .returned (.tuple #[.slice a r.1.length c, .int .i64 r.2.1, .int .i64 r.2.2])∧LibL (fun b=>w.heap.size≤b) w' a c r.1∧Below w.heap.size w w'
theorem et{r:List Ent×Nat×Int}{n:Nat}{er:Int}{w w':World}(h:r=([],n,er))(hb:Below w.heap.size w w'):oG r w (.returned (.tuple #[.slice none 0 0, .int .i64 n, .int .i64 er])) w':=by
 subst h;exact⟨none,0,rfl, .empty,hb⟩
def ur(s:Sg)(t:ByteArray)(w:World)(tV iV:Value)(wr:World):Prop:=
 ∃(tx:ByteArray) (i:Nat) (acc:List Ent) (lv:Value),tV= .string tx∧iV= .int .i64 i∧i+tx.size≤t.size∧cV s (aA 10 (bL tx)) i acc=cV s (aA 10 (bL t)) 0 []∧PS wr (w.heap.size+1) lv acc∧
  wr.heap[w.heap.size]?=some (.cells #[lv] 24 (0,0))∧Below w.heap.size w wr∧Gd s acc
theorem Gd.pf{s:Sg}{acc:List Ent}(h:Gd s acc):∀z∈acc,(ai z).length≤60:=fun z a=>by
 rcases(h.ent z a).2 with e|e
 ·rw[e];simp
 exact(jm e).2.2.2.1
theorem lh{W:World}{b:Nat}{u:Value}{t:TypeId}(h:W.heap[b]?=some (.cells #[u] t (0,0))):W.cell? ⟨b,0,none⟩=some u∧W.frozen? ⟨b,0,none⟩=false:=⟨by simp[World.cell?,h],Lib.frozen_of_heap h 0⟩
theorem Cm{S1:Nat→Prop}(sa:Option Addr)(sc:Nat)(s:Sg)(t:ByteArray)(w:World)(h1:Sign S1 w sa sc s)(hL:LibW w):
  Calls Tryz.prog 7 #[.slice sa s.length sc, .string t] w (oG (df s (bL t)) w):=by
 have m1:=h1.le
 obtain⟨X,C⟩:∃X,w.alloc (.cells #[.slice none 0 0] 24)=X:=⟨_,rfl⟩
 have M:Below w.heap.size w X:=by rw[←C];exact an w _
 have x0:X.heap[w.heap.size]?=some (.cells #[.slice none 0 0] 24 (0,0)):=by rw[←C];exact heap_alloc_new w _
 have vv:=pU sa none sc 0 s [] X (h1.below M) (.empty:LibL (fun _=>False) X none 0 []) (by simp)
 rw[FG]at vv
 have av:(bL t).length=t.size:=Array.length_toList
 have A:=Lib.hid vv
 have aP:=Lib.hid h1
 have ac:=Lib.hid hL
 have u:=Lib.hid M
 have o:=Lib.hid x0
 have r:=Lib.hid C
 have J:=Lib.hid av
 clear vv h1 hL M x0 C av
 cases hs:aH s with
 |false=>
  rw[hs]at A
  have hr:=Lib.hid (show df s (bL t)=([],0,1)by unfold df;rw[if_neg (by rw[hs];simp)])
  clear hs
  go_enter Tryz.func7,Tryz.ntmps7
  go_wp2_with fail
  try rw[r.out]
  refine A.out.mono ?_
  rintro e w1 ⟨rfl,c⟩
  have K:=(c.block _ (Array.getElem?_eq_some_iff.1 o.out).1).trans o.out
  obtain⟨q1,f1⟩:=lh K
  have f:=Lib.hid (aa u.out c)
  clear c K
  go_wp2_with fail
  all_goals(try simp only[Exit.inBlock,Exit.then])
  all_goals refine bodyPost_ret (by go_simp;simp[results,Tryz.results7,go_sem,q1];try rfl) rfl ?_
  all_goals exact et hr.out (f.out.setCell (p:=⟨w.heap.size,0,none⟩) (Nat.le_refl _) _)
 |true=>
  rw[hs]at A
  by_cases S:t.size≤65536
  case neg=>
   have hr:=Lib.hid (show df s (bL t)=([],0,3)by unfold df;rw[if_pos hs,if_neg (by rw[J.out];exact S)])
   have g1:(65536<(t.size:Int))=True:=eq_true (by omega)
   clear hs S
   go_enter Tryz.func7,Tryz.ntmps7
   go_wp2_with fail
   try rw[r.out]
   refine A.out.mono ?_
   rintro e w1 ⟨rfl,c⟩
   have K:=(c.block _ (Array.getElem?_eq_some_iff.1 o.out).1).trans o.out
   obtain⟨q1,f1⟩:=lh K
   have f:=Lib.hid (aa u.out c)
   clear c K
   go_wp2_with fail
   all_goals(try simp only[Exit.inBlock,Exit.then])
   all_goals refine bodyPost_ret (by go_simp;simp[results,Tryz.results7,go_sem,q1];try rfl) rfl ?_
   all_goals exact et hr.out (f.out.setCell (p:=⟨w.heap.size,0,none⟩) (Nat.le_refl _) _)
  have hr:=Lib.hid (show df s (bL t)=cV s (aA 10 (bL t)) 0 []by unfold df;rw[if_pos hs,if_pos (by rw[J.out];exact S)])
  have g1:(65536<(t.size:Int))=False:=eq_false (by omega)
  have a4:=Lib.hid hs
  clear hs
  go_enter Tryz.func7,Tryz.ntmps7
  go_wp2_with fail
  try rw[r.out]
  refine A.out.mono ?_
  rintro e w1 ⟨rfl,c⟩
  have K:=(c.block _ (Array.getElem?_eq_some_iff.1 o.out).1).trans o.out
  have bf:=Lib.hid K
  have f:=Lib.hid (aa u.out c)
  clear c K
  go_wp2_with fail
  go_loopw [1,7,8,9,10] (fun tV iV _ _ _ wr=>ur s t w tV iV wr) (fun tV _ _ _ _ _=>match tV with| .string x=>x.size|_=>0)
  case atStart=>exact⟨t,0,[],_,rfl,rfl,by omega,rfl, .inl ⟨rfl,rfl⟩,bf.out,f.out,Gd.nil a4.out⟩
  case round=>
   obtain⟨tx,i,m,lv,rfl,rfl,hi,hp,hP,hx,hB,hG⟩:=hrel
   obtain⟨la,lc,a3,L⟩:=hP.ent
   subst a3
   obtain⟨q2,f2⟩:=lh hx
   have ad:=L.le
   have ao:=hG.len
   have a0:=Lib.hid hP
   have F:=Lib.hid hx
   have q:=Lib.hid hB
   have ab:=Lib.hid hG
   have G:=Lib.hid L
   have Q:=Lib.hid hp
   have E:(bL tx).length=tx.size:=Array.length_toList
   clear hP hx hB hG L hp
   by_cases h:bL tx=[]
   ·have aO:tx=⟨#[]⟩:=mY h
    have y:=Q.out
    rw[h,show aA 10 []=[[]]from rfl,cV]at y
    have V:=xH la lc m wr G.out (by omega)
    obtain⟨N,hN⟩:∃N,m.length=N:=⟨_,rfl⟩
    have aU:=Lib.hid hN
    rw[hN]at V q2 ad
    clear h E hN
    subst aO
    cases n:de m with
    |true=>
     rw[n]at V
     have l:=Lib.hid (show df s (bL t)=([],i,2)by rw[hr.out,←y,if_neg (fun e=>by rw[n]at e;cases e.2)])
     have W:=Lib.hid V
     clear V y n
     go_wp2_with fail
     refine W.out.mono ?_
     rintro e w2 ⟨rfl,rfl⟩
     go_wp2_with fail
     all_goals(try simp only[Exit.inBlock,Exit.then])
     all_goals refine bodyPost_ret (by go_simp;simp[results,Tryz.results7,go_sem,q2];try rfl) rfl ?_
     all_goals exact et l.out (q.out.setCell (p:=⟨w.heap.size,0,none⟩) (Nat.le_refl _) _)
    |false=>
     rw[n]at V
     have l:=Lib.hid (show df s (bL t)=(m,0,0)by rw[hr.out,←y,if_pos ⟨rfl,n⟩])
     have W:=Lib.hid V
     clear V y n
     go_wp2_with fail
     refine W.out.mono ?_
     rintro e w2 ⟨rfl,rfl⟩
     go_wp2_with fail
     all_goals(try simp only[Exit.inBlock,Exit.then])
     all_goals refine bodyPost_ret (by go_simp;simp[results,Tryz.results7,go_sem,q2];try rfl) rfl ?_
     all_goals(rw[l.out];exact⟨la,lc,by rw[aU.out];rfl,(G.out.same (fun k hk _=>Below.heap_setCell _ _ _ _ (by show¬k=w.heap.size;have a2:w.heap.size+1≤k:=hk;omega))).weak (fun k hk=>by have a2:w.heap.size+1≤k:=hk;omega),q.out.setCell (p:=⟨w.heap.size,0,none⟩) (Nat.le_refl _) _⟩)
   have bw:=nH (x:=tx) h
   have ax:tx.size≤65536:=by omega
   have T:=pj tx ⟨#[10]⟩ ax wr (ac.out.later q.out)
   rw[show bL ⟨#[10]⟩=[10]from rfl]at T
   rcases ub 10 (bL tx)with P|⟨a,b,ha,D⟩
   ·rw[Ck P]at T
    have l:=Lib.hid (show df s (bL t)=([],i,2)by rw[hr.out,←Q.out,ij P,cV,if_neg (fun e=>h e.1)])
    have U:=Lib.hid T
    clear T P h E
    go_wp2_with fail
    refine U.out.mono ?_
    rintro e w2 ⟨rfl,g⟩
    have x2:=(g.block _ (Array.getElem?_eq_some_iff.1 F.out).1).trans F.out
    obtain⟨q3,f3⟩:=lh x2
    have al:=Lib.hid (aa q.out g)
    clear g x2
    go_wp2_with fail
    all_goals(try simp only[Exit.inBlock,Exit.then])
    all_goals refine bodyPost_ret (by go_simp;simp[results,Tryz.results7,go_sem,q3];try rfl) rfl ?_
    all_goals exact et l.out (al.out.setCell (p:=⟨w.heap.size,0,none⟩) (Nat.le_refl _) _)
   rw[D,Ch ha]at T
   have aq:=congrArg List.length D
   rw[List.length_append,List.length_cons,E]at aq
   have R:=Q.out
   rw[D]at R
   have U:=Lib.hid T
   have aj:=Lib.hid ha
   have I:=Lib.hid R
   have a5:=cX a
   have ay:=cX b
   clear T h E D ha R
   go_wp2_with fail
   refine U.out.mono ?_
   rintro e w2 ⟨rfl,g⟩
   have x2:=(g.block _ (Array.getElem?_eq_some_iff.1 F.out).1).trans F.out
   have B:=aa q.out g
   have vr:=Lib.hid (GA sa sc s (ah a) (by rw[a5];omega) w.heap.size _ m w2 (aP.out.below B) (ac.out.later B) x2 (a0.out.below g) ao ab.out.pf)
   have Z:=Lib.hid B
   clear g x2 B
   go_wp2_with fail
   refine vr.out.mono ?_
   rintro e w3 ⟨O,hm⟩
   have H:=Lib.hid (Z.out.trans O)
   rw[show bL (ah a)=a from rfl]at hm
   cases j:bK s m a with
   |none=>
    rw[j]at hm
    obtain⟨rfl,aL,z⟩:=hm
    obtain⟨q4,f4⟩:=lh z
    have l:=Lib.hid (show df s (bL t)=([],i,2)by
     rw[hr.out,←I.out,eU aj.out]
     cases hw:aA 10 b with
     |nil=>exact(eV _ _ hw).elim
     |cons v ws=>rw[cV,j])
    clear j O z
    go_wp2_with fail
    all_goals(try simp only[Exit.inBlock,Exit.then])
    all_goals refine bodyPost_ret (by go_simp;simp[results,Tryz.results7,go_sem,q4];try rfl) rfl ?_
    all_goals exact et l.out (H.out.setCell (p:=⟨w.heap.size,0,none⟩) (Nat.le_refl _) _)
   |some Y=>
    rw[j]at hm
    obtain⟨rfl,aL,ag,z⟩:=hm
    have hrel:=Lib.hid (show ur s t w (.string (ah b)) (.int .i64 ((i:Int)+1)) w3 from⟨ah b,i+1,Y,aL,rfl,by go_num,by rw[ay];omega,by rw[show bL (ah b)=b from rfl,←rv aj.out j];exact I.out,ag,z,H.out,(rG ab.out j).1⟩)
    clear j O ag z
    go_wp2_with fail
    all_goals go_roundw
    all_goals first|exact hrel.out|(rw[ay];omega)|(simp;omega)
noncomputable abbrev runApS (x y:Value) (w:World):Result Value:=(Builtin.append_ #[44,44] 44 #[x,y]).run Tryz.prog w
theorem kj{S2:Nat→Prop}{w:World}{base:Nat}{v:Value}{l l2:List Stp}{a:Option Addr}{c:Nat}(ho:OwnSt w base v l)(h2:Steps S2 w a c l2)(hl:l.length+l2.length≤1000000)(hb:base≤w.heap.size):
  ∃v' w',runApS v (.slice a l2.length c) w= .ok v' w'∧OwnSt w' base v' (l++l2)∧w.grownBy w' v.ownBlock∧Below base w w':=by
 obtain⟨v',w',b,f,hg,-,-⟩:=ho.append_run (P:=Tryz.prog) (t:=44) (ty:=44) Tryz.underlying44 jd rfl h2 (fun _ _ _ h=>h) (by omega) (by unfold aB;omega) hb
 exact⟨v',w',b,f,hg,(Below.refl _ _).grown hg hb (fun k e=>(ho.lt k e).1)⟩
def iH(x:Stp):Obj:= .cells #[.int .i64 x.1, .int .i64 x.2.1, .int .i64 x.2.2] 72
theorem sd{w:World}(x:Stp)(hx:fP x):Steps (fun b=>b=w.heap.size) (w.alloc (iH x)) (some ⟨w.heap.size,0,none⟩) 1 [x]:=by
 have:=Sl.new (E:=stpE) (S:=fun _=>False) w [[.int .i64 x.1, .int .i64 x.2.1, .int .i64 x.2.2]] [x] 72 rfl (by unfold aB;simp) (fun i a c=>by
  match i,a with
  |0,_=>exact⟨[_],_,rfl,⟨rfl,hx.1⟩,[_],_,rfl,⟨rfl,hx.2.1⟩,rfl,hx.2.2⟩)
 exact this.weak (fun b h=>h.resolve_left (fun h=>h))
theorem r9{w:World}(base:Nat)(hb:base≤w.heap.size):OwnSt (w.alloc (.cells #[] 72)) base (.slice (some ⟨w.heap.size,0,none⟩) 0 0) []:=OwnL.made stpE _ w base 72 hb
theorem H5{T:Nat→Prop}{w:World}{a:Option Addr}{c:Nat}{u:List Stp}(hu:Steps T w a c u)(x:Stp)(hx:fP x)(hl:u.length≤1000):
  (∃x1 w2 x2 w4,RowKit.Hid (Below w.heap.size w w2)∧RowKit.Hid (runApS (.slice (some ⟨w.heap.size,0,none⟩) 0 0) (.slice a u.length c) (w.alloc (.cells #[] 72))= .ok x1 w2)∧RowKit.Hid (runApS x1 (.slice (some ⟨w2.heap.size,0,none⟩) 1 1) (w2.alloc (iH x))= .ok x2 w4)∧RowKit.Hid (OwnSt w4 w.heap.size x2 (u++[x]))∧RowKit.Hid (Below w.heap.size w w4))∧
  (∃x1 w3 x2 w4,RowKit.Hid (Below w.heap.size w w3)∧RowKit.Hid (runApS (.slice (some ⟨w.heap.size,0,none⟩) 0 0) (.slice a u.length c) ((w.alloc (.cells #[] 72)).alloc (iH x))= .ok x1 w3)∧RowKit.Hid (runApS x1 (.slice (some ⟨w.heap.size+1,0,none⟩) 1 1) w3= .ok x2 w4)∧RowKit.Hid (OwnSt w4 w.heap.size x2 (u++[x]))∧RowKit.Hid (Below w.heap.size w w4))∧
  (∃x1 w3 x2 w4,RowKit.Hid (Below w.heap.size w w3)∧RowKit.Hid (runApS (.slice (some ⟨w.heap.size+1,0,none⟩) 0 0) (.slice a u.length c) ((w.alloc (iH x)).alloc (.cells #[] 72))= .ok x1 w3)∧RowKit.Hid (runApS x1 (.slice (some ⟨w.heap.size,0,none⟩) 1 1) w3= .ok x2 w4)∧RowKit.Hid (OwnSt w4 w.heap.size x2 (u++[x]))∧RowKit.Hid (Below w.heap.size w w4)):=by
 refine⟨?_,?_,?_⟩
 ·have f:=an w (.cells #[] 72)
  obtain⟨x1,w2,o,m,-,j⟩:=kj (r9 (w:=w) w.heap.size (Nat.le_refl _)) (hu.below f) (by simp;omega) f.size
  have g:=f.trans j
  have l:=an w2 (iH x)
  obtain⟨x2,w4,i,n,-,k⟩:=kj (m.call l) (sd x hx) (by simp;omega) (by have:=g.size;simp;omega)
  exact⟨x1,w2,x2,w4,Lib.hid g,Lib.hid o,Lib.hid i,Lib.hid (by simpa using n),Lib.hid ((g.trans (l.mono g.size)).trans k)⟩
 ·have f:=dT w (.cells #[] 72) (iH x)
  have q:=sd (w:=w.alloc (.cells #[] 72)) x hx
  obtain⟨x1,w3,o,m,p,j⟩:=kj ((r9 (w:=w) w.heap.size (Nat.le_refl _)).call (an _ (iH x))) (hu.below f) (by simp;omega) f.size
  have g:=f.trans j
  have h:=q.same (.of_grown p (fun b r e=>by simp[Value.ownBlock]at e r;omega))
  obtain⟨x2,w4,i,n,-,k⟩:=kj m h (by simp;omega) g.size
  rw[World.size_alloc]at i
  exact⟨x1,w3,x2,w4,Lib.hid g,Lib.hid o,Lib.hid i,Lib.hid (by simpa using n),Lib.hid (g.trans k)⟩
 have f:=dT w (iH x) (.cells #[] 72)
 have q:=(sd (w:=w) x hx).below (an _ (.cells #[] 72))
 have s:=r9 (w:=w.alloc (iH x)) w.heap.size (by simp)
 rw[World.size_alloc]at s
 obtain⟨x1,w3,o,m,p,j⟩:=kj s (hu.below f) (by simp;omega) f.size
 have g:=f.trans j
 have h:=q.same (.of_grown p (fun b r e=>by simp[Value.ownBlock]at e r;omega))
 obtain⟨x2,w4,i,n,-,k⟩:=kj m h (by simp;omega) g.size
 exact⟨x1,w3,x2,w4,Lib.hid g,Lib.hid o,Lib.hid i,Lib.hid (by simpa using n),Lib.hid (g.trans k)⟩
theorem F4{w w':World}{base:Nat}{lv pv pv':Value}{A:List Ent}{y:Ent}{vs:List Value}{p':List Stp}{g cap:Nat}(h:PS1 w base lv A y pv vs)(hb:Below w.heap.size w w')(hlv:lv= .slice (some ⟨g,0,none⟩) (A.length+1) cap)
  (hp:OwnSt w' w.heap.size pv' p') (hne:p'≠ []) (hbase:base≤w.heap.size):PS1 (w'.setCell ⟨g,A.length*5+4,none⟩ pv') base lv A (dm y p') pv' vs∧w'.grownBy (w'.setCell ⟨g,A.length*5+4,none⟩ pv') (some g):=by
 obtain⟨c,l,b,a,-⟩:=OwnL.form hp hne
 have hg:w.grownBy w' pv.ownBlock:=⟨hb.os,hb.tape,hb.output,hb.size,fun k f _=>hb.block k f⟩
 obtain⟨i,j,u3⟩:=h.grown (pv':=pv') hg (.inr ⟨c,by rw[b];rfl,a⟩)
 exact xU hlv i h.len j u3 (OwnL.baseW hp hbase)
end Go.Proofs.YtlejmeegkpdabaaGreatDoor
