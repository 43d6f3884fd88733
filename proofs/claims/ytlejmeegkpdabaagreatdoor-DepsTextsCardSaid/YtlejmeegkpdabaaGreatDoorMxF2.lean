/- The proof of a statement, some of its texts joined in build order: part F2. -/
import Derived.Test.YtlejmeegkpdabaaGreatDoorMxF1
import Derived.Test.YtlejmeegkpdabaaGreatDoorMxK5
set_option maxHeartbeats 4000000
set_option maxRecDepth 20000
namespace Go.Proofs.YtlejmeegkpdabaaGreatDoor
open Go Go.RowKit Go.Maps Go.Shelf
def jh(s:Sg)(j:Nat)(b:ByteArray):Option Value:=(jg s j b.data.toList).map (fun i=> .int .i64 (i:Int))
theorem xt{s:Sg}{j:Nat}(hj:j<s.length):aM s (j:Int)=s[j].1.data.toList:=by
 unfold aM
 rw[Int.toNat_natCast,List.getD_eq_getElem?_getD,List.getElem?_eq_getElem hj,Option.getD_some]
theorem Fk{s:Sg}(h:aH s=true){j:Nat}(hj:j<s.length):jh s (j+1)=fun z=>if z=s[j].1 then some (.int .i64 (j:Int))else jh s j z:=by
 funext z
 unfold jh
 rw[Fl h hj,xt hj]
 by_cases a:z=s[j].1
 ·subst a;simp
 rw[if_neg (fun e=>a (gO e)),if_neg a]
theorem Fj{s:Sg}(h:aH s=true){j:Nat}(hj:j<s.length):(jh s j s[j].1).isSome=false:=by
 unfold jh
 rw[←xt hj,xn h hj];rfl
def yt(s:Sg)(W3:World)(mb:Nat)(i:Value)(wr:World):Prop:=
 ∃j:Nat,i= .int .i64 j∧j≤s.length∧VMap strKT wr mb j (jh s j)∧W3.grownBy wr (some mb)
theorem RdW.facts{W0 W:World}{rb mb:Nat}{a1:Option Addr}{c1:Nat}{s:Sg}{L:List ByteArray}{T:List Int}(h:RdW W0 rb mb a1 c1 s W L T):
  ∃aT cT,W.cell? ⟨rb,3,none⟩=some (.slice aT T.length cT)∧Ints (fun b=>W0.heap.size≤b) W aT cT T∧OwnI W W0.heap.size (.slice aT T.length cT) T:=by
 obtain⟨g,i,v,c,j,a⟩:=h.cell
 obtain⟨aT,cT,rfl,f⟩:=OwnI.ints a
 exact⟨aT,cT,(iA c).2.2.2.1,f,a⟩
theorem AR{S1:Nat→Prop}(a1:Option Addr)(c1:Nat)(s:Sg)(k:Int)(text:ByteArray)(w:World)(h1:Sign S1 w a1 c1 s)(hL:LibT w):
  Calls Tryz.prog 109 #[.slice a1 s.length c1, .int .i64 k, .string text] w fun e w'=>∃v,e= .returned (.tuple #[v, .int .i64 (cC s k text.data.toList).2])∧OwnI w' w.heap.size v (cC s k text.data.toList).1∧Below w.heap.size w w':=by
 have m1:=h1.le
 have v1:=Lib.hid (mK a1 c1 s w h1)
 have ct:= @run_makeMap Tryz.prog
 cases hx:aH s with
 |false=>
  rw[hx]at v1
  have hR:=Lib.hid (show cC s k text.data.toList=([],1)by rw[cC,if_neg (by simp[hx])])
  clear h1 hx ct hL
  go_enter Tryz.func109,Tryz.ntmps109
  go_wp2_with fail
  refine v1.out.mono ?_
  rintro e w1 ⟨rfl,aP⟩
  go_wp2_with fail
  go_ret2
  rw[hR.out]
  exact⟨_,rfl,OwnL.nil _ _ _ _ _,aP⟩
 |true=>
 rw[hx]at v1
 have v2:=Lib.hid (fun W=>kK k 1 3 W)
 cases hm:(decide (1≤k)&&decide (k≤3))with
 |false=>
  rw[hm]at v2
  have hR:=Lib.hid (show cC s k text.data.toList=([],7)by rw[cC,if_pos hx,if_neg (by simp[hm])])
  clear h1 hx hm ct hL
  go_enter Tryz.func109,Tryz.ntmps109
  go_wp2_with fail
  refine v1.out.mono ?_
  rintro e w1 ⟨rfl,aP⟩
  go_wp2_with fail
  refine(v2.out _).mono ?_
  rintro e w2 ⟨rfl,rfl⟩
  go_wp2_with fail
  go_ret2
  rw[hR.out]
  exact⟨_,rfl,OwnL.nil _ _ _ _ _,aP⟩
 |true=>
 rw[hm]at v2
 have cf:text.data.toList.length=text.size:=by rw[Array.length_toList];rfl
 by_cases b8:text.size≤65536
 ·have hR:cC s k text.data.toList=cG s k.toNat text.data.toList:=by rw[cC,if_pos hx,if_pos hm,if_pos (by rw[cf];exact b8)]
  have hk:1≤k∧k≤3:=by simpa using hm
  rw[hR]
  have v3:=Lib.hid (Is text b8)
  have ea:decide ((65536:Int)<(text.size:Int))=false:=decide_eq_false (by omega)
  have em:s.length≤12:=by
   unfold aH at hx
   simp only[Bool.and_eq_true,decide_eq_true_eq]at hx
   exact hx.1.1.1.2
  have ba:=Lib.hid hx
  have av:=Lib.hid h1
  have cr:=Lib.hid hL
  have eb:=Lib.hid hk
  clear hx h1 hL hm hR cf hk
  go_enter Tryz.func109,Tryz.ntmps109
  go_wp2_with fail
  refine v1.out.mono ?_
  rintro e w1 ⟨rfl,aP⟩
  go_wp2_with fail
  refine(v2.out _).mono ?_
  rintro e w2 ⟨rfl,rfl⟩
  go_wp2_with fail
  refine(v3.out _).mono ?_
  rintro e w2 ⟨vL,Lf,rfl,hT,bt,en,bu,cb⟩
  obtain⟨aL,cL,rfl,c6⟩:=OwnL.slB hT (fun _ h=>h.elim)
  obtain⟨mb,ce⟩:∃mb,w1.heap.size=mb:=⟨_,rfl⟩
  obtain⟨l,cv⟩:∃l,w2.heap.size=l:=⟨_,rfl⟩
  obtain⟨W3,bb⟩:∃W3,w2.alloc (readerO a1 s.length c1 mb (.slice aL Lf.length cL) (.slice none 0 0))=W3:=⟨_,rfl⟩
  have ee:=cb.size
  rw[World.size_alloc,ce]at ee
  have c9:VMap strKT W3 mb 0 (jh s 0):=by
   have a:=VMap.made strKT w1
   rw[ce]at a
   have b:=a.below cb (by rw[World.size_alloc];omega)
   rw[←bb]
   exact b.below (an w2 _) (by rw[cv];omega)
  have c4:Below w.heap.size w W3:=by
   rw[←bb]
   exact aa (aa (aa aP (an w1 _)) cb) (an w2 _)
  have dO:W3.heap[l]?=some (readerO a1 s.length c1 mb (.slice aL Lf.length cL) (.slice none 0 0)):=by
   rw[←bb,←cv];exact heap_alloc_new _ _
  have es:W3.heap.size=l+1:=by rw[←bb,World.size_alloc,cv]
  have d3:Sl strE (fun b=>mb<b∧b<l) W3 aL cL Lf:=by
   rw[←bb]
   exact(c6.lt.below (an w2 _)).weak (fun b V=>⟨by have:=V.1;rw[World.size_alloc,ce]at this;omega,by have:=V.2;omega⟩)
  have er:w.heap.size≤mb:=by rw[←ce];exact aP.size
  have cl:=Lib.hid bb
  have db:=Lib.hid c9
  have ch:=Lib.hid c4
  have d0:=Lib.hid dO
  have ay:=Lib.hid d3
  clear hT c6 aP cb c9 c4 dO d3 bb
  go_upto_region 8 with fail
  rw[cl.out]
  clear cl
  go_wp2_with fail
  go_loopw [32] (fun i wr=>yt s W3 mb i wr) (fun i _=>s.length-(intOf i).toNat)
  case atStart=>exact⟨0,rfl,Nat.zero_le _,db.out,kr _ _⟩
  case round=>
   obtain⟨j,rfl,hj,hV,hG⟩:=hrel
   have ca:Below w.heap.size w wr:=ch.out.grown hG ch.out.size (fun i e=>by injection e with e;omega)
   have bP:wr.heap[l]?=W3.heap[l]?:=hG.block l (by omega) (fun e=>by injection e with e;omega)
   rw[d0.out]at bP
   by_cases cc:j<s.length
   ·obtain⟨b,o,d6,-,q1,q2,cu,dy⟩:=(av.out.below ca).sym j cc
    obtain⟨x,cg⟩:∃x,s[j].1=x:=⟨_,rfl⟩
    obtain⟨n,dB⟩:∃n,s[j].2=n:=⟨_,rfl⟩
    rw[cg]at q1 cu
    rw[dB]at q2 dy
    subst d6
    obtain⟨y0,y1,y2,y3,yf⟩:=iA bP
    have Z:Below wr.heap.size wr ((wr.alloc (.cells #[.string x, .int .i64 n] 78)).drew):=Below.drew (an _ _)
    have eF:=cell_later Z y1
    have dn:=hV.lt
    obtain⟨w',cn,cs,c5⟩:=(hV.below Z dn).store (tm:=93) Tryz.underlying93 (by unfold maxLen;omega) x (fA cu) (.int .i64 (j:Int))
    rw[show(jh s j x).isSome=false from cg▸Fj ba.out cc]at cs
    have hr:=Lib.hid (show yt s W3 mb (.int .i64 ((j:Int)+1)) w' from⟨j+1,rfl,cc,by rw[Fk ba.out cc,cg];simpa using cs,gV (gV hG (qk Z)) c5⟩)
    have ed:(Instr.mapUpdate 93 (.map (some mb)) (.string x) (.int .i64 (j:Int))).run Tryz.prog ((wr.alloc (.cells #[.string x, .int .i64 n] 78)).drew)= .ok () w':=cn
    clear hV hG ca bP cs c5 cn Z cg dB y0 y2 y3 yf cu dy dn
    go_wp2_with fail
    go_region
    all_goals(go_wp2_with fail;go_roundw;(case rel=>exact hr.out);(case measure=>simp[intOf];omega))
   obtain rfl:j=s.length:=by omega
   have aN:=Lib.hid bP
   have ax:=Lib.hid ca
   have bq:=Lib.hid hG
   have aO:=Lib.hid hV
   clear bP ca hG hV
   have ec:k=1∨k=2∨k=3:=by have:=eb.out;omega
   rcases ec with rfl|rfl|rfl
   ·go_wp2_with fail
    refine(o5 _).mono ?_
    rintro e w4 ⟨rfl,ag⟩
    have du:=zq
    obtain⟨bs,aj⟩:∃bs,w4.heap.size=bs:=⟨_,rfl⟩
    obtain⟨r,G⟩:∃r,w4.alloc (.cells #[.func (.func 145) #[] #[], .func (.func 146) #[] #[]] 139)=r:=⟨_,rfl⟩
    have C:Below wr.heap.size wr r:=by rw[←G];exact aa ag (an w4 _)
    have a5:l<wr.heap.size:=(Array.getElem?_eq_some_iff.1 aN.out).1
    have t:Below w.heap.size w r:=aa ax.out C
    have a3:=aO.out.lt
    have a0:RdW r l mb a1 c1 s r Lf []:=⟨⟨aL,cL, .slice none 0 0,(C.block l a5).trans aN.out,((ay.out.same (.of_grown bq.out (fun b V e=>by injection e with e;have:=V.1;omega))).below C).weak (fun b V=>⟨by have:=V.2;have:=C.size;omega,by have:=V.2;omega⟩),OwnL.nil _ _ _ _ _⟩,kr _ _,bt,by have:=C.size;omega⟩
    have aW:ju r l mb a1 c1 s:=⟨ba.out,fun W hg=>by
     have Z:Below w.heap.size w W:=t.grown hg t.size (fun i e=>by injection e with e;omega)
     exact⟨(av.out.below Z).weak (fun _ _=>trivial),⟨s.length,(aO.out.below C a3).same (hg.block mb (by have:=C.size;omega) (fun e=>by injection e with e;omega))⟩,cr.out.later Z⟩⟩
    have cm:wr.heap.size≤bs:=by rw[←aj];exact ag.size
    have s0:r.cell? ⟨bs,0,none⟩=some (.func (.func 145) #[] #[]):=by rw[←G,←aj];clear G;go_simp
    have s1:r.cell? ⟨bs,1,none⟩=some (.func (.func 146) #[] #[]):=by rw[←G,←aj];clear G;go_simp
    have ab:RdW r l mb a1 c1 s r.drew Lf []:=a0.later (Below.drew (.refl _ _))
    have P:=Lib.hid (FZ aW 62 r.drew Lf [] ab (by decide) (by decide))
    have O:=Lib.hid (qe (s:=s) (k:=1) (by decide) bu)
    have bw:Below w.heap.size w r.drew:=Below.drew t
    have X:=Lib.hid (fun(T:List Int) (hT:aw s T=true) (W:World) (V:Below w.heap.size w W) (S2:Nat→Prop) (a2:Option Addr) (c2:Nat) (hI:Ints S2 W a2 c2 T)=>kM (k:=1) (F:=145) (R:=146) a1 a2 c1 c2 s T W (av.out.below V) hI hT (enters_of Tryz.func145 (by kernel_rfl) rfl)
     (fun S1 S2 b1 b2 d1 d2 n A W hn h1 h2=>ry b1 b2 d1 d2 s n hn A W ba.out h1 h2))
    have N:=Lib.hid (fun(T:List Int) (W:World) (V:Below w.heap.size w W) (S2:Nat→Prop) (a2:Option Addr) (c2:Nat) (hI:Ints S2 W a2 c2 T)=>fS a1 a2 c1 c2 s T W (av.out.below V) hI)
    have al:=Lib.hid (fun(W:World) (hg:r.grownBy W (some l))=>(t.grown hg t.size (fun i e=>by injection e with e;omega):Below w.heap.size w W))
    have a9:w.heap.size≤r.heap.size:=t.size
    have ac:=Lib.hid G
    have bU:=Lib.hid s0
    have bW:=cell_later (Below.drew (.refl r.heap.size r)) s1
    clear a0 ab aW C t bw ag G s0 s1 aN ax bq aO ay bu bt
    go_upto_region 14 with fail
    rw[ac.out]
    obtain⟨M,hM⟩:∃M,dq 1 s 62 (aV Lf,[])=M:=⟨_,rfl⟩
    rw[show fj s 62 (aV Lf,[])=dq 1 s 62 (aV Lf,[])from rfl,hM]at P
    rw[hM]at O
    clear hM ac
    cases M with
    |none=>
     have hf:=O.out.1 rfl
     have E:Hid (Calls Tryz.prog 146 #[.pointer (some ⟨l,0,none⟩)] r.drew fun e w'=>e= .returned (.bool false)∧r.grownBy w' (some l)):=Lib.hid (P.out.mono fun e w' h=>by
      rcases h with⟨_,_,h,_⟩|⟨_,h1,_,_,h2⟩
      ·cases h
      exact⟨h1,h2.gb⟩)
     have hr:=Lib.hid (fun(W:World) (hg:r.grownBy W (some l))=>(⟨.slice none 0 0,rfl,OwnL.nil _ _ _ _ _,al.out W hg⟩:∃v,Ending.returned (.tuple #[.slice none 0 0, .int .i64 2])= .returned (.tuple #[v, .int .i64 (([],2):List Int×Int).2])∧OwnI W w.heap.size v (([],2):List Int×Int).1∧Below w.heap.size w W))
     have p:=Lib.hid hf
     clear hf O P
     refine wp_region_any (by kernel_rfl) ?_
     (try(change wpAny _ _ _ _ _ _ _ (World.drew _)))
     refine am 0 49 (.pointer (some ⟨bs,1,none⟩)) ?_
     refine am 2 51 (.pointer (some ⟨l,0,none⟩)) ?_
     refine a7 1 (fun K c=> ?_)
     go_simp
     refine c _ _ ?_
     clear c K
     refine a7 3 (fun K c=> ?_)
     go_simp
     (with_reducible refine E.out.mono ?_)
     rintro e w5 ⟨rfl,bN⟩
     go_simp
     (try(refine c _ _ ?_))
     clear c K
     refine am 4 53 (.bool true) ?_
     refine am 5 54 (.bool true) ?_
     refine aQ 6 55 ?_
     refine aQ 7 56 ?_
     refine aQ 8 57 ?_
     refine aQ 9 58 ?_
     refine aQ 10 59 ?_
     refine aQ 11 60 ?_
     refine aQ 12 61 ?_
     refine am 13 62 (.bool true) ?_
     refine am 14 63 (.bool true) ?_
     refine aQ 15 64 ?_
     refine aQ 16 65 ?_
     refine aQ 17 66 ?_
     refine aQ 18 67 ?_
     refine aQ 19 68 ?_
     refine aQ 20 69 ?_
     refine aQ 21 70 ?_
     refine aQ 22 71 ?_
     refine aQ 23 72 ?_
     refine am 24 73 (.bool true) ?_
     refine wpAny_done (by kernel_rfl) ?_ _
     all_goals(go_wp2_with fail;go_ret2;(first|rw[p.out]|rw[show cG s (Int.toNat 1) text.data.toList=_ from p.out]);exact hr.out _ bN)
    |some M=>
     obtain⟨LT,T⟩:=M
     have D:=O.out.2 LT T rfl
     have E:Hid (Calls Tryz.prog 146 #[.pointer (some ⟨l,0,none⟩)] r.drew fun e w'=>e= .returned (.bool true)∧∃S U,w'.cell? ⟨l,3,none⟩=some (.slice S T.length U)∧Hid (Ints (fun b=>r.heap.size≤b) w' S U T∧OwnI w' r.heap.size (.slice S T.length U) T∧Below w.heap.size w w')∧w'.cell? ⟨bs,0,none⟩=some (.func (.func 145) #[] #[])∧w'.cell? ⟨bs,1,none⟩=some (.func (.func 146) #[] #[])):=Lib.hid (P.out.mono fun e w' h=>by
      rcases h with⟨L',T',h,he,hw,_⟩|⟨h,_⟩
      ·obtain⟨-,rfl⟩:=Prod.mk.inj (Option.some.inj h)
       obtain⟨S,U,f1,f2,f3⟩:=hw.facts
       have a4:bs≠l:=by omega
       exact⟨he,S,U,f1,Lib.hid ⟨f2,f3,al.out _ hw.gb⟩,ga hw.gb bU.out a4,ga hw.gb ((show r.cell? ⟨bs,1,none⟩=r.drew.cell? ⟨bs,1,none⟩from rfl).trans bW) a4⟩
      cases h)
     clear O P al
     cases Y:aw s T with
     |false=>
      have hf:=D.2 Y
      have z:=Lib.hid (N.out T)
      rw[Y]at z
      have p:=Lib.hid hf
      clear hf D Y N X
      refine wp_region_any (by kernel_rfl) ?_
      (try(change wpAny _ _ _ _ _ _ _ (World.drew _)))
      refine am 0 49 (.pointer (some ⟨bs,1,none⟩)) ?_
      refine am 2 51 (.pointer (some ⟨l,0,none⟩)) ?_
      refine a7 1 (fun K c=> ?_)
      go_simp
      refine c _ _ ?_
      clear c K
      refine a7 3 (fun K c=> ?_)
      go_simp
      (with_reducible refine E.out.mono ?_)
      rintro e w5 ⟨rfl,S,U,q3,m,t0,t1⟩
      go_simp
      (try(refine c _ _ ?_))
      clear c K
      refine am 4 53 (.bool false) ?_
      refine am 5 54 (.bool false) ?_
      refine am 6 55 (.slice a1 s.length c1) ?_
      refine am 7 56 (.pointer (some ⟨l,0,none⟩)) ?_
      refine am 8 57 (.pointer (some ⟨l,0,none⟩)) ?_
      refine am 9 58 (.pointer (some ⟨l,3,none⟩)) ?_
      refine a7 10 (fun K c=> ?_)
      go_simp
      refine c _ _ ?_
      clear c K
      refine a7 11 (fun K c=> ?_)
      go_simp
      (with_reducible refine(z.out _ m.out.2.2 _ _ _ m.out.1).mono ?_)
      rintro e w6 ⟨rfl,g⟩
      go_simp
      (try(refine c _ _ ?_))
      clear c K
      refine am 12 61 (.bool true) ?_
      refine am 13 62 (.bool true) ?_
      refine am 14 63 (.bool true) ?_
      refine aQ 15 64 ?_
      refine aQ 16 65 ?_
      refine aQ 17 66 ?_
      refine aQ 18 67 ?_
      refine aQ 19 68 ?_
      refine aQ 20 69 ?_
      refine aQ 21 70 ?_
      refine aQ 22 71 ?_
      refine aQ 23 72 ?_
      refine am 24 73 (.bool true) ?_
      refine wpAny_done (by kernel_rfl) ?_ _
      all_goals(go_wp2_with fail;go_ret2;(first|rw[p.out]|rw[show cG s (Int.toNat 1) text.data.toList=_ from p.out]);exact⟨_,rfl,OwnL.nil _ _ _ _ _,aa m.out.2.2 g⟩)
     |true=>
      have z:=Lib.hid (N.out T)
      rw[Y]at z
      have B:=Lib.hid (X.out T Y)
      by_cases H:txt 1 s T=text.data.toList
      ·have hf:=lk Y H
       have ad:ah (txt 1 s T)=text:=by rw[H];exact gO (by simp[ah])
       rw[ad]at B
       have p:=Lib.hid hf
       clear hf D Y N X H ad
       refine wp_region_any (by kernel_rfl) ?_
       (try(change wpAny _ _ _ _ _ _ _ (World.drew _)))
       refine am 0 49 (.pointer (some ⟨bs,1,none⟩)) ?_
       refine am 2 51 (.pointer (some ⟨l,0,none⟩)) ?_
       refine a7 1 (fun K c=> ?_)
       go_simp
       refine c _ _ ?_
       clear c K
       refine a7 3 (fun K c=> ?_)
       go_simp
       (with_reducible refine E.out.mono ?_)
       rintro e w5 ⟨rfl,S,U,q3,m,t0,t1⟩
       go_simp
       (try(refine c _ _ ?_))
       clear c K
       refine am 4 53 (.bool false) ?_
       refine am 5 54 (.bool false) ?_
       refine am 6 55 (.slice a1 s.length c1) ?_
       refine am 7 56 (.pointer (some ⟨l,0,none⟩)) ?_
       refine am 8 57 (.pointer (some ⟨l,0,none⟩)) ?_
       refine am 9 58 (.pointer (some ⟨l,3,none⟩)) ?_
       refine a7 10 (fun K c=> ?_)
       go_simp
       refine c _ _ ?_
       clear c K
       refine a7 11 (fun K c=> ?_)
       go_simp
       (with_reducible refine(z.out _ m.out.2.2 _ _ _ m.out.1).mono ?_)
       rintro e w6 ⟨rfl,g⟩
       have Q:=cell_later g q3
       have b0:=cell_later g t0
       have b3:=cell_later g t1
       have I:=Lib.hid (show Ints _ w6 S U T from m.out.1.below g)
       have J:=Lib.hid (OwnL.call m.out.2.1 g)
       have q:=Lib.hid (aa m.out.2.2 g)
       clear g
       go_simp
       (try(refine c _ _ ?_))
       clear c K
       refine am 12 61 (.bool false) ?_
       refine am 13 62 (.bool false) ?_
       refine am 14 63 (.bool false) ?_
       refine am 15 64 (.slice a1 s.length c1) ?_
       refine am 17 66 (.pointer (some ⟨l,0,none⟩)) ?_
       refine am 18 67 (.pointer (some ⟨l,0,none⟩)) ?_
       refine am 19 68 (.pointer (some ⟨l,3,none⟩)) ?_
       refine am 22 71 (.string text) ?_
       refine wpAny_ready (rs:=[16,20]) (by kernel_rfl) (by simp) (AllReady.cons rfl (fun K c=> ?_) (AllReady.cons rfl (fun K c=> ?_) AllReady.nil))
       ·go_simp
        refine c _ _ ?_
        clear c K
        refine a7 20 (fun K c=> ?_)
        go_simp
        refine c _ _ ?_
        clear c K
        refine a7 21 (fun K c=> ?_)
        go_simp
        (with_reducible refine(B.out _ q.out _ _ _ I.out).mono ?_)
        rintro e w7 ⟨rfl,f⟩
        have ao:=cell_later f Q
        have L:=Lib.hid (OwnL.call J.out f)
        have u:=Lib.hid (aa q.out f)
        clear f
        go_simp
        (try(refine c _ _ ?_))
        clear c K
        refine Io (i:=23) 72 (.bool false) rfl rfl (by kernel_rfl) (by kernel_rfl) (by kernel_rfl) (fun _ _ _ h=>h) (by kernel_rfl) (fun w=>by go_simp) ?_
        simp only[Act.put,List.setIfInBounds_toArray,List.set_cons_zero,List.set_cons_succ]
        refine am 24 73 (.bool false) ?_
        refine wpAny_done (by kernel_rfl) ?_ _
        (go_wp2_with fail;go_ret2;(first|rw[p.out]|rw[show cG s (Int.toNat 1) text.data.toList=_ from p.out]);exact⟨_,rfl,L.out.baseMono a9,u.out⟩)
       go_simp
       refine c _ _ ?_
       clear c K
       refine a7 16 (fun K c=> ?_)
       go_simp
       refine c _ _ ?_
       clear c K
       refine a7 21 (fun K c=> ?_)
       go_simp
       (with_reducible refine(B.out _ q.out _ _ _ I.out).mono ?_)
       rintro e w7 ⟨rfl,f⟩
       have ao:=cell_later f Q
       have L:=Lib.hid (OwnL.call J.out f)
       have u:=Lib.hid (aa q.out f)
       clear f
       go_simp
       (try(refine c _ _ ?_))
       clear c K
       refine Io (i:=23) 72 (.bool false) rfl rfl (by kernel_rfl) (by kernel_rfl) (by kernel_rfl) (fun _ _ _ h=>h) (by kernel_rfl) (fun w=>by go_simp) ?_
       simp only[Act.put,List.setIfInBounds_toArray,List.set_cons_zero,List.set_cons_succ]
       refine am 24 73 (.bool false) ?_
       refine wpAny_done (by kernel_rfl) ?_ _
       (go_wp2_with fail;go_ret2;(first|rw[p.out]|rw[show cG s (Int.toNat 1) text.data.toList=_ from p.out]);exact⟨_,rfl,L.out.baseMono a9,u.out⟩)
      have hf:=D.1 Y H
      obtain⟨y,hy⟩:∃y,ah (txt 1 s T)=y:=⟨_,rfl⟩
      have bS:¬y=text:=fun e=>H (by rw[←e,←hy];simp[ah])
      have d4:(y.toList==text.toList)=false:=by rw[eY,eY,beq_eq_false_iff_ne];exact fun e=>bS (gO e)
      rw[hy]at B
      have p:=Lib.hid hf
      clear hf D Y N X H hy
      refine wp_region_any (by kernel_rfl) ?_
      (try(change wpAny _ _ _ _ _ _ _ (World.drew _)))
      refine am 0 49 (.pointer (some ⟨bs,1,none⟩)) ?_
      refine am 2 51 (.pointer (some ⟨l,0,none⟩)) ?_
      refine a7 1 (fun K c=> ?_)
      go_simp
      refine c _ _ ?_
      clear c K
      refine a7 3 (fun K c=> ?_)
      go_simp
      (with_reducible refine E.out.mono ?_)
      rintro e w5 ⟨rfl,S,U,q3,m,t0,t1⟩
      go_simp
      (try(refine c _ _ ?_))
      clear c K
      refine am 4 53 (.bool false) ?_
      refine am 5 54 (.bool false) ?_
      refine am 6 55 (.slice a1 s.length c1) ?_
      refine am 7 56 (.pointer (some ⟨l,0,none⟩)) ?_
      refine am 8 57 (.pointer (some ⟨l,0,none⟩)) ?_
      refine am 9 58 (.pointer (some ⟨l,3,none⟩)) ?_
      refine a7 10 (fun K c=> ?_)
      go_simp
      refine c _ _ ?_
      clear c K
      refine a7 11 (fun K c=> ?_)
      go_simp
      (with_reducible refine(z.out _ m.out.2.2 _ _ _ m.out.1).mono ?_)
      rintro e w6 ⟨rfl,g⟩
      have Q:=cell_later g q3
      have b0:=cell_later g t0
      have b3:=cell_later g t1
      have I:=Lib.hid (show Ints _ w6 S U T from m.out.1.below g)
      have J:=Lib.hid (OwnL.call m.out.2.1 g)
      have q:=Lib.hid (aa m.out.2.2 g)
      clear g
      go_simp
      (try(refine c _ _ ?_))
      clear c K
      refine am 12 61 (.bool false) ?_
      refine am 13 62 (.bool false) ?_
      refine am 14 63 (.bool false) ?_
      refine am 15 64 (.slice a1 s.length c1) ?_
      refine am 17 66 (.pointer (some ⟨l,0,none⟩)) ?_
      refine am 18 67 (.pointer (some ⟨l,0,none⟩)) ?_
      refine am 19 68 (.pointer (some ⟨l,3,none⟩)) ?_
      refine am 22 71 (.string text) ?_
      refine wpAny_ready (rs:=[16,20]) (by kernel_rfl) (by simp) (AllReady.cons rfl (fun K c=> ?_) (AllReady.cons rfl (fun K c=> ?_) AllReady.nil))
      ·go_simp
       refine c _ _ ?_
       clear c K
       refine a7 20 (fun K c=> ?_)
       go_simp
       refine c _ _ ?_
       clear c K
       refine a7 21 (fun K c=> ?_)
       go_simp
       (with_reducible refine(B.out _ q.out _ _ _ I.out).mono ?_)
       rintro e w7 ⟨rfl,f⟩
       have ao:=cell_later f Q
       have L:=Lib.hid (OwnL.call J.out f)
       have u:=Lib.hid (aa q.out f)
       clear f
       go_simp
       (try(refine c _ _ ?_))
       clear c K
       refine Io (i:=23) 72 (.bool true) rfl rfl (by kernel_rfl) (by kernel_rfl) (by kernel_rfl) (fun _ _ _ h=>h) (by kernel_rfl) (fun w=>by go_simp) ?_
       simp only[Act.put,List.setIfInBounds_toArray,List.set_cons_zero,List.set_cons_succ]
       refine am 24 73 (.bool true) ?_
       refine wpAny_done (by kernel_rfl) ?_ _
       (go_wp2_with fail;go_ret2;(first|rw[p.out]|rw[show cG s (Int.toNat 1) text.data.toList=_ from p.out]);exact⟨_,rfl,OwnL.nil _ _ _ _ _,u.out⟩)
      go_simp
      refine c _ _ ?_
      clear c K
      refine a7 16 (fun K c=> ?_)
      go_simp
      refine c _ _ ?_
      clear c K
      refine a7 21 (fun K c=> ?_)
      go_simp
      (with_reducible refine(B.out _ q.out _ _ _ I.out).mono ?_)
      rintro e w7 ⟨rfl,f⟩
      have ao:=cell_later f Q
      have L:=Lib.hid (OwnL.call J.out f)
      have u:=Lib.hid (aa q.out f)
      clear f
      go_simp
      (try(refine c _ _ ?_))
      clear c K
      refine Io (i:=23) 72 (.bool true) rfl rfl (by kernel_rfl) (by kernel_rfl) (by kernel_rfl) (fun _ _ _ h=>h) (by kernel_rfl) (fun w=>by go_simp) ?_
      simp only[Act.put,List.setIfInBounds_toArray,List.set_cons_zero,List.set_cons_succ]
      refine am 24 73 (.bool true) ?_
      refine wpAny_done (by kernel_rfl) ?_ _
      (go_wp2_with fail;go_ret2;(first|rw[p.out]|rw[show cG s (Int.toNat 1) text.data.toList=_ from p.out]);exact⟨_,rfl,OwnL.nil _ _ _ _ _,u.out⟩)
   ·go_wp2_with fail
    refine(o5 _).mono ?_
    rintro e w4 ⟨rfl,ag⟩
    have du:=zr
    obtain⟨bs,aj⟩:∃bs,w4.heap.size=bs:=⟨_,rfl⟩
    obtain⟨r,G⟩:∃r,w4.alloc (.cells #[.func (.func 147) #[] #[], .func (.func 148) #[] #[]] 139)=r:=⟨_,rfl⟩
    have C:Below wr.heap.size wr r:=by rw[←G];exact aa ag (an w4 _)
    have a5:l<wr.heap.size:=(Array.getElem?_eq_some_iff.1 aN.out).1
    have t:Below w.heap.size w r:=aa ax.out C
    have a3:=aO.out.lt
    have a0:RdW r l mb a1 c1 s r Lf []:=⟨⟨aL,cL, .slice none 0 0,(C.block l a5).trans aN.out,((ay.out.same (.of_grown bq.out (fun b V e=>by injection e with e;have:=V.1;omega))).below C).weak (fun b V=>⟨by have:=V.2;have:=C.size;omega,by have:=V.2;omega⟩),OwnL.nil _ _ _ _ _⟩,kr _ _,bt,by have:=C.size;omega⟩
    have aW:ju r l mb a1 c1 s:=⟨ba.out,fun W hg=>by
     have Z:Below w.heap.size w W:=t.grown hg t.size (fun i e=>by injection e with e;omega)
     exact⟨(av.out.below Z).weak (fun _ _=>trivial),⟨s.length,(aO.out.below C a3).same (hg.block mb (by have:=C.size;omega) (fun e=>by injection e with e;omega))⟩,cr.out.later Z⟩⟩
    have cm:wr.heap.size≤bs:=by rw[←aj];exact ag.size
    have s0:r.cell? ⟨bs,0,none⟩=some (.func (.func 147) #[] #[]):=by rw[←G,←aj];clear G;go_simp
    have s1:r.cell? ⟨bs,1,none⟩=some (.func (.func 148) #[] #[]):=by rw[←G,←aj];clear G;go_simp
    have ab:RdW r l mb a1 c1 s r.drew Lf []:=a0.later (Below.drew (.refl _ _))
    have P:=Lib.hid (Bh aW 62 r.drew Lf [] ab (by decide) (by decide))
    have O:=Lib.hid (qe (s:=s) (k:=2) (by decide) bu)
    have bw:Below w.heap.size w r.drew:=Below.drew t
    have X:=Lib.hid (fun(T:List Int) (hT:aw s T=true) (W:World) (V:Below w.heap.size w W) (S2:Nat→Prop) (a2:Option Addr) (c2:Nat) (hI:Ints S2 W a2 c2 T)=>kM (k:=2) (F:=147) (R:=148) a1 a2 c1 c2 s T W (av.out.below V) hI hT (enters_of Tryz.func147 (by kernel_rfl) rfl)
     (fun S1 S2 b1 b2 d1 d2 n A W hn h1 h2=>tC b1 b2 d1 d2 s n hn A W ba.out h1 h2))
    have N:=Lib.hid (fun(T:List Int) (W:World) (V:Below w.heap.size w W) (S2:Nat→Prop) (a2:Option Addr) (c2:Nat) (hI:Ints S2 W a2 c2 T)=>fS a1 a2 c1 c2 s T W (av.out.below V) hI)
    have al:=Lib.hid (fun(W:World) (hg:r.grownBy W (some l))=>(t.grown hg t.size (fun i e=>by injection e with e;omega):Below w.heap.size w W))
    have a9:w.heap.size≤r.heap.size:=t.size
    have ac:=Lib.hid G
    have bU:=Lib.hid s0
    have bW:=cell_later (Below.drew (.refl r.heap.size r)) s1
    clear a0 ab aW C t bw ag G s0 s1 aN ax bq aO ay bu bt
    go_upto_region 14 with fail
    rw[ac.out]
    obtain⟨M,hM⟩:∃M,dq 2 s 62 (aV Lf,[])=M:=⟨_,rfl⟩
    rw[show da s 62 (aV Lf,[])=dq 2 s 62 (aV Lf,[])from rfl,hM]at P
    rw[hM]at O
    clear hM ac
    cases M with
    |none=>
     have hf:=O.out.1 rfl
     have E:Hid (Calls Tryz.prog 148 #[.pointer (some ⟨l,0,none⟩)] r.drew fun e w'=>e= .returned (.bool false)∧r.grownBy w' (some l)):=Lib.hid (P.out.mono fun e w' h=>by
      rcases h with⟨_,_,h,_⟩|⟨_,h1,_,_,h2⟩
      ·cases h
      exact⟨h1,h2.gb⟩)
     have hr:=Lib.hid (fun(W:World) (hg:r.grownBy W (some l))=>(⟨.slice none 0 0,rfl,OwnL.nil _ _ _ _ _,al.out W hg⟩:∃v,Ending.returned (.tuple #[.slice none 0 0, .int .i64 2])= .returned (.tuple #[v, .int .i64 (([],2):List Int×Int).2])∧OwnI W w.heap.size v (([],2):List Int×Int).1∧Below w.heap.size w W))
     have p:=Lib.hid hf
     clear hf O P
     refine wp_region_any (by kernel_rfl) ?_
     (try(change wpAny _ _ _ _ _ _ _ (World.drew _)))
     refine am 0 49 (.pointer (some ⟨bs,1,none⟩)) ?_
     refine am 2 51 (.pointer (some ⟨l,0,none⟩)) ?_
     refine a7 1 (fun K c=> ?_)
     go_simp
     refine c _ _ ?_
     clear c K
     refine a7 3 (fun K c=> ?_)
     go_simp
     (with_reducible refine E.out.mono ?_)
     rintro e w5 ⟨rfl,bN⟩
     go_simp
     (try(refine c _ _ ?_))
     clear c K
     refine am 4 53 (.bool true) ?_
     refine am 5 54 (.bool true) ?_
     refine aQ 6 55 ?_
     refine aQ 7 56 ?_
     refine aQ 8 57 ?_
     refine aQ 9 58 ?_
     refine aQ 10 59 ?_
     refine aQ 11 60 ?_
     refine aQ 12 61 ?_
     refine am 13 62 (.bool true) ?_
     refine am 14 63 (.bool true) ?_
     refine aQ 15 64 ?_
     refine aQ 16 65 ?_
     refine aQ 17 66 ?_
     refine aQ 18 67 ?_
     refine aQ 19 68 ?_
     refine aQ 20 69 ?_
     refine aQ 21 70 ?_
     refine aQ 22 71 ?_
     refine aQ 23 72 ?_
     refine am 24 73 (.bool true) ?_
     refine wpAny_done (by kernel_rfl) ?_ _
     all_goals(go_wp2_with fail;go_ret2;(first|rw[p.out]|rw[show cG s (Int.toNat 2) text.data.toList=_ from p.out]);exact hr.out _ bN)
    |some M=>
     obtain⟨LT,T⟩:=M
     have D:=O.out.2 LT T rfl
     have E:Hid (Calls Tryz.prog 148 #[.pointer (some ⟨l,0,none⟩)] r.drew fun e w'=>e= .returned (.bool true)∧∃S U,w'.cell? ⟨l,3,none⟩=some (.slice S T.length U)∧Hid (Ints (fun b=>r.heap.size≤b) w' S U T∧OwnI w' r.heap.size (.slice S T.length U) T∧Below w.heap.size w w')∧w'.cell? ⟨bs,0,none⟩=some (.func (.func 147) #[] #[])∧w'.cell? ⟨bs,1,none⟩=some (.func (.func 148) #[] #[])):=Lib.hid (P.out.mono fun e w' h=>by
      rcases h with⟨L',T',h,he,hw,_⟩|⟨h,_⟩
      ·obtain⟨-,rfl⟩:=Prod.mk.inj (Option.some.inj h)
       obtain⟨S,U,f1,f2,f3⟩:=hw.facts
       have a4:bs≠l:=by omega
       exact⟨he,S,U,f1,Lib.hid ⟨f2,f3,al.out _ hw.gb⟩,ga hw.gb bU.out a4,ga hw.gb ((show r.cell? ⟨bs,1,none⟩=r.drew.cell? ⟨bs,1,none⟩from rfl).trans bW) a4⟩
      cases h)
     clear O P al
     cases Y:aw s T with
     |false=>
      have hf:=D.2 Y
      have z:=Lib.hid (N.out T)
      rw[Y]at z
      have p:=Lib.hid hf
      clear hf D Y N X
      refine wp_region_any (by kernel_rfl) ?_
      (try(change wpAny _ _ _ _ _ _ _ (World.drew _)))
      refine am 0 49 (.pointer (some ⟨bs,1,none⟩)) ?_
      refine am 2 51 (.pointer (some ⟨l,0,none⟩)) ?_
      refine a7 1 (fun K c=> ?_)
      go_simp
      refine c _ _ ?_
      clear c K
      refine a7 3 (fun K c=> ?_)
      go_simp
      (with_reducible refine E.out.mono ?_)
      rintro e w5 ⟨rfl,S,U,q3,m,t0,t1⟩
      go_simp
      (try(refine c _ _ ?_))
      clear c K
      refine am 4 53 (.bool false) ?_
      refine am 5 54 (.bool false) ?_
      refine am 6 55 (.slice a1 s.length c1) ?_
      refine am 7 56 (.pointer (some ⟨l,0,none⟩)) ?_
      refine am 8 57 (.pointer (some ⟨l,0,none⟩)) ?_
      refine am 9 58 (.pointer (some ⟨l,3,none⟩)) ?_
      refine a7 10 (fun K c=> ?_)
      go_simp
      refine c _ _ ?_
      clear c K
      refine a7 11 (fun K c=> ?_)
      go_simp
      (with_reducible refine(z.out _ m.out.2.2 _ _ _ m.out.1).mono ?_)
      rintro e w6 ⟨rfl,g⟩
      go_simp
      (try(refine c _ _ ?_))
      clear c K
      refine am 12 61 (.bool true) ?_
      refine am 13 62 (.bool true) ?_
      refine am 14 63 (.bool true) ?_
      refine aQ 15 64 ?_
      refine aQ 16 65 ?_
      refine aQ 17 66 ?_
      refine aQ 18 67 ?_
      refine aQ 19 68 ?_
      refine aQ 20 69 ?_
      refine aQ 21 70 ?_
      refine aQ 22 71 ?_
      refine aQ 23 72 ?_
      refine am 24 73 (.bool true) ?_
      refine wpAny_done (by kernel_rfl) ?_ _
      all_goals(go_wp2_with fail;go_ret2;(first|rw[p.out]|rw[show cG s (Int.toNat 2) text.data.toList=_ from p.out]);exact⟨_,rfl,OwnL.nil _ _ _ _ _,aa m.out.2.2 g⟩)
     |true=>
      have z:=Lib.hid (N.out T)
      rw[Y]at z
      have B:=Lib.hid (X.out T Y)
      by_cases H:txt 2 s T=text.data.toList
      ·have hf:=lk Y H
       have ad:ah (txt 2 s T)=text:=by rw[H];exact gO (by simp[ah])
       rw[ad]at B
       have p:=Lib.hid hf
       clear hf D Y N X H ad
       refine wp_region_any (by kernel_rfl) ?_
       (try(change wpAny _ _ _ _ _ _ _ (World.drew _)))
       refine am 0 49 (.pointer (some ⟨bs,1,none⟩)) ?_
       refine am 2 51 (.pointer (some ⟨l,0,none⟩)) ?_
       refine a7 1 (fun K c=> ?_)
       go_simp
       refine c _ _ ?_
       clear c K
       refine a7 3 (fun K c=> ?_)
       go_simp
       (with_reducible refine E.out.mono ?_)
       rintro e w5 ⟨rfl,S,U,q3,m,t0,t1⟩
       go_simp
       (try(refine c _ _ ?_))
       clear c K
       refine am 4 53 (.bool false) ?_
       refine am 5 54 (.bool false) ?_
       refine am 6 55 (.slice a1 s.length c1) ?_
       refine am 7 56 (.pointer (some ⟨l,0,none⟩)) ?_
       refine am 8 57 (.pointer (some ⟨l,0,none⟩)) ?_
       refine am 9 58 (.pointer (some ⟨l,3,none⟩)) ?_
       refine a7 10 (fun K c=> ?_)
       go_simp
       refine c _ _ ?_
       clear c K
       refine a7 11 (fun K c=> ?_)
       go_simp
       (with_reducible refine(z.out _ m.out.2.2 _ _ _ m.out.1).mono ?_)
       rintro e w6 ⟨rfl,g⟩
       have Q:=cell_later g q3
       have b0:=cell_later g t0
       have b3:=cell_later g t1
       have I:=Lib.hid (show Ints _ w6 S U T from m.out.1.below g)
       have J:=Lib.hid (OwnL.call m.out.2.1 g)
       have q:=Lib.hid (aa m.out.2.2 g)
       clear g
       go_simp
       (try(refine c _ _ ?_))
       clear c K
       refine am 12 61 (.bool false) ?_
       refine am 13 62 (.bool false) ?_
       refine am 14 63 (.bool false) ?_
       refine am 15 64 (.slice a1 s.length c1) ?_
       refine am 17 66 (.pointer (some ⟨l,0,none⟩)) ?_
       refine am 18 67 (.pointer (some ⟨l,0,none⟩)) ?_
       refine am 19 68 (.pointer (some ⟨l,3,none⟩)) ?_
       refine am 22 71 (.string text) ?_
       refine wpAny_ready (rs:=[16,20]) (by kernel_rfl) (by simp) (AllReady.cons rfl (fun K c=> ?_) (AllReady.cons rfl (fun K c=> ?_) AllReady.nil))
       ·go_simp
        refine c _ _ ?_
        clear c K
        refine a7 20 (fun K c=> ?_)
        go_simp
        refine c _ _ ?_
        clear c K
        refine a7 21 (fun K c=> ?_)
        go_simp
        (with_reducible refine(B.out _ q.out _ _ _ I.out).mono ?_)
        rintro e w7 ⟨rfl,f⟩
        have ao:=cell_later f Q
        have L:=Lib.hid (OwnL.call J.out f)
        have u:=Lib.hid (aa q.out f)
        clear f
        go_simp
        (try(refine c _ _ ?_))
        clear c K
        refine Io (i:=23) 72 (.bool false) rfl rfl (by kernel_rfl) (by kernel_rfl) (by kernel_rfl) (fun _ _ _ h=>h) (by kernel_rfl) (fun w=>by go_simp) ?_
        simp only[Act.put,List.setIfInBounds_toArray,List.set_cons_zero,List.set_cons_succ]
        refine am 24 73 (.bool false) ?_
        refine wpAny_done (by kernel_rfl) ?_ _
        (go_wp2_with fail;go_ret2;(first|rw[p.out]|rw[show cG s (Int.toNat 2) text.data.toList=_ from p.out]);exact⟨_,rfl,L.out.baseMono a9,u.out⟩)
       go_simp
       refine c _ _ ?_
       clear c K
       refine a7 16 (fun K c=> ?_)
       go_simp
       refine c _ _ ?_
       clear c K
       refine a7 21 (fun K c=> ?_)
       go_simp
       (with_reducible refine(B.out _ q.out _ _ _ I.out).mono ?_)
       rintro e w7 ⟨rfl,f⟩
       have ao:=cell_later f Q
       have L:=Lib.hid (OwnL.call J.out f)
       have u:=Lib.hid (aa q.out f)
       clear f
       go_simp
       (try(refine c _ _ ?_))
       clear c K
       refine Io (i:=23) 72 (.bool false) rfl rfl (by kernel_rfl) (by kernel_rfl) (by kernel_rfl) (fun _ _ _ h=>h) (by kernel_rfl) (fun w=>by go_simp) ?_
       simp only[Act.put,List.setIfInBounds_toArray,List.set_cons_zero,List.set_cons_succ]
       refine am 24 73 (.bool false) ?_
       refine wpAny_done (by kernel_rfl) ?_ _
       (go_wp2_with fail;go_ret2;(first|rw[p.out]|rw[show cG s (Int.toNat 2) text.data.toList=_ from p.out]);exact⟨_,rfl,L.out.baseMono a9,u.out⟩)
      have hf:=D.1 Y H
      obtain⟨y,hy⟩:∃y,ah (txt 2 s T)=y:=⟨_,rfl⟩
      have bS:¬y=text:=fun e=>H (by rw[←e,←hy];simp[ah])
      have d4:(y.toList==text.toList)=false:=by rw[eY,eY,beq_eq_false_iff_ne];exact fun e=>bS (gO e)
      rw[hy]at B
      have p:=Lib.hid hf
      clear hf D Y N X H hy
      refine wp_region_any (by kernel_rfl) ?_
      (try(change wpAny _ _ _ _ _ _ _ (World.drew _)))
      refine am 0 49 (.pointer (some ⟨bs,1,none⟩)) ?_
      refine am 2 51 (.pointer (some ⟨l,0,none⟩)) ?_
      refine a7 1 (fun K c=> ?_)
      go_simp
      refine c _ _ ?_
      clear c K
      refine a7 3 (fun K c=> ?_)
      go_simp
      (with_reducible refine E.out.mono ?_)
      rintro e w5 ⟨rfl,S,U,q3,m,t0,t1⟩
      go_simp
      (try(refine c _ _ ?_))
      clear c K
      refine am 4 53 (.bool false) ?_
      refine am 5 54 (.bool false) ?_
      refine am 6 55 (.slice a1 s.length c1) ?_
      refine am 7 56 (.pointer (some ⟨l,0,none⟩)) ?_
      refine am 8 57 (.pointer (some ⟨l,0,none⟩)) ?_
      refine am 9 58 (.pointer (some ⟨l,3,none⟩)) ?_
      refine a7 10 (fun K c=> ?_)
      go_simp
      refine c _ _ ?_
      clear c K
      refine a7 11 (fun K c=> ?_)
      go_simp
      (with_reducible refine(z.out _ m.out.2.2 _ _ _ m.out.1).mono ?_)
      rintro e w6 ⟨rfl,g⟩
      have Q:=cell_later g q3
      have b0:=cell_later g t0
      have b3:=cell_later g t1
      have I:=Lib.hid (show Ints _ w6 S U T from m.out.1.below g)
      have J:=Lib.hid (OwnL.call m.out.2.1 g)
      have q:=Lib.hid (aa m.out.2.2 g)
      clear g
      go_simp
      (try(refine c _ _ ?_))
      clear c K
      refine am 12 61 (.bool false) ?_
      refine am 13 62 (.bool false) ?_
      refine am 14 63 (.bool false) ?_
      refine am 15 64 (.slice a1 s.length c1) ?_
      refine am 17 66 (.pointer (some ⟨l,0,none⟩)) ?_
      refine am 18 67 (.pointer (some ⟨l,0,none⟩)) ?_
      refine am 19 68 (.pointer (some ⟨l,3,none⟩)) ?_
      refine am 22 71 (.string text) ?_
      refine wpAny_ready (rs:=[16,20]) (by kernel_rfl) (by simp) (AllReady.cons rfl (fun K c=> ?_) (AllReady.cons rfl (fun K c=> ?_) AllReady.nil))
      ·go_simp
       refine c _ _ ?_
       clear c K
       refine a7 20 (fun K c=> ?_)
       go_simp
       refine c _ _ ?_
       clear c K
       refine a7 21 (fun K c=> ?_)
       go_simp
       (with_reducible refine(B.out _ q.out _ _ _ I.out).mono ?_)
       rintro e w7 ⟨rfl,f⟩
       have ao:=cell_later f Q
       have L:=Lib.hid (OwnL.call J.out f)
       have u:=Lib.hid (aa q.out f)
       clear f
       go_simp
       (try(refine c _ _ ?_))
       clear c K
       refine Io (i:=23) 72 (.bool true) rfl rfl (by kernel_rfl) (by kernel_rfl) (by kernel_rfl) (fun _ _ _ h=>h) (by kernel_rfl) (fun w=>by go_simp) ?_
       simp only[Act.put,List.setIfInBounds_toArray,List.set_cons_zero,List.set_cons_succ]
       refine am 24 73 (.bool true) ?_
       refine wpAny_done (by kernel_rfl) ?_ _
       (go_wp2_with fail;go_ret2;(first|rw[p.out]|rw[show cG s (Int.toNat 2) text.data.toList=_ from p.out]);exact⟨_,rfl,OwnL.nil _ _ _ _ _,u.out⟩)
      go_simp
      refine c _ _ ?_
      clear c K
      refine a7 16 (fun K c=> ?_)
      go_simp
      refine c _ _ ?_
      clear c K
      refine a7 21 (fun K c=> ?_)
      go_simp
      (with_reducible refine(B.out _ q.out _ _ _ I.out).mono ?_)
      rintro e w7 ⟨rfl,f⟩
      have ao:=cell_later f Q
      have L:=Lib.hid (OwnL.call J.out f)
      have u:=Lib.hid (aa q.out f)
      clear f
      go_simp
      (try(refine c _ _ ?_))
      clear c K
      refine Io (i:=23) 72 (.bool true) rfl rfl (by kernel_rfl) (by kernel_rfl) (by kernel_rfl) (fun _ _ _ h=>h) (by kernel_rfl) (fun w=>by go_simp) ?_
      simp only[Act.put,List.setIfInBounds_toArray,List.set_cons_zero,List.set_cons_succ]
      refine am 24 73 (.bool true) ?_
      refine wpAny_done (by kernel_rfl) ?_ _
      (go_wp2_with fail;go_ret2;(first|rw[p.out]|rw[show cG s (Int.toNat 2) text.data.toList=_ from p.out]);exact⟨_,rfl,OwnL.nil _ _ _ _ _,u.out⟩)
   go_wp2_with fail
   refine(o5 _).mono ?_
   rintro e w4 ⟨rfl,ag⟩
   have du:=zs
   obtain⟨bs,aj⟩:∃bs,w4.heap.size=bs:=⟨_,rfl⟩
   obtain⟨r,G⟩:∃r,w4.alloc (.cells #[.func (.func 149) #[] #[], .func (.func 150) #[] #[]] 139)=r:=⟨_,rfl⟩
   have C:Below wr.heap.size wr r:=by rw[←G];exact aa ag (an w4 _)
   have a5:l<wr.heap.size:=(Array.getElem?_eq_some_iff.1 aN.out).1
   have t:Below w.heap.size w r:=aa ax.out C
   have a3:=aO.out.lt
   have a0:RdW r l mb a1 c1 s r Lf []:=⟨⟨aL,cL, .slice none 0 0,(C.block l a5).trans aN.out,((ay.out.same (.of_grown bq.out (fun b V e=>by injection e with e;have:=V.1;omega))).below C).weak (fun b V=>⟨by have:=V.2;have:=C.size;omega,by have:=V.2;omega⟩),OwnL.nil _ _ _ _ _⟩,kr _ _,bt,by have:=C.size;omega⟩
   have aW:ju r l mb a1 c1 s:=⟨ba.out,fun W hg=>by
    have Z:Below w.heap.size w W:=t.grown hg t.size (fun i e=>by injection e with e;omega)
    exact⟨(av.out.below Z).weak (fun _ _=>trivial),⟨s.length,(aO.out.below C a3).same (hg.block mb (by have:=C.size;omega) (fun e=>by injection e with e;omega))⟩,cr.out.later Z⟩⟩
   have cm:wr.heap.size≤bs:=by rw[←aj];exact ag.size
   have s0:r.cell? ⟨bs,0,none⟩=some (.func (.func 149) #[] #[]):=by rw[←G,←aj];clear G;go_simp
   have s1:r.cell? ⟨bs,1,none⟩=some (.func (.func 150) #[] #[]):=by rw[←G,←aj];clear G;go_simp
   have ab:RdW r l mb a1 c1 s r.drew Lf []:=a0.later (Below.drew (.refl _ _))
   have P:=Lib.hid (BF aW 62 r.drew Lf [] ab (by decide) (by decide))
   have O:=Lib.hid (qe (s:=s) (k:=3) (by decide) bu)
   have bw:Below w.heap.size w r.drew:=Below.drew t
   have X:=Lib.hid (fun(T:List Int) (hT:aw s T=true) (W:World) (V:Below w.heap.size w W) (S2:Nat→Prop) (a2:Option Addr) (c2:Nat) (hI:Ints S2 W a2 c2 T)=>kM (k:=3) (F:=149) (R:=150) a1 a2 c1 c2 s T W (av.out.below V) hI hT (enters_of Tryz.func149 (by kernel_rfl) rfl)
    (fun S1 S2 b1 b2 d1 d2 n A W hn h1 h2=>tK b1 b2 d1 d2 s n hn A W ba.out h1 h2))
   have N:=Lib.hid (fun(T:List Int) (W:World) (V:Below w.heap.size w W) (S2:Nat→Prop) (a2:Option Addr) (c2:Nat) (hI:Ints S2 W a2 c2 T)=>fS a1 a2 c1 c2 s T W (av.out.below V) hI)
   have al:=Lib.hid (fun(W:World) (hg:r.grownBy W (some l))=>(t.grown hg t.size (fun i e=>by injection e with e;omega):Below w.heap.size w W))
   have a9:w.heap.size≤r.heap.size:=t.size
   have ac:=Lib.hid G
   have bU:=Lib.hid s0
   have bW:=cell_later (Below.drew (.refl r.heap.size r)) s1
   clear a0 ab aW C t bw ag G s0 s1 aN ax bq aO ay bu bt
   go_upto_region 14 with fail
   rw[ac.out]
   obtain⟨M,hM⟩:∃M,dq 3 s 62 (aV Lf,[])=M:=⟨_,rfl⟩
   rw[show dG s 62 (aV Lf,[])=dq 3 s 62 (aV Lf,[])from rfl,hM]at P
   rw[hM]at O
   clear hM ac
   cases M with
   |none=>
    have hf:=O.out.1 rfl
    have E:Hid (Calls Tryz.prog 150 #[.pointer (some ⟨l,0,none⟩)] r.drew fun e w'=>e= .returned (.bool false)∧r.grownBy w' (some l)):=Lib.hid (P.out.mono fun e w' h=>by
     rcases h with⟨_,_,h,_⟩|⟨_,h1,_,_,h2⟩
     ·cases h
     exact⟨h1,h2.gb⟩)
    have hr:=Lib.hid (fun(W:World) (hg:r.grownBy W (some l))=>(⟨.slice none 0 0,rfl,OwnL.nil _ _ _ _ _,al.out W hg⟩:∃v,Ending.returned (.tuple #[.slice none 0 0, .int .i64 2])= .returned (.tuple #[v, .int .i64 (([],2):List Int×Int).2])∧OwnI W w.heap.size v (([],2):List Int×Int).1∧Below w.heap.size w W))
    have p:=Lib.hid hf
    clear hf O P
    refine wp_region_any (by kernel_rfl) ?_
    (try(change wpAny _ _ _ _ _ _ _ (World.drew _)))
    refine am 0 49 (.pointer (some ⟨bs,1,none⟩)) ?_
    refine am 2 51 (.pointer (some ⟨l,0,none⟩)) ?_
    refine a7 1 (fun K c=> ?_)
    go_simp
    refine c _ _ ?_
    clear c K
    refine a7 3 (fun K c=> ?_)
    go_simp
    (with_reducible refine E.out.mono ?_)
    rintro e w5 ⟨rfl,bN⟩
    go_simp
    (try(refine c _ _ ?_))
    clear c K
    refine am 4 53 (.bool true) ?_
    refine am 5 54 (.bool true) ?_
    refine aQ 6 55 ?_
    refine aQ 7 56 ?_
    refine aQ 8 57 ?_
    refine aQ 9 58 ?_
    refine aQ 10 59 ?_
    refine aQ 11 60 ?_
    refine aQ 12 61 ?_
    refine am 13 62 (.bool true) ?_
    refine am 14 63 (.bool true) ?_
    refine aQ 15 64 ?_
    refine aQ 16 65 ?_
    refine aQ 17 66 ?_
    refine aQ 18 67 ?_
    refine aQ 19 68 ?_
    refine aQ 20 69 ?_
    refine aQ 21 70 ?_
    refine aQ 22 71 ?_
    refine aQ 23 72 ?_
    refine am 24 73 (.bool true) ?_
    refine wpAny_done (by kernel_rfl) ?_ _
    all_goals(go_wp2_with fail;go_ret2;(first|rw[p.out]|rw[show cG s (Int.toNat 3) text.data.toList=_ from p.out]);exact hr.out _ bN)
   |some M=>
    obtain⟨LT,T⟩:=M
    have D:=O.out.2 LT T rfl
    have E:Hid (Calls Tryz.prog 150 #[.pointer (some ⟨l,0,none⟩)] r.drew fun e w'=>e= .returned (.bool true)∧∃S U,w'.cell? ⟨l,3,none⟩=some (.slice S T.length U)∧Hid (Ints (fun b=>r.heap.size≤b) w' S U T∧OwnI w' r.heap.size (.slice S T.length U) T∧Below w.heap.size w w')∧w'.cell? ⟨bs,0,none⟩=some (.func (.func 149) #[] #[])∧w'.cell? ⟨bs,1,none⟩=some (.func (.func 150) #[] #[])):=Lib.hid (P.out.mono fun e w' h=>by
     rcases h with⟨L',T',h,he,hw,_⟩|⟨h,_⟩
     ·obtain⟨-,rfl⟩:=Prod.mk.inj (Option.some.inj h)
      obtain⟨S,U,f1,f2,f3⟩:=hw.facts
      have a4:bs≠l:=by omega
      exact⟨he,S,U,f1,Lib.hid ⟨f2,f3,al.out _ hw.gb⟩,ga hw.gb bU.out a4,ga hw.gb ((show r.cell? ⟨bs,1,none⟩=r.drew.cell? ⟨bs,1,none⟩from rfl).trans bW) a4⟩
     cases h)
    clear O P al
    cases Y:aw s T with
    |false=>
     have hf:=D.2 Y
     have z:=Lib.hid (N.out T)
     rw[Y]at z
     have p:=Lib.hid hf
     clear hf D Y N X
     refine wp_region_any (by kernel_rfl) ?_
     (try(change wpAny _ _ _ _ _ _ _ (World.drew _)))
     refine am 0 49 (.pointer (some ⟨bs,1,none⟩)) ?_
     refine am 2 51 (.pointer (some ⟨l,0,none⟩)) ?_
     refine a7 1 (fun K c=> ?_)
     go_simp
     refine c _ _ ?_
     clear c K
     refine a7 3 (fun K c=> ?_)
     go_simp
     (with_reducible refine E.out.mono ?_)
     rintro e w5 ⟨rfl,S,U,q3,m,t0,t1⟩
     go_simp
     (try(refine c _ _ ?_))
     clear c K
     refine am 4 53 (.bool false) ?_
     refine am 5 54 (.bool false) ?_
     refine am 6 55 (.slice a1 s.length c1) ?_
     refine am 7 56 (.pointer (some ⟨l,0,none⟩)) ?_
     refine am 8 57 (.pointer (some ⟨l,0,none⟩)) ?_
     refine am 9 58 (.pointer (some ⟨l,3,none⟩)) ?_
     refine a7 10 (fun K c=> ?_)
     go_simp
     refine c _ _ ?_
     clear c K
     refine a7 11 (fun K c=> ?_)
     go_simp
     (with_reducible refine(z.out _ m.out.2.2 _ _ _ m.out.1).mono ?_)
     rintro e w6 ⟨rfl,g⟩
     go_simp
     (try(refine c _ _ ?_))
     clear c K
     refine am 12 61 (.bool true) ?_
     refine am 13 62 (.bool true) ?_
     refine am 14 63 (.bool true) ?_
     refine aQ 15 64 ?_
     refine aQ 16 65 ?_
     refine aQ 17 66 ?_
     refine aQ 18 67 ?_
     refine aQ 19 68 ?_
     refine aQ 20 69 ?_
     refine aQ 21 70 ?_
     refine aQ 22 71 ?_
     refine aQ 23 72 ?_
     refine am 24 73 (.bool true) ?_
     refine wpAny_done (by kernel_rfl) ?_ _
     all_goals(go_wp2_with fail;go_ret2;(first|rw[p.out]|rw[show cG s (Int.toNat 3) text.data.toList=_ from p.out]);exact⟨_,rfl,OwnL.nil _ _ _ _ _,aa m.out.2.2 g⟩)
    |true=>
     have z:=Lib.hid (N.out T)
     rw[Y]at z
     have B:=Lib.hid (X.out T Y)
     by_cases H:txt 3 s T=text.data.toList
     ·have hf:=lk Y H
      have ad:ah (txt 3 s T)=text:=by rw[H];exact gO (by simp[ah])
      rw[ad]at B
      have p:=Lib.hid hf
      clear hf D Y N X H ad
      refine wp_region_any (by kernel_rfl) ?_
      (try(change wpAny _ _ _ _ _ _ _ (World.drew _)))
      refine am 0 49 (.pointer (some ⟨bs,1,none⟩)) ?_
      refine am 2 51 (.pointer (some ⟨l,0,none⟩)) ?_
      refine a7 1 (fun K c=> ?_)
      go_simp
      refine c _ _ ?_
      clear c K
      refine a7 3 (fun K c=> ?_)
      go_simp
      (with_reducible refine E.out.mono ?_)
      rintro e w5 ⟨rfl,S,U,q3,m,t0,t1⟩
      go_simp
      (try(refine c _ _ ?_))
      clear c K
      refine am 4 53 (.bool false) ?_
      refine am 5 54 (.bool false) ?_
      refine am 6 55 (.slice a1 s.length c1) ?_
      refine am 7 56 (.pointer (some ⟨l,0,none⟩)) ?_
      refine am 8 57 (.pointer (some ⟨l,0,none⟩)) ?_
      refine am 9 58 (.pointer (some ⟨l,3,none⟩)) ?_
      refine a7 10 (fun K c=> ?_)
      go_simp
      refine c _ _ ?_
      clear c K
      refine a7 11 (fun K c=> ?_)
      go_simp
      (with_reducible refine(z.out _ m.out.2.2 _ _ _ m.out.1).mono ?_)
      rintro e w6 ⟨rfl,g⟩
      have Q:=cell_later g q3
      have b0:=cell_later g t0
      have b3:=cell_later g t1
      have I:=Lib.hid (show Ints _ w6 S U T from m.out.1.below g)
      have J:=Lib.hid (OwnL.call m.out.2.1 g)
      have q:=Lib.hid (aa m.out.2.2 g)
      clear g
      go_simp
      (try(refine c _ _ ?_))
      clear c K
      refine am 12 61 (.bool false) ?_
      refine am 13 62 (.bool false) ?_
      refine am 14 63 (.bool false) ?_
      refine am 15 64 (.slice a1 s.length c1) ?_
      refine am 17 66 (.pointer (some ⟨l,0,none⟩)) ?_
      refine am 18 67 (.pointer (some ⟨l,0,none⟩)) ?_
      refine am 19 68 (.pointer (some ⟨l,3,none⟩)) ?_
      refine am 22 71 (.string text) ?_
      refine wpAny_ready (rs:=[16,20]) (by kernel_rfl) (by simp) (AllReady.cons rfl (fun K c=> ?_) (AllReady.cons rfl (fun K c=> ?_) AllReady.nil))
      ·go_simp
       refine c _ _ ?_
       clear c K
       refine a7 20 (fun K c=> ?_)
       go_simp
       refine c _ _ ?_
       clear c K
       refine a7 21 (fun K c=> ?_)
       go_simp
       (with_reducible refine(B.out _ q.out _ _ _ I.out).mono ?_)
       rintro e w7 ⟨rfl,f⟩
       have ao:=cell_later f Q
       have L:=Lib.hid (OwnL.call J.out f)
       have u:=Lib.hid (aa q.out f)
       clear f
       go_simp
       (try(refine c _ _ ?_))
       clear c K
       refine Io (i:=23) 72 (.bool false) rfl rfl (by kernel_rfl) (by kernel_rfl) (by kernel_rfl) (fun _ _ _ h=>h) (by kernel_rfl) (fun w=>by go_simp) ?_
       simp only[Act.put,List.setIfInBounds_toArray,List.set_cons_zero,List.set_cons_succ]
       refine am 24 73 (.bool false) ?_
       refine wpAny_done (by kernel_rfl) ?_ _
       (go_wp2_with fail;go_ret2;(first|rw[p.out]|rw[show cG s (Int.toNat 3) text.data.toList=_ from p.out]);exact⟨_,rfl,L.out.baseMono a9,u.out⟩)
      go_simp
      refine c _ _ ?_
      clear c K
      refine a7 16 (fun K c=> ?_)
      go_simp
      refine c _ _ ?_
      clear c K
      refine a7 21 (fun K c=> ?_)
      go_simp
      (with_reducible refine(B.out _ q.out _ _ _ I.out).mono ?_)
      rintro e w7 ⟨rfl,f⟩
      have ao:=cell_later f Q
      have L:=Lib.hid (OwnL.call J.out f)
      have u:=Lib.hid (aa q.out f)
      clear f
      go_simp
      (try(refine c _ _ ?_))
      clear c K
      refine Io (i:=23) 72 (.bool false) rfl rfl (by kernel_rfl) (by kernel_rfl) (by kernel_rfl) (fun _ _ _ h=>h) (by kernel_rfl) (fun w=>by go_simp) ?_
      simp only[Act.put,List.setIfInBounds_toArray,List.set_cons_zero,List.set_cons_succ]
      refine am 24 73 (.bool false) ?_
      refine wpAny_done (by kernel_rfl) ?_ _
      (go_wp2_with fail;go_ret2;(first|rw[p.out]|rw[show cG s (Int.toNat 3) text.data.toList=_ from p.out]);exact⟨_,rfl,L.out.baseMono a9,u.out⟩)
     have hf:=D.1 Y H
     obtain⟨y,hy⟩:∃y,ah (txt 3 s T)=y:=⟨_,rfl⟩
     have bS:¬y=text:=fun e=>H (by rw[←e,←hy];simp[ah])
     have d4:(y.toList==text.toList)=false:=by rw[eY,eY,beq_eq_false_iff_ne];exact fun e=>bS (gO e)
     rw[hy]at B
     have p:=Lib.hid hf
     clear hf D Y N X H hy
     refine wp_region_any (by kernel_rfl) ?_
     (try(change wpAny _ _ _ _ _ _ _ (World.drew _)))
     refine am 0 49 (.pointer (some ⟨bs,1,none⟩)) ?_
     refine am 2 51 (.pointer (some ⟨l,0,none⟩)) ?_
     refine a7 1 (fun K c=> ?_)
     go_simp
     refine c _ _ ?_
     clear c K
     refine a7 3 (fun K c=> ?_)
     go_simp
     (with_reducible refine E.out.mono ?_)
     rintro e w5 ⟨rfl,S,U,q3,m,t0,t1⟩
     go_simp
     (try(refine c _ _ ?_))
     clear c K
     refine am 4 53 (.bool false) ?_
     refine am 5 54 (.bool false) ?_
     refine am 6 55 (.slice a1 s.length c1) ?_
     refine am 7 56 (.pointer (some ⟨l,0,none⟩)) ?_
     refine am 8 57 (.pointer (some ⟨l,0,none⟩)) ?_
     refine am 9 58 (.pointer (some ⟨l,3,none⟩)) ?_
     refine a7 10 (fun K c=> ?_)
     go_simp
     refine c _ _ ?_
     clear c K
     refine a7 11 (fun K c=> ?_)
     go_simp
     (with_reducible refine(z.out _ m.out.2.2 _ _ _ m.out.1).mono ?_)
     rintro e w6 ⟨rfl,g⟩
     have Q:=cell_later g q3
     have b0:=cell_later g t0
     have b3:=cell_later g t1
     have I:=Lib.hid (show Ints _ w6 S U T from m.out.1.below g)
     have J:=Lib.hid (OwnL.call m.out.2.1 g)
     have q:=Lib.hid (aa m.out.2.2 g)
     clear g
     go_simp
     (try(refine c _ _ ?_))
     clear c K
     refine am 12 61 (.bool false) ?_
     refine am 13 62 (.bool false) ?_
     refine am 14 63 (.bool false) ?_
     refine am 15 64 (.slice a1 s.length c1) ?_
     refine am 17 66 (.pointer (some ⟨l,0,none⟩)) ?_
     refine am 18 67 (.pointer (some ⟨l,0,none⟩)) ?_
     refine am 19 68 (.pointer (some ⟨l,3,none⟩)) ?_
     refine am 22 71 (.string text) ?_
     refine wpAny_ready (rs:=[16,20]) (by kernel_rfl) (by simp) (AllReady.cons rfl (fun K c=> ?_) (AllReady.cons rfl (fun K c=> ?_) AllReady.nil))
     ·go_simp
      refine c _ _ ?_
      clear c K
      refine a7 20 (fun K c=> ?_)
      go_simp
      refine c _ _ ?_
      clear c K
      refine a7 21 (fun K c=> ?_)
      go_simp
      (with_reducible refine(B.out _ q.out _ _ _ I.out).mono ?_)
      rintro e w7 ⟨rfl,f⟩
      have ao:=cell_later f Q
      have L:=Lib.hid (OwnL.call J.out f)
      have u:=Lib.hid (aa q.out f)
      clear f
      go_simp
      (try(refine c _ _ ?_))
      clear c K
      refine Io (i:=23) 72 (.bool true) rfl rfl (by kernel_rfl) (by kernel_rfl) (by kernel_rfl) (fun _ _ _ h=>h) (by kernel_rfl) (fun w=>by go_simp) ?_
      simp only[Act.put,List.setIfInBounds_toArray,List.set_cons_zero,List.set_cons_succ]
      refine am 24 73 (.bool true) ?_
      refine wpAny_done (by kernel_rfl) ?_ _
      (go_wp2_with fail;go_ret2;(first|rw[p.out]|rw[show cG s (Int.toNat 3) text.data.toList=_ from p.out]);exact⟨_,rfl,OwnL.nil _ _ _ _ _,u.out⟩)
     go_simp
     refine c _ _ ?_
     clear c K
     refine a7 16 (fun K c=> ?_)
     go_simp
     refine c _ _ ?_
     clear c K
     refine a7 21 (fun K c=> ?_)
     go_simp
     (with_reducible refine(B.out _ q.out _ _ _ I.out).mono ?_)
     rintro e w7 ⟨rfl,f⟩
     have ao:=cell_later f Q
     have L:=Lib.hid (OwnL.call J.out f)
     have u:=Lib.hid (aa q.out f)
     clear f
     go_simp
     (try(refine c _ _ ?_))
     clear c K
     refine Io (i:=23) 72 (.bool true) rfl rfl (by kernel_rfl) (by kernel_rfl) (by kernel_rfl) (fun _ _ _ h=>h) (by kernel_rfl) (fun w=>by go_simp) ?_
     simp only[Act.put,List.setIfInBounds_toArray,List.set_cons_zero,List.set_cons_succ]
     refine am 24 73 (.bool true) ?_
     refine wpAny_done (by kernel_rfl) ?_ _
     (go_wp2_with fail;go_ret2;(first|rw[p.out]|rw[show cG s (Int.toNat 3) text.data.toList=_ from p.out]);exact⟨_,rfl,OwnL.nil _ _ _ _ _,u.out⟩)
 have hR:=Lib.hid (show cC s k text.data.toList=([],3)by rw[cC,if_pos hx,if_pos hm,if_neg (by rw[cf];exact b8)])
 have ea:decide ((65536:Int)<(text.size:Int))=true:=decide_eq_true (by omega)
 clear h1 hx hm ct hL cf b8
 go_enter Tryz.func109,Tryz.ntmps109
 go_wp2_with fail
 refine v1.out.mono ?_
 rintro e w1 ⟨rfl,aP⟩
 go_wp2_with fail
 refine(v2.out _).mono ?_
 rintro e w2 ⟨rfl,rfl⟩
 go_wp2_with fail
 go_ret2
 rw[hR.out]
 exact⟨_,rfl,OwnL.nil _ _ _ _ _,aP⟩
end Go.Proofs.YtlejmeegkpdabaaGreatDoor
