/- The proof of a statement, some of its texts joined in build order: part Z4. -/
import Derived.Test.YtlejmeegkpdabaaGreatDoorMxZ3
import Derived.Test.YtlejmeegkpdabaaGreatDoorMxK16
set_option maxHeartbeats 4000000
set_option maxRecDepth 100000
namespace Go.Proofs.YtlejmeegkpdabaaGreatDoor
open Go Go.RowKit Go.Maps Go.Shelf
theorem IN(u:ByteArray)(hu:u.size≤aB)(w:World):Calls Tryz.prog 97 #[.string u] w fun e w'=>e= .returned (.bool (!a6 u))∧Below w.heap.size w w':=by
 have c:=pT u hu w
 have a:=Lib.hid c
 clear c
 go_enter Tryz.func97,Tryz.ntmps97
 go_wp2_with (go_at_call 95;refine a.out.mono ?_;rintro e b ⟨rfl,rfl⟩)
 go_ret
 exact⟨rfl, .refl _ _⟩
abbrev entV (nm bn:ByteArray) (n1 n2 n3:Nat) (a1 a2 a3:Option Addr) (c1 c2 c3:Nat):Value:= .agg #[.string nm, .string bn, .slice a1 n1 c1, .slice a2 n2 c2, .slice a3 n3 c3]
theorem pu{S1 S2:Nat→Prop}(sa:Option Addr)(sc:Nat)(s:Sg)(x:Ent)(a1 a2 a3:Option Addr)(c1 c2 c3:Nat)(w:World)(h1:Sign S1 w sa sc s)(hn:(af x).size≤aB)(hb:(aC x).size≤aB)
  (hI:Ints S2 w a1 c1 (az x)) (hU:Sl strE S2 w a2 c2 (ae x)) (hP:Steps S2 w a3 c3 (ai x)):
  Calls Tryz.prog 49 #[.slice sa s.length sc,entV (af x) (aC x) (az x).length (ae x).length (ai x).length a1 a2 a3 c1 c2 c3] w fun e w'=>e= .returned (.bool (cE s x))∧Below w.heap.size w w':=by
 have m1:=hI.le
 have m2:=hU.le
 have m3:=hP.le
 have c:cE s x=((a6 (af x)&&(a6 (aC x)&&dc s (az x)))&&((decide ((ae x).length≤12)&&(decide (ae x).Nodup&&(ae x).all a6))&&((decide (ae x=[])&&decide (ai x=[]))||bk (ae x).length (ai x)))):=rfl
 obtain⟨W,j⟩:∃W,w.alloc (.cells #[.string (af x), .string (aC x), .slice a1 (az x).length c1, .slice a2 (ae x).length c2, .slice a3 (ai x).length c3] 46)=W:=⟨_,rfl⟩
 have p:Below w.heap.size w W:=by rw[←j];exact an w _
 have aU:W.heap.size=w.heap.size+1:=by rw[←j];simp
 have q0:W.cell? ⟨w.heap.size,0,none⟩=some (.string (af x)):=by rw[←j];clear j;go_simp
 have q1:W.cell? ⟨w.heap.size,1,none⟩=some (.string (aC x)):=by rw[←j];clear j;go_simp
 have q2:W.cell? ⟨w.heap.size,2,none⟩=some (.slice a1 (az x).length c1):=by rw[←j];clear j;go_simp
 have q3:W.cell? ⟨w.heap.size,3,none⟩=some (.slice a2 (ae x).length c2):=by rw[←j];clear j;go_simp
 have q4:W.cell? ⟨w.heap.size,4,none⟩=some (.slice a3 (ai x).length c3):=by rw[←j];clear j;go_simp
 have y:=pT (af x) hn W
 have A:=pT (aC x) hb W
 have I:=sU sa a1 sc c1 s (az x) W (h1.below p) (hI.below p)
 have P:(ae x).length≤12→∀f,Below W.heap.size W f→Calls Tryz.prog 51 #[.slice a2 (ae x).length c2] f fun e w'=>e= .returned (.bool (decide (ae x).Nodup))∧Below f.heap.size f w':=fun hl f r=>um a2 c2 (ae x) f ((hU.below p).below r) (by omega)
 have R:∀f,Below W.heap.size W f→Calls Tryz.prog 96 #[.slice a2 (ae x).length c2, .func (.func 97) #[] #[]] f fun e w'=>e= .returned (.bool ((ae x).any (fun u=> !a6 u)))∧Below f.heap.size f w':=fun f r=>
  An a2 c2 (ae x) 97 #[] (enters_of Tryz.func97 (by kernel_rfl) rfl) (fun u=> !a6 u) f ((hU.below p).below r) (fun i hi W2 _=>IN _ (by obtain⟨_,_,_,_,_,C⟩:=hU.str i hi;exact C) W2)
 have T:∀f,Below W.heap.size W f→Calls Tryz.prog 63 #[.int .i64 ((ae x).length:Int), .slice a3 (ai x).length c3] f fun e w'=>e= .returned (.bool (bk (ae x).length (ai x)))∧Below f.heap.size f w':=fun f r=>
  td ((ae x).length:Int) a3 c3 (ai x) f ((hP.below p).below r)
 have B:(ae x).all a6= !((ae x).any (fun u=> !a6 u)):=by rw[List.all_eq_not_any_not]
 have N:decide (ae x=[])=((((ae x).length:Nat):Int)==0):=by rw[Bool.eq_iff_iff,decide_eq_true_eq,beq_iff_eq,←List.length_eq_zero_iff];omega
 have O:decide (ai x=[])=((((ai x).length:Nat):Int)==0):=by rw[Bool.eq_iff_iff,decide_eq_true_eq,beq_iff_eq,←List.length_eq_zero_iff];omega
 rw[B,N,O]at c
 clear h1 hI hU hP hn hb B N O
 generalize cE s x=OK at c⊢
 generalize af x=nm at*
 generalize aC x=bn at*
 generalize (az x).length=n1 at*
 generalize dc s (az x)=b3 at*
 generalize hU:ae x=Y at*
 generalize hP:ai x=pf at*
 generalize bk (Y.length:Int) pf=b6 at*
 generalize decide Y.Nodup=b4 at*
 generalize Y.any (fun u=> !a6 u)=b5 at*
 clear hU hP
 generalize Y.length=D at*
 generalize pf.length=n3 at*
 cases l:a6 nm with
 |false=>
  rw[l]at y c
  have o:=Lib.hid y
  have a:=Lib.hid c
  have k:=Lib.hid p
  clear y A I P R T c p l
  go_enter Tryz.func49,Tryz.ntmps49
  go_wp2_with fail
  try rw[j]
  refine o.out.mono ?_
  rintro e J ⟨rfl,rfl⟩
  go_wp2_with fail
  go_ret
  exact⟨by rw[a.out];rfl,k.out⟩
 |true=>
 cases t:a6 bn with
 |false=>
  rw[l]at y c
  rw[t]at A c
  have o:=Lib.hid y
  have z:=Lib.hid A
  have a:=Lib.hid c
  have k:=Lib.hid p
  clear y A I P R T c p l t
  go_enter Tryz.func49,Tryz.ntmps49
  go_wp2_with fail
  try rw[j]
  refine o.out.mono ?_
  rintro e J ⟨rfl,rfl⟩
  go_wp2_with fail
  refine z.out.mono ?_
  rintro e J ⟨rfl,rfl⟩
  go_wp2_with fail
  go_ret
  exact⟨by rw[a.out];rfl,k.out⟩
 |true=>
 rw[l]at y c
 rw[t]at A c
 cases b3 with
 |false=>
  have o:=Lib.hid y
  have z:=Lib.hid A
  have H:=Lib.hid I
  have a:=Lib.hid c
  have k:=Lib.hid p
  clear y A I P R T c p l t
  go_enter Tryz.func49,Tryz.ntmps49
  go_wp2_with fail
  try rw[j]
  refine o.out.mono ?_
  rintro e J ⟨rfl,rfl⟩
  go_wp2_with fail
  refine z.out.mono ?_
  rintro e J ⟨rfl,rfl⟩
  go_wp2_with fail
  refine H.out.mono ?_
  rintro e w3 ⟨rfl,m⟩
  go_wp2_with fail
  go_ret
  exact⟨by rw[a.out];rfl,aa k.out m⟩
 |true=>
 rw[Bool.true_and,Bool.true_and,Bool.true_and]at c
 have o:=Lib.hid y
 have z:=Lib.hid A
 have H:=Lib.hid I
 have ac:=Lib.hid P
 have ad:=Lib.hid R
 have ag:=Lib.hid T
 have a:=Lib.hid c
 have k:=Lib.hid p
 clear y A I P R T c p l t
 go_enter Tryz.func49,Tryz.ntmps49
 go_wp2_with fail
 try rw[j]
 refine o.out.mono ?_
 rintro e J ⟨rfl,rfl⟩
 go_wp2_with fail
 refine z.out.mono ?_
 rintro e J ⟨rfl,rfl⟩
 go_wp2_with fail
 refine H.out.mono ?_
 rintro e w3 ⟨rfl,m⟩
 have E:=Lib.hid (aa k.out m)
 have p3:=cell_later m q3
 have p4:=cell_later m q4
 have v:=Lib.hid m
 clear q0 q1 q2 q3 q4 m
 by_cases q:D≤12
 ·have K:((12:Int)<(D:Int))=False:=eq_false (by omega)
  have g:decide (D≤12)=true:=decide_eq_true q
  have Q:=Lib.hid (ac.out q w3 v.out)
  have b:=a.out
  rw[g,Bool.true_and]at b
  have a:=Lib.hid b
  clear b g q
  cases b4 with
  |false=>
   go_wp2_with fail
   refine Q.out.mono ?_
   rintro e w4 ⟨rfl,h⟩
   go_wp2_with fail
   go_ret
   exact⟨by rw[a.out];rfl,aa E.out h⟩
  |true=>
  go_wp2_with fail
  refine Q.out.mono ?_
  rintro e w4 ⟨rfl,h⟩
  have V:=cell_later h p3
  have X:=cell_later h p4
  have S:=Lib.hid (ad.out w4 (aa v.out h))
  have L:=Lib.hid (aa E.out h)
  have M:=Lib.hid (aa v.out h)
  clear p3 p4 h
  cases b5 with
  |true=>
   go_wp2_with fail
   refine S.out.mono ?_
   rintro e w5 ⟨rfl,n⟩
   go_wp2_with fail
   go_ret
   exact⟨by rw[a.out];rfl,aa L.out n⟩
  |false=>
  go_wp2_with fail
  refine S.out.mono ?_
  rintro e w5 ⟨rfl,n⟩
  have p3:=cell_later n V
  have p4:=cell_later n X
  have U:=Lib.hid (ag.out w5 (aa M.out n))
  have F:=Lib.hid (aa L.out n)
  clear V X n
  have b:=a.out
  simp only[Bool.not_false,Bool.and_true,Bool.true_and]at b
  have a:=Lib.hid b
  clear b
  cases C:(((D:Int)==0)&&((n3:Int)==0))with
  |true=>
   rw[Bool.and_eq_true,beq_iff_eq,beq_iff_eq]at C
   obtain⟨e1,e2⟩:=C
   have z1:D=0:=by omega
   have z2:n3=0:=by omega
   subst z1
   subst z2
   go_wp2_with fail
   go_ret
   exact⟨by rw[a.out];rfl,F.out⟩
  |false=>
   rw[C,Bool.false_or]at a
   have ab:=Lib.hid C
   cases Z:((D:Int)==0)with
   |true=>
    have a0:((n3:Int)==0)=false:=by have:=ab.out;rw[Z,Bool.true_and]at this;exact this
    clear C
    go_wp2_with fail
    refine U.out.mono ?_
    rintro e w6 ⟨rfl,G⟩
    go_wp2_with fail
    go_ret
    exact⟨by rw[a.out];rfl,aa F.out G⟩
   |false=>
    clear C
    go_wp2_with fail
    refine U.out.mono ?_
    rintro e w6 ⟨rfl,G⟩
    go_wp2_with fail
    go_ret
    exact⟨by rw[a.out];rfl,aa F.out G⟩
 have K:((12:Int)<(D:Int))=True:=eq_true (by omega)
 have g:decide (D≤12)=false:=decide_eq_false q
 have b:=a.out
 rw[g]at b
 have a:=Lib.hid b
 clear b g q
 go_wp2_with fail
 go_ret
 exact⟨by rw[a.out];rfl,E.out⟩
def pp(w:World)(g:Nat):Prop:=∃ev,w.cell? ⟨g,0,none⟩=some ev∧(ev= .nilIface∨∃te pe,ev= .iface te pe)
def LibW(w:World):Prop:=TabW w∧(∃m,w.cell? ⟨0,0,none⟩=some (.int .i64 m))∧pp w 1∧pp w 2
theorem LibW.later{w w':World}(h:LibW w)(hb:Below w.heap.size w w'):LibW w':=by
 obtain⟨c,⟨m,f⟩,⟨a,g,i⟩,⟨b,j,k⟩⟩:=h
 exact⟨TabW.below c hb,⟨m,cell_later hb f⟩,⟨a,cell_later hb g,i⟩,⟨b,cell_later hb j,k⟩⟩
theorem Ag(s:ByteArray)(hs:s.size≤65536)(w:World)(hL:LibW w):
  Calls Tryz.prog 113 #[.string s] w fun e w'=>∃ev,e= .returned (.tuple #[.int .i64 (co s.data.toList),ev])∧Below w.heap.size w w':=by
 obtain⟨-,-,⟨c,g,i⟩,⟨f,j,k⟩⟩:=hL
 unfold co
 cases h:Lib.atoiAll s.data.toList with
 |ok v=>
  refine(Any.strconv_Atoi_ok kD s (by omega) v h w).mono fun e w' a=>⟨_,a.1,?_⟩
  rcases a.2 with rfl|⟨t,rfl⟩
  ·exact .refl _ _
  exact tM w _ t
 |range=>
  refine(Any.strconv_Atoi_range kD s (by omega) h f w j k).mono fun e w' a=> ?_
  obtain⟨N,rfl,-,-,b⟩:=a
  exact⟨_,rfl,b⟩
 |_=>
  refine(Any.strconv_Atoi_syntax kD s (by omega) h c w g i).mono fun e w' a=> ?_
  obtain⟨N,rfl,-,-,b⟩:=a
  exact⟨_,rfl,b⟩
theorem ub(m:UInt8):∀l:List UInt8,m∉l∨∃a b,m∉a∧l=a++m::b
 | []=> .inl (by simp)
 |c::r=>by
  by_cases e:c=m
  ·exact .inr ⟨[],r,by simp,by rw[e];rfl⟩
  rcases ub m r with h|⟨a,b,h,rfl⟩
  ·exact .inl (by rw[List.mem_cons,not_or];exact⟨fun h'=>e h'.symm,h⟩)
  exact .inr ⟨c::a,b,by rw[List.mem_cons,not_or];exact⟨fun h'=>e h'.symm,h⟩,rfl⟩
theorem Sl.pre{α:Type}{E:Enc α}{S:Nat→Prop}{w:World}{a:Option Addr}{c:Nat}{l:List α}(h:Sl E S w a c l)(k:Nat):Sl E S w a c (l.take k):=by
 refine⟨by have:=h.cap;rw[List.length_take];omega,h.max,fun e=>by obtain⟨j,m⟩:=h.nil e;exact⟨by rw[j];simp,m⟩,fun f=> ?_⟩
 obtain⟨b,g,ha,q,t,r⟩:=h.dat (fun e=>f (by rw[e];simp))
 refine⟨b,g,ha,q,t,fun i s=> ?_⟩
 rw[List.length_take]at s
 obtain⟨vs,n,o,p⟩:=r i (by omega)
 exact⟨vs,n,o,by rw[List.getElem_take];exact p⟩
theorem xB{us:List ByteArray}{j:Nat}(hj:j<us.length)(h:(us.take j).Nodup)(hm:bC (us.take j) us[j]=false):(us.take (j+1)).Nodup:=by
 rw[List.take_succ_eq_append_getElem hj,List.nodup_append]
 refine⟨h,by simp,fun a ha b c e=> ?_⟩
 rw[List.mem_singleton]at c
 have:bC (us.take j) us[j]=true:=memB_iff.2 (by rw[←c,←e];exact ha)
 rw[hm]at this;cases this
theorem xy{us:List ByteArray}{j:Nat}(hj:j<us.length)(hm:bC (us.take j) us[j]=true):¬us.Nodup:=by
 intro h
 obtain⟨q,a,e⟩:=List.getElem_of_mem (memB_iff.1 hm)
 rw[List.length_take]at a
 rw[List.getElem_take]at e
 have:=(List.getElem_inj (xs:=us) (h₀:=by omega) (h₁:=hj) h).1 e
 omega
theorem tq{us:List ByteArray}{j:Nat}(hj:j<us.length)(h:(us.take j).all a6=true)(hn:a6 us[j]=true):(us.take (j+1)).all a6=true:=by
 rw[List.take_succ_eq_append_getElem hj,List.all_append,h];simpa using hn
theorem tp{us:List ByteArray}{j:Nat}(hj:j<us.length)(hn:a6 us[j]=false):us.all a6=false:=by
 rw[List.all_eq_false];exact⟨us[j],List.getElem_mem hj,by rw[hn];simp⟩
def oM(us:List ByteArray)(w2:World)(i:Value)(wr:World):Prop:=∃j:Nat,i= .int .i64 j∧j≤us.length∧(us.take j).Nodup∧(us.take j).all a6=true∧Drew w2 wr
theorem Gf{S1 S2:Nat→Prop}(sa:Option Addr)(sc:Nat)(s:Sg)(x:Ent)(a1 a2 a3:Option Addr)(c1 c2 c3:Nat)(w:World)(h1:Sign S1 w sa sc s)(hn:(af x).size≤aB)(hb:(aC x).size≤aB)
  (hI:Ints S2 w a1 c1 (az x)) (hU:Sl strE S2 w a2 c2 (ae x)) (hP:Steps S2 w a3 c3 (ai x)):
  Calls Tryz.prog 36 #[.slice sa s.length sc,entV (af x) (aC x) (az x).length (ae x).length (ai x).length a1 a2 a3 c1 c2 c3] w fun e w'=>e= .returned (.bool (cE s x))∧Below w.heap.size w w':=by
 have m1:=hI.le
 have m2:=hU.le
 have m3:=hP.le
 have T:cE s x=((a6 (af x)&&(a6 (aC x)&&dc s (az x)))&&((decide ((ae x).length≤12)&&(decide (ae x).Nodup&&(ae x).all a6))&&((decide (ae x=[])&&decide (ai x=[]))||bk (ae x).length (ai x)))):=rfl
 obtain⟨W,o⟩:∃W,w.alloc (.cells #[.string (af x), .string (aC x), .slice a1 (az x).length c1, .slice a2 (ae x).length c2, .slice a3 (ai x).length c3] 46)=W:=⟨_,rfl⟩
 have Q:Below w.heap.size w W:=by rw[←o];exact an w _
 have q0:W.cell? ⟨w.heap.size,0,none⟩=some (.string (af x)):=by rw[←o];clear o;go_simp
 have q1:W.cell? ⟨w.heap.size,1,none⟩=some (.string (aC x)):=by rw[←o];clear o;go_simp
 have q2:W.cell? ⟨w.heap.size,2,none⟩=some (.slice a1 (az x).length c1):=by rw[←o];clear o;go_simp
 have q3:W.cell? ⟨w.heap.size,3,none⟩=some (.slice a2 (ae x).length c2):=by rw[←o];clear o;go_simp
 have q4:W.cell? ⟨w.heap.size,4,none⟩=some (.slice a3 (ai x).length c3):=by rw[←o];clear o;go_simp
 have O:=kz (af x) hn W
 have V:=kz (aC x) hb W
 have kv:=oy sa a1 sc c1 s (az x) W (h1.below Q) (hI.below Q)
 have k3:=fun Z (K:Below W.heap.size W Z)=>xY sa a1 sc c1 s (az x) Z ((h1.below Q).below K) ((hI.below Q).below K)
 have k6:=fun Z (K:Below W.heap.size W Z)=>rD ((ae x).length:Int) a3 c3 (ai x) Z ((hP.below Q).below K)
 have E:aw s (az x)=false→dc s (az x)=false:=fun h=>by unfold dc;rw[h];rfl
 have ao:=hU.below Q
 have aj:ai x=[]→bk (ae x).length (ai x)=false:=fun h=>by rw[h];unfold bk dE;simp
 clear h1 hI hU hP hn hb
 generalize cE s x=OK at T⊢
 generalize af x=nm at*
 generalize aC x=bn at*
 generalize (az x).length=n1 at*
 generalize dc s (az x)=b3 at*
 generalize aw s (az x)=bv at*
 generalize ae x=b at*
 generalize ai x=pf at*
 generalize bk (b.length:Int) pf=b6 at*
 have aR:=Lib.hid ao
 have a0:=Lib.hid k6
 have a:=Lib.hid T
 have y:=Lib.hid Q
 have al:=Lib.hid aj
 clear ao k6 T Q aj
 cases t:a6 nm with
 |false=>
  rw[t]at O a
  have v:=Lib.hid O
  clear O V kv k3 t E
  go_enter Tryz.func36,Tryz.ntmps36
  go_wp2_with fail
  try rw[o]
  refine v.out.mono ?_
  rintro e Y ⟨rfl,rfl⟩
  go_wp2_with fail
  go_ret
  exact⟨by rw[a.out];rfl,y.out⟩
 |true=>
 cases c:a6 bn with
 |false=>
  rw[t]at O a
  rw[c]at V a
  have v:=Lib.hid O
  have P:=Lib.hid V
  clear O V kv k3 t c E
  go_enter Tryz.func36,Tryz.ntmps36
  go_wp2_with fail
  try rw[o]
  refine v.out.mono ?_
  rintro e Y ⟨rfl,rfl⟩
  go_wp2_with fail
  refine P.out.mono ?_
  rintro e Y ⟨rfl,rfl⟩
  go_wp2_with fail
  go_ret
  exact⟨by rw[a.out];rfl,y.out⟩
 |true=>
 rw[t]at O a
 rw[c]at V a
 have v:=Lib.hid O
 have P:=Lib.hid V
 clear O V t c
 cases bv with
 |false=>
  have hc:=E rfl
  subst hc
  have X:=Lib.hid kv
  clear kv k3 E
  go_enter Tryz.func36,Tryz.ntmps36
  go_wp2_with fail
  try rw[o]
  refine v.out.mono ?_
  rintro e Y ⟨rfl,rfl⟩
  go_wp2_with fail
  refine P.out.mono ?_
  rintro e Y ⟨rfl,rfl⟩
  go_wp2_with fail
  refine X.out.mono ?_
  rintro e w2 ⟨rfl,hd⟩
  have l:=Lib.hid (aa y.out (hd.below _))
  clear hd
  go_wp2_with fail
  go_ret
  exact⟨by rw[a.out];rfl,l.out⟩
 |true=>
 have X:=Lib.hid kv
 have aW:=Lib.hid k3
 clear kv k3 E
 go_enter Tryz.func36,Tryz.ntmps36
 go_wp2_with fail
 try rw[o]
 refine v.out.mono ?_
 rintro e Y ⟨rfl,rfl⟩
 go_wp2_with fail
 refine P.out.mono ?_
 rintro e Y ⟨rfl,rfl⟩
 go_wp2_with fail
 refine X.out.mono ?_
 rintro e w2 ⟨rfl,hd⟩
 have c:=hd.below W.heap.size
 have ay:=Lib.hid (aW.out w2 c)
 have p2:=cell_later c q2
 have p3:=cell_later c q3
 have p4:=cell_later c q4
 have B:=Lib.hid c
 clear hd c q0 q1 q2 q3 q4
 cases b3 with
 |false=>
  go_wp2_with fail
  refine ay.out.mono ?_
  rintro e w3 ⟨rfl,k⟩
  have l:=Lib.hid (aa (aa y.out B.out) k)
  clear k
  go_wp2_with fail
  go_ret
  exact⟨by rw[a.out];rfl,l.out⟩
 |true=>
 rw[Bool.true_and,Bool.true_and,Bool.true_and]at a
 go_wp2_with fail
 refine ay.out.mono ?_
 rintro e w3 ⟨rfl,k⟩
 have r3:=cell_later k p3
 have r4:=cell_later k p4
 have ac:=Lib.hid (aa B.out k)
 have J:=Lib.hid (aa (aa y.out B.out) k)
 clear k p2 p3 p4
 by_cases I:b.length≤12
 ·have ab:((12:Int)<(b.length:Int))=False:=eq_false (by omega)
  have f:=a.out
  rw[decide_eq_true I,Bool.true_and]at f
  have g:=Lib.hid f
  clear f
  have aP:=Lib.hid (aR.out.below ac.out)
  clear I
  go_wp2_with fail
  go_loopw [5] (fun i wr=>oM b w3 i wr) (fun i _=>b.length-(intOf i).toNat)
  case atStart=>exact⟨0,rfl,Nat.zero_le _,by simp,rfl, .refl _⟩
  case round=>
   obtain⟨j,rfl,hj,F,A,hD⟩:=hrel
   have s3:=cell_later (hD.below _) r3
   have s4:=cell_later (hD.below _) r4
   have S:=Lib.hid (aP.out.drew hD)
   have z:=Lib.hid hD
   clear hD
   by_cases r:j<b.length
   ·obtain⟨b2,o2,rfl,-,qu,aU⟩:=S.out.str j r
    have aT:(j:Int)<(b.length:Int):=by omega
    have ba:(j:Int)≤(b.length:Int):=by omega
    have R:(b.take j).length=j:=by rw[List.length_take];omega
    have vn:=fun m=>kz b[j] aU (wr.drewN m)
    have vh:=fun m=>xX (some ⟨b2,o2,none⟩) c2 (b.take j) b[j] (wr.drewN m) ((S.out.pre j).drewN m)
    simp only[R]at vh
    have D:a6 b[j]=false→b.all a6=false:=tp r
    have C:bC (b.take j) b[j]=true→¬b.Nodup:=xy r
    have G:a6 b[j]=true→bC (b.take j) b[j]=false→∀q,oM b w3 (.int .i64 ((j:Int)+1)) (wr.drewN q):=fun h1 h2 q=>⟨j+1,by simp,r,xB r F h2,tq r A h1,fY z.out _⟩
    have M:=Lib.hid D
    have L:=Lib.hid C
    have N:=Lib.hid G
    have H:=Lib.hid vn
    have aL:=Lib.hid vh
    clear D C G vn vh F A R
    generalize bC (b.take j) b[j]=bm at*
    generalize b[j]=u at*
    have b5:(0:Int)≤(j:Int):=by omega
    have au:=S.out.cap
    have b7:(j:Int)≤(c2:Int):=by omega
    have b0:¬c2=0:=by omega
    have b1:¬0=c2:=by omega
    clear au
    cases p:a6 u with
    |false=>
     have hf:=Lib.hid (show OK=false by rw[g.out,M.out p];simp)
     rw[p]at H
     clear p
     go_wp2_with fail
     go_quiet ((go_at_call 69;(with_reducible exact fl (H.out _))))
     all_goals go_wp2_with fail
     all_goals go_ret
     all_goals exact⟨aF hf.out.symm,fW (aa J.out (z.out.below _)) _⟩
    |true=>
     rw[p]at H
     cases bm with
     |true=>
      have hf:=Lib.hid (show OK=false by rw[g.out,decide_eq_false (L.out rfl)];simp)
      clear p
      go_wp2_with fail
      go_quiet (first|(go_at_call 69;(with_reducible exact fl (H.out _)))|(go_at_call 70;(with_reducible exact fl (aL.out _))))
      all_goals go_wp2_with fail
      all_goals go_ret
      all_goals exact⟨aF hf.out.symm,fW (aa J.out (z.out.below _)) _⟩
     |false=>
      have hf:=Lib.hid (N.out p rfl)
      clear p
      go_wp2_with fail
      go_quiet (first|(go_at_call 69;(with_reducible exact fl (H.out _)))|(go_at_call 70;(with_reducible exact fl (aL.out _))))
      all_goals go_wp2_with fail
      all_goals go_roundw
      case rel=>exact hf.out _
      case measure=>simp[intOf];omega
   have aT:((j:Int)<(b.length:Int))=False:=eq_false (by omega)
   rw[List.take_of_length_le (by omega)]at F A
   have n:=g.out
   rw[decide_eq_true F,A,Bool.true_and,Bool.true_and]at n
   have a4:=Lib.hid (a0.out wr (aa ac.out (z.out.below _)))
   have ad:=Lib.hid (aa J.out (z.out.below _))
   clear F A r hj
   by_cases U:pf=[]
   ·have hz:((pf.length:Int)==0)=true:=by rw[U];rfl
    have av:decide (b=[])=((b.length:Int)==0):=by rw[Bool.eq_iff_iff,decide_eq_true_eq,beq_iff_eq,←List.length_eq_zero_iff];omega
    have hf:=Lib.hid (show OK=((b.length:Int)==0)by rw[n,al.out U,decide_eq_true U,Bool.and_true,Bool.or_false,av])
    clear n U av
    go_wp2_with fail
    go_ret
    exact⟨aF hf.out.symm,ad.out⟩
   have hz:((pf.length:Int)==0)=false:=by rw[beq_eq_false_iff_ne];intro e;exact U (List.length_eq_zero_iff.1 (by omega))
   have hf:=Lib.hid (show OK=b6 by rw[n,decide_eq_false U,Bool.and_false,Bool.false_or])
   clear n U
   go_wp2_with fail
   refine a4.out.mono ?_
   rintro e w6 ⟨rfl,aq⟩
   have l:=Lib.hid (aa ad.out aq)
   clear aq
   go_wp2_with fail
   go_ret
   exact⟨aF hf.out.symm,l.out⟩
 have ab:((12:Int)<(b.length:Int))=True:=eq_true (by omega)
 have f:=a.out
 rw[decide_eq_false I]at f
 have g:=Lib.hid f
 clear f I
 go_wp2_with fail
 go_ret
 exact⟨by rw[g.out];rfl,J.out⟩
theorem lK{W:World}{b:Nat}{x1 x2 x3:Int}(h:W.heap[b]?=some (.cells #[.int .i64 x1, .int .i64 x2, .int .i64 x3] 72 (0,0))):W.cell? ⟨b,0,none⟩=some (.int .i64 x1)∧W.cell? ⟨b,1,none⟩=some (.int .i64 x2)∧W.cell? ⟨b,2,none⟩=some (.int .i64 x3):=by simp[World.cell?,h]
theorem nP{W:World}{b:Nat}{x1 x2 x3:Int}(h:W.heap[b]?=some (.cells #[.int .i64 x1, .int .i64 x2, .int .i64 x3] 72 (0,0))):W.frozen? ⟨b,0,none⟩=false∧W.frozen? ⟨b,1,none⟩=false∧W.frozen? ⟨b,2,none⟩=false:=⟨Lib.frozen_of_heap h 0,Lib.frozen_of_heap h 1,Lib.frozen_of_heap h 2⟩
theorem tH{x y:ByteArray}(h:x.data.toList=y.data.toList):x=y:=by
 rw[m5 h]
theorem mZ(x:ByteArray)(a:Array UInt8):(x++(⟨a⟩:ByteArray)).data.toList=x.data.toList++a.toList:=by simp[ByteArray.data_append]
def dm(x:Ent)(p:List Stp):Ent:=(x.1,x.2.1,x.2.2.1,x.2.2.2.1,p)
def bX(s:Sg)(b:List UInt8):Option Ent:=(dH s b).filter (fun x=>b9 s x&&decide (aZ s x=b))
theorem vy{s:Sg}{b:List UInt8}{x:Ent}(h:dH s b=some x):ai x=[]:=by
 unfold dH at h
 split at h
 ·injection h with h;rw[←h];rfl
 cases h
theorem DB{s:Sg}{b:List UInt8}{x:Ent}(h:el s b=some x):ai x=[]:=by
 unfold el at h
 split at h
 ·split at h
  ·injection h with h;rw[←h];rfl
  cases h
 cases h
theorem jF{s:Sg}{b:List UInt8}{x:Ent}(h:bX s b=some x):b9 s x=true∧aZ s x=b∧ai x=[]:=by
 unfold bX at h
 rw[Option.filter_eq_some_iff]at h
 obtain⟨c,a⟩:=h
 rw[Bool.and_eq_true,decide_eq_true_eq]at a
 exact⟨a.1,a.2,vy c⟩
theorem vA{s:Sg}{x:Ent}(h:b9 s x=true)(hp:ai x=[]):bX s (aZ s x)=some x:=by
 unfold bX
 rw[Dv h hp]
 simp[h]
theorem qF(s:Sg)(b:List UInt8):(el s b).filter (fun x=>b9 s x&&decide (aZ s x=b))=bX s b:=by
 refine Option.ext fun x=> ?_
 constructor
 ·intro h
  rw[Option.filter_eq_some_iff,Bool.and_eq_true,decide_eq_true_eq]at h
  rw[←h.2.2];exact vA h.2.1 (DB h.1)
 intro h
 obtain⟨a,c,f⟩:=jF h
 rw[Option.filter_eq_some_iff,Bool.and_eq_true,decide_eq_true_eq]
 exact⟨by rw[←c];exact Dx a f,a,c⟩
theorem qB(s:Sg)(x:Ent):∃r,aZ s x=[101,110,116,114,121,32]++r:=by
 rw[lE]
 unfold fD
 exact⟨_,rfl⟩
theorem EJ(x:Stp):∃c r,dA x=c::r∧c≠101:=by
 unfold dA
 split
 ·exact⟨99,_,rfl,by decide⟩
 exact⟨100,_,rfl,by decide⟩
theorem DF(s:Sg)(x:Stp):bX s (dA x)=none:=by
 cases h:bX s (dA x)with
 |none=>rfl
 |some y=>
  obtain⟨-,a,-⟩:=jF h
  obtain⟨r,hr⟩:=qB s y
  obtain⟨c,q,b,f⟩:=EJ x
  rw[hr,b,List.cons_append]at a
  injection a with a _
  exact(f a.symm).elim
theorem yl{b r:List UInt8}(h:b=[101,110,116,114,121,32]++r):bF b=(0,0,0):=by
 have hw:(aA 32 b).headD []=[101,110,116,114,121]:=by
  rw[h,show([101,110,116,114,121,32]++r:List UInt8)=[101,110,116,114,121]++32::r from rfl,eU (by decide)];rfl
 unfold bF
 rw[hw]
 split<;>first|rfl|exact if_neg (by decide)
def de(acc:List Ent):Bool:=match acc.getLast? with|some x=>decide (ae x≠ [])&&decide (ai x=[])|none=>false
def bK(s:Sg)(acc:List Ent)(b:List UInt8):Option (List Ent):=
 match bX s b with
 |some x=>if(de acc||(acc.any (fun y=>decide (af y=af x))||decide (acc.length=60)))=true then none else some (acc++[x])
 |none=>match acc.getLast? with
  |some y=>if ae y≠ []∧bk (ae y).length (ai y++[bF b])=true then some (acc.dropLast++[dm y (ai y++[bF b])])else none
  |none=>none
def cV(s:Sg):List (List UInt8)→Nat→List Ent→List Ent×Nat×Int
 | [],i,_=>([],i,2)
 | [l],i,acc=>if l=[]∧de acc=false then(acc,0,0)else([],i,2)
 |l::v::r,i,acc=>match bK s acc l with|some acc'=>cV s (v::r) (i+1) acc'|none=>([],i,2)
def df(s:Sg)(t:List UInt8):List Ent×Nat×Int:=if aH s=true then(if t.length≤65536 then cV s (aA 10 t) 0 []else([],0,3))else([],0,1)
def fZ(s:Sg)(x:Ent):List UInt8:=aZ s x++10::(ai x).flatMap bD
def bV(s:Sg)(l:List Ent):List UInt8:=l.flatMap (fZ s)
def dW(s:Sg)(l:List Ent):List UInt8:=if bz s l=true then bV s l else []
theorem vu(s:Sg)(x:Ent)(p:List Stp):aZ s (dm x p)=aZ s x:=rfl
theorem ri(s:Sg)(x:Ent)(p:List Stp):b9 s (dm x p)=b9 s x:=rfl
theorem CK(s:Sg)(x:Ent)(y:Stp):fZ s (dm x (ai x++[y]))=fZ s x++bD y:=by
 unfold fZ
 rw[vu,show ai (dm x (ai x++[y]))=ai x++[y]from rfl,List.flatMap_append,List.append_assoc,List.cons_append]
 simp
theorem lr(s:Sg)(a b:List Ent):bV s (a++b)=bV s a++bV s b:=List.flatMap_append
theorem lu(s:Sg)(x:Ent):bV s [x]=fZ s x:=by unfold bV;simp
structure Gd (s:Sg) (acc:List Ent):Prop where
 sign:aH s=true
 len:acc.length≤60
 names:(acc.map af).Nodup
 ent:∀x∈acc,b9 s x=true∧(ai x=[]∨bk (ae x).length (ai x)=true)
 done:∀x∈acc.dropLast,ae x=[]∨ai x≠ []
theorem Gd.nil{s:Sg}(h:aH s=true):Gd s []:=⟨h,by simp,List.nodup_nil,fun x hx=>by simp at hx,fun x hx=>by simp at hx⟩
theorem ou(A:List Ent)(x:Ent):de (A++[x])=(decide (ae x≠ [])&&decide (ai x=[])):=by
 unfold de;rw[List.getLast?_concat]
theorem Gd.all{s:Sg}{acc:List Ent}(h:Gd s acc)(ho:de acc=false):∀x∈acc,ae x=[]∨ai x≠ []:=by
 rcases List.eq_nil_or_concat acc with e|⟨A,y,e⟩
 ·rw[e];intro x hx;simp at hx
 rw[List.concat_eq_append]at e
 subst e
 rw[ou]at ho
 intro x hx
 rcases List.mem_append.1 hx with e|e
 ·exact h.done x (by rw[List.dropLast_concat];exact e)
 rw[List.mem_singleton.1 e]
 by_cases a:ae y=[]
 ·exact .inl a
 refine .inr fun b=> ?_
 rw[decide_eq_true a,decide_eq_true b]at ho
 cases ho
theorem F3{p:List Stp}(h:bk 0 p=true):False:=by
 obtain⟨-,-,b,-,a⟩:=jm h
 cases p with
 |nil=>simp at b
 |cons x p=>
  rw[a8,Bool.and_eq_true]at a
  have:=a.1
  simp[aY]at this
  omega
theorem Gd.okLib{s:Sg}{acc:List Ent}(h:Gd s acc)(ho:de acc=false):bz s acc=true:=by
 unfold Go.Proofs.YtlejmeegkpdabaaGreatDoor.bz
 simp only[Bool.and_eq_true,decide_eq_true_eq,List.all_eq_true]
 refine⟨h.sign,h.len,fun x hx=> ?_,h.names⟩
 rw[g8]
 obtain⟨c,a⟩:=h.ent x hx
 rw[c,Bool.true_and,Bool.or_eq_true,Bool.and_eq_true,decide_eq_true_eq,decide_eq_true_eq]
 rcases a with a|a
 ·rcases h.all ho x hx with b|b
  ·exact .inl ⟨b,a⟩
  exact(b a).elim
 exact .inr a
theorem rG{s:Sg}{acc acc':List Ent}{b:List UInt8}(h:Gd s acc)(hr:bK s acc b=some acc'):Gd s acc'∧bV s acc'=bV s acc++(b++[10]):=by
 unfold bK at hr
 cases i:bX s b with
 |some x=>
  rw[i]at hr
  simp only at hr
  obtain⟨n,o,k⟩:=jF i
  by_cases f:(de acc||(acc.any (fun y=>decide (af y=af x))||decide (acc.length=60)))=true
  ·rw[if_pos f]at hr;cases hr
  rw[if_neg f]at hr
  injection hr with hr
  subst hr
  simp only[Bool.or_eq_true,List.any_eq_true,decide_eq_true_eq,not_or,Bool.not_eq_true]at f
  refine⟨⟨h.sign,by rw[List.length_append,List.length_singleton];have:=h.len;omega,?_,?_,?_⟩,?_⟩
  ·rw[List.map_append,List.nodup_append]
   refine⟨h.names,by simp,?_⟩
   intro a ha c g e
   obtain⟨y,hy,rfl⟩:=List.mem_map.1 ha
   rw[List.map_singleton,List.mem_singleton]at g
   exact f.2.1 ⟨y,hy,by rw[e,g]⟩
  ·intro y hy
   rcases List.mem_append.1 hy with e|e
   ·exact h.ent y e
   rw[List.mem_singleton.1 e];exact⟨n, .inl k⟩
  ·rw[List.dropLast_concat];exact h.all f.1
  rw[lr,lu];unfold fZ;rw[o,k];rfl
 |none=>
  rw[i]at hr
  simp only at hr
  rcases List.eq_nil_or_concat acc with e|⟨A,y,e⟩
  ·rw[e]at hr;cases hr
  rw[List.concat_eq_append]at e
  subst e
  rw[List.getLast?_concat,List.dropLast_concat]at hr
  simp only at hr
  by_cases f:ae y≠ []∧bk (ae y).length (ai y++[bF b])=true
  ·rw[if_pos f]at hr
   injection hr with hr
   subst hr
   obtain⟨-,l⟩:=f
   obtain⟨-,p,-,q,m⟩:=jm l
   have hx:aY 60 (ai y).length (bF b)=true:=by
    rw[l8,Bool.and_eq_true,a8,Bool.and_eq_true,Nat.zero_add]at m
    have:=m.2.1
    unfold aY at this⊢
    simp only[Bool.or_eq_true,Bool.and_eq_true,decide_eq_true_eq]at this⊢
    omega
   refine⟨⟨h.sign,by have:=h.len;simpa using this,?_,?_,?_⟩,?_⟩
   ·have:=h.names
    rw[List.map_append]at this⊢;exact this
   ·intro z j
    rcases List.mem_append.1 j with e|e
    ·exact h.ent z (List.mem_append_left _ e)
    rw[List.mem_singleton.1 e];exact⟨by rw[ri];exact(h.ent y (by simp)).1, .inr l⟩
   ·rw[List.dropLast_concat]
    intro z j
    exact h.done z (by rw[List.dropLast_concat];exact j)
   rw[lr,lr,lu,lu,CK,bD,rI hx,List.append_assoc]
  rw[if_neg f]at hr;cases hr
theorem ru{s:Sg}:∀(ls:List (List UInt8)) (i:Nat) (acc l:List Ent) (n:Nat),Gd s acc→cV s ls i acc=(l,n,0)→bz s l=true∧bV s l=bV s acc++aS 10 ls∧n=0
 | [],_,_,_,_,_,h=>by rw[cV]at h;exact absurd (congrArg (fun r=>r.2.2) h) (by simp)
 | [b],i,acc,l,n,hg,h=>by
  rw[cV]at h
  by_cases hc:b=[]∧de acc=false
  ·rw[if_pos hc]at h
   injection h with h1 h2
   injection h2 with h2 _
   subst h1
   exact⟨hg.okLib hc.2,by rw[hc.1,aS,List.append_nil],h2.symm⟩
  rw[if_neg hc]at h;exact absurd (congrArg (fun r=>r.2.2) h) (by simp)
 |b::v::r,i,acc,l,n,hg,h=>by
  rw[cV]at h
  cases hr:bK s acc b with
  |none=>rw[hr]at h;exact absurd (congrArg (fun r=>r.2.2) h) (by simp)
  |some acc'=>
   rw[hr]at h
   obtain⟨h1,h2⟩:=rG hg hr
   obtain⟨a,c,f⟩:=ru (v::r) (i+1) acc' l n h1 h
   exact⟨a,by rw[c,h2,ir];simp,f⟩
theorem CZ{s:Sg}{t:List UInt8}{l:List Ent}{n:Nat}(h:df s t=(l,n,0)):dW s l=t∧n=0:=by
 unfold df at h
 by_cases hs:aH s=true
 ·rw[if_pos hs]at h
  by_cases a:t.length≤65536
  ·rw[if_pos a]at h
   obtain⟨b,c,f⟩:=ru _ _ _ _ _ (Gd.nil hs) h
   refine⟨?_,f⟩
   unfold dW
   rw[if_pos b,c,jK];rfl
  rw[if_neg a]at h;exact absurd (congrArg (fun r=>r.2.2) h) (by simp)
 rw[if_neg hs]at h;exact absurd (congrArg (fun r=>r.2.2) h) (by simp)
theorem rv{s:Sg}{b:List UInt8}{r:List UInt8}{i:Nat}{acc acc':List Ent}(hb:(10:UInt8)∉b)(h:bK s acc b=some acc'):cV s (aA 10 (b++10::r)) i acc=cV s (aA 10 r) (i+1) acc':=by
 rw[eU hb]
 cases hw:aA 10 r with
 |nil=>exact(eV _ _ hw).elim
 |cons v a=>rw[cV,h]
theorem l7{G:Int}(hG:G≤60):∀{p:List Stp} {n:Nat},a8 G n p=true→a8 60 n p=true
 | [],_,_=>rfl
 |x::p,n,h=>by
  rw[a8,Bool.and_eq_true]at h⊢
  refine⟨?_,l7 hG h.2⟩
  have:=h.1
  unfold aY at this⊢
  simp only[Bool.or_eq_true,Bool.and_eq_true,decide_eq_true_eq]at this⊢
  omega
theorem F0{G:Int}{p q:List Stp}(h:bk G (p++q)=true)(hp:1≤p.length):bk G p=true:=by
 unfold bk dE at h⊢
 simp only[Bool.and_eq_true,decide_eq_true_eq]at h⊢
 rw[l8,Bool.and_eq_true,List.length_append]at h
 exact⟨h.1,h.2.1.1,hp,by omega⟩
theorem xL{s:Sg}(r:List UInt8)(A:List Ent):∀(p:List Stp) (i:Nat) (x:Ent),ae x≠ []→(p≠ []→bk (ae x).length (ai x++p)=true)→
  ∃i',cV s (aA 10 (p.flatMap bD++r)) i (A++[x])=cV s (aA 10 r) i' (A++[dm x (ai x++p)])
 | [],i,x,_,_=>⟨i,by rw[List.append_nil,List.flatMap_nil,List.nil_append];rfl⟩
 |y::p,i,x,hu,h=>by
  have hv:=h (by simp)
  obtain⟨-,j,-,k,l⟩:=jm hv
  have c:=l7 j l
  rw[l8,Bool.and_eq_true,a8,Bool.and_eq_true,Nat.zero_add]at c
  have hx:=c.2.1
  rw[List.length_append,List.length_cons]at k
  have g:=rJ hx (by omega)
  have a:bk (ae x).length (ai x++[y])=true:=by
   refine F0 (q:=p) ?_ (by simp)
   rw[List.append_assoc];exact hv
  have b:bK s (A++[x]) (dA y)=some (A++[dm x (ai x++[y])]):=by
   unfold bK
   rw[DF,List.getLast?_concat,List.dropLast_concat]
   simp only
   rw[g,if_pos ⟨hu,a⟩]
  obtain⟨i',f⟩:=xL r A p (i+1) (dm x (ai x++[y])) hu (fun _=>by
   rw[show ai (dm x (ai x++[y]))=ai x++[y]from rfl,List.append_assoc];exact hv)
  refine⟨i',?_⟩
  rw[List.flatMap_cons,bD,List.append_assoc,List.append_assoc,List.singleton_append,rv (wO hx (by omega)) b,f]
  rw[show ai (dm x (ai x++[y]))=ai x++[y]from rfl,List.append_assoc];rfl
theorem Du{s:Sg}{x:Ent}(h:b9 s x=true):(10:UInt8)∉aZ s x:=by
 obtain⟨b,c,-,f,-,-,g⟩:=ji h
 intro i
 rcases qZ i with e|⟨w,hw,a⟩
 ·revert e;decide
 unfold iZ at hw
 rcases List.mem_append.1 hw with hw|hw
 ·simp only[List.mem_cons,List.not_mem_nil,or_false]at hw
  rcases hw with e|e|e|e|e|e|e
  ·rw[e]at a;revert a;decide
  ·rw[e]at a;exact(iz b).2.2.2 a
  ·rw[e]at a;revert a;decide
  ·rw[e]at a;exact(iz c).2.2.2 a
  ·rw[e]at a;revert a;decide
  ·rw[e]at a
   rcases List.mem_cons.1 a with e|e
   ·revert e;decide
   rcases List.mem_append.1 e with e|e
   ·exact sy f (by decide) e
   revert e;decide
  rw[e]at a;revert a;decide
 obtain⟨u,j,rfl⟩:=List.mem_map.1 hw
 exact(iz (g u j)).2.2.2 a
theorem xI{s:Sg}{A:List Ent}(h:bz s A=true):de A=false:=by
 rcases List.eq_nil_or_concat A with e|⟨B,y,e⟩
 ·rw[e];rfl
 rw[List.concat_eq_append]at e
 subst e
 rw[ou]
 have:=(jj h).2.2.1 y (by simp)
 rw[g8,Bool.and_eq_true,Bool.or_eq_true,Bool.and_eq_true,decide_eq_true_eq,decide_eq_true_eq]at this
 rcases this.2 with e|e
 ·rw[e.1];rfl
 have:=(jm e).2.2.1
 rw[decide_eq_false (p:=ai y=[]) (fun e=>by rw[e]at this;simp at this),Bool.and_false]
theorem xK{s:Sg}:∀(r:List Ent) (A:List Ent) (i:Nat),bz s (A++r)=true→cV s (aA 10 (bV s r)) i A=(A++r,0,0)
 | [],A,i,h=>by
  rw[List.append_nil]at h⊢
  have ho:=xI h
  show cV s [[]] i A=_
  rw[cV,if_pos ⟨rfl,ho⟩]
 |x::r,A,i,h=>by
  have a:=jj h
  have hx:=a.2.2.1 x (by simp)
  rw[g8,Bool.and_eq_true,Bool.or_eq_true,Bool.and_eq_true,decide_eq_true_eq,decide_eq_true_eq]at hx
  have f:bX s (aZ s x)=some (dm x []):=by rw[←vu s x []];exact vA (by rw[ri];exact hx.1) rfl
  have hA:bz s A=true:=by
   unfold bz
   simp only[Bool.and_eq_true,decide_eq_true_eq,List.all_eq_true]
   have g:=a.2.1
   have b:=a.2.2.2
   rw[List.length_append]at g
   rw[List.map_append,List.nodup_append]at b
   exact⟨a.1,by omega,fun y hy=>a.2.2.1 y (List.mem_append_left _ hy),b.1⟩
  have ho:=xI hA
  have k:bK s A (aZ s x)=some (A++[dm x []]):=by
   unfold bK
   rw[f]
   simp only
   rw[if_neg]
   rw[ho,Bool.false_or,Bool.or_eq_true,List.any_eq_true,decide_eq_true_eq]
   rintro(⟨y,hy,e⟩|e)
   ·have b:=a.2.2.2
    rw[List.map_append,List.nodup_append]at b
    rw[decide_eq_true_eq]at e
    exact b.2.2 (af y) (List.mem_map_of_mem hy) (af x) (by simp) e
   have g:=a.2.1
   rw[List.length_append,List.length_cons]at g
   omega
  have l:bV s (x::r)=aZ s x++10::((ai x).flatMap bD++bV s r):=by
   rw[show x::r=[x]++r from rfl,lr,lu];unfold fZ;rw[List.append_assoc];rfl
  rw[l,rv (Du hx.1) k]
  have key:∃c,cV s (aA 10 ((ai x).flatMap bD++bV s r)) (i+1) (A++[dm x []])=cV s (aA 10 (bV s r)) c (A++[x]):=by
   rcases hx.2 with e|e
   ·refine⟨i+1,?_⟩
    have m:dm x []=x:=by rw[←e.2];rfl
    rw[e.2,m];rfl
   have n:ae (dm x [])≠ []:=fun f=>F3 (p:=ai x) (by
    have:ae x=[]:=f
    rw[this]at e;exact e)
   obtain⟨c,j⟩:=xL (s:=s) (bV s r) A (ai x) (i+1) (dm x []) n (fun _=>e)
   exact⟨c,j⟩
  obtain⟨c,j⟩:=key
  rw[j,xK r (A++[x]) c (by rw[List.append_assoc];exact h),List.append_assoc]
  rfl
theorem qC{s:Sg}{x:Ent}(h:b9 s x=true):(aZ s x).length≤1800:=by
 obtain⟨i,j,-,f,p,-,l⟩:=ji h
 have t:=iK (k:=1) (az x).length f (Nat.le_refl _)
 have w:=(bj f).2.2.1
 have y:(bL (af x)).length≤16:=by have:=(jM i).2;unfold bL;rw[Array.length_toList];exact this
 have z:(bL (aC x)).length≤16:=by have:=(jM j).2;unfold bL;rw[Array.length_toList];exact this
 have b:∀(a:List ByteArray),(∀u∈a,a6 u=true)→(aS 32 (a.map bL)).length≤17*a.length:=by
  intro a
  induction a with
  |nil=>intro _;simp[aS]
  |cons u a c=>
   intro g
   have r:(bL u).length≤16:=by have:=(jM (g u (by simp))).2;unfold bL;rw[Array.length_toList];exact this
   have c:=c (fun v m=>g v (List.mem_cons_of_mem _ m))
   cases a with
   |nil=>simp[aS];omega
   |cons v a=>
    rw[List.map_cons,List.map_cons,ir,List.length_append,List.length_cons,←List.map_cons]
    simp only[List.length_cons]at c⊢
    omega
 have:=b _ l
 have q:(ff (ae x)).length≤1+17*12:=by
  unfold ff
  split
  ·simp
  rw[List.length_cons];omega
 have hA:(fD x).length≤50:=by
  unfold fD
  simp[aS,d7,dZ]
  omega
 have n:mSa.length=7:=rfl
 have o:mUs.length=6:=rfl
 rw[lE,List.length_append,List.length_append,List.length_append,List.length_append]
 omega
theorem qd{s:Sg}{x:Ent}(h:cE s x=true):(fZ s x).length≤2600:=by
 rw[g8,Bool.and_eq_true,Bool.or_eq_true,Bool.and_eq_true,decide_eq_true_eq,decide_eq_true_eq]at h
 have c:=qC h.1
 have f:((ai x).flatMap bD).length≤780:=by
  rcases h.2 with e|e
  ·rw[e.2];simp
  obtain⟨-,a,-,g,b⟩:=jm e
  have:=CY (l7 a b) (by omega)
  omega
 unfold fZ
 rw[List.length_append,List.length_cons];omega
theorem uJ{s:Sg}{l:List Ent}:(∀x∈l,cE s x=true)→(bV s l).length≤2600*l.length:=by
 induction l with
 |nil=>intro _;simp[bV]
 |cons x l b=>
  intro h
  have c:=qd (h x (by simp))
  have a:=b (fun y hy=>h y (List.mem_cons_of_mem _ hy))
  unfold bV at a⊢
  rw[List.flatMap_cons,List.length_append,List.length_cons];omega
theorem FU{s:Sg}{l:List Ent}(h:bz s l=true)(hl:l.length≤20):df s (dW s l)=(l,0,0):=by
 have a:=jj h
 have b:=uJ a.2.2.1
 unfold df dW
 rw[if_pos a.1,if_pos h,if_pos (by omega)]
 exact xK l [] 0 h
def jf(s:Sg)(x:Ent):List UInt8:=fD x++(mSa++(txt 1 s (az x)++mUs))
def dX(us:List ByteArray):List UInt8:=us.flatMap (fun u=>32::bL u)
theorem IJ(u:ByteArray)(us:List ByteArray):ff (u::us)=(32::bL u)++ff us:=by
 unfold ff
 rw[if_neg (by simp)]
 cases us with
 |nil=>simp[aS]
 |cons v us=>rw[if_neg (by simp),List.map_cons,List.map_cons,ir];rfl
theorem sD:∀us,ff us=dX us
 | []=>rfl
 |u::us=>by rw[IJ,sD us];rfl
theorem qD(s:Sg)(x:Ent):aZ s x=jf s x++dX (ae x):=by
 rw[lE,sD];unfold jf;simp only[List.append_assoc]
theorem Dt(s:Sg)(x:Ent):(⟨#[101,110,116,114,121,32]⟩:ByteArray)++af x++⟨#[32,98,121,32]⟩++aC x++⟨#[32,115,97,121,115,32,60]⟩++ah (txt 1 s (az x))++⟨#[62,32,117,115,101,115]⟩=ah (jf s x):=by
 refine gQ ?_
 simp only[ByteArray.data_append,Array.toList_append]
 unfold jf fD ah mSa mUs
 simp[aS,d7,dZ,bL]
theorem qV{s:Sg}{x:Ent}(h:aw s (az x)=true):(jf s x).length≤(af x).size+(aC x).size+1500:=by
 have i:=iK (k:=1) (az x).length h (Nat.le_refl _)
 have j:=(bj h).2.2.1
 have a:mSa.length=7:=rfl
 have b:mUs.length=6:=rfl
 have c:(bL (af x)).length=(af x).size:=Array.length_toList
 have f:(bL (aC x)).length=(aC x).size:=Array.length_toList
 have g:(fD x).length≤(af x).size+(aC x).size+10:=by
  unfold fD
  simp[aS,d7,dZ]
  omega
 unfold jf
 rw[List.length_append,List.length_append,List.length_append]
 omega
theorem EK{us:List ByteArray}{j:Nat}(hj:j<us.length):dX (us.take (j+1))=dX (us.take j)++(32::bL us[j]):=by
 unfold dX
 rw[List.take_succ_eq_append_getElem hj,List.flatMap_append,List.flatMap_singleton]
theorem wV{us:List ByteArray}{z:Nat}(h:∀u∈us,u.size≤z):(dX us).length≤(z+1)*us.length:=by
 induction us with
 |nil=>simp[dX]
 |cons u us c=>
  have g:=h u (by simp)
  have a:=c (fun v b=>h v (List.mem_cons_of_mem _ b))
  have f:(bL u).length=u.size:=Array.length_toList
  unfold dX at a⊢
  rw[List.flatMap_cons,List.length_append,List.length_cons,List.length_cons,Nat.mul_succ]
  omega
theorem Eo{m:UInt8}{L:List (List UInt8)}{j:Nat}(hj:j<L.length):aS m (L.take (j+1))=if j=0 then L[j]else aS m (L.take j)++m::L[j]:=by
 rw[List.take_succ_eq_append_getElem hj]
 by_cases h:j=0
 ·subst h;rw[if_pos rfl,List.take_zero,List.nil_append];rfl
 rw[if_neg h,lI m _ _ (by intro e;have:=congrArg List.length e;rw[List.length_take,List.length_nil]at this;omega) (by simp)];rfl
theorem wv{m:UInt8}{L:List (List UInt8)}(j:Nat):(aS m (L.take j)).length≤(aS m L).length:=by
 by_cases a:L.take j=[]
 ·rw[a];exact Nat.zero_le _
 by_cases b:L.drop j=[]
 ·have:=List.take_append_drop j L
  rw[b,List.append_nil]at this
  rw[this];exact Nat.le_refl _
 have:=lI m _ _ a b
 rw[List.take_append_drop]at this
 rw[this,List.length_append];omega
theorem yu{S1 S2:Nat→Prop}(sa:Option Addr)(sc:Nat)(s:Sg)(x:Ent)(a1 a2 a3:Option Addr)(n3 c1 c2 c3:Nat)(w:World)(h1:Sign S1 w sa sc s)(hn:(af x).size≤70000)(hb:(aC x).size≤70000)(hk:aw s (az x)=true)
  (hI:Ints S2 w a1 c1 (az x)) (hU:Sl strE S2 w a2 c2 (ae x)) (hz:∀u∈ae x,u.size≤70000) (hl:(ae x).length≤70000):
  Calls Tryz.prog 32 #[.slice sa s.length sc,entV (af x) (aC x) (az x).length (ae x).length n3 a1 a2 a3 c1 c2 c3] w fun e w'=>e= .returned (.string (ah (aZ s x++[10])))∧Below w.heap.size w w':=by
 have m1:=hI.le
 have m2:=hU.le
 obtain⟨W,f⟩:∃W,w.alloc (.cells #[.string (af x), .string (aC x), .slice a1 (az x).length c1, .slice a2 (ae x).length c2, .slice a3 n3 c3] 46)=W:=⟨_,rfl⟩
 have n:Below w.heap.size w W:=by rw[←f];exact an w _
 have S:W.cell? ⟨w.heap.size,0,none⟩=some (.string (af x)):=by rw[←f];clear f;go_simp
 have U:W.cell? ⟨w.heap.size,1,none⟩=some (.string (aC x)):=by rw[←f];clear f;go_simp
 have q2:W.cell? ⟨w.heap.size,2,none⟩=some (.slice a1 (az x).length c1):=by rw[←f];clear f;go_simp
 have V:W.cell? ⟨w.heap.size,3,none⟩=some (.slice a2 (ae x).length c2):=by rw[←f];clear f;go_simp
 have D:=Gc sa a1 sc c1 s 1 (az x) W (h1.below n) (hI.below n)
 have y:d8 s 1 (az x)=(txt 1 s (az x),0):=by unfold d8;rw[if_pos hk];rfl
 rw[y]at D
 have g:w.heap.size<W.heap.size:=by rw[←f];simp
 have l:=Dt s x
 have K:=qV hk (x:=x)
 have r:=qD s x
 have v:=wV hz
 have L:=iK (k:=1) (az x).length hk (Nat.le_refl _)
 have R:=(bj hk).2.2.1
 have Y:=cX (txt 1 s (az x))
 have zH:=cX (jf s x)
 generalize aZ s x=Z at*
 generalize txt 1 s (az x)=TX at*
 generalize jf s x=h at*
 generalize af x=nm at*
 generalize aC x=C at*
 generalize (az x).length=n1 at*
 generalize ae x=us at*
 obtain⟨T,P⟩:∃T,ah TX=T:=⟨_,rfl⟩
 rw[P]at l D Y
 have s1:(9223372036854775807<6+nm.size)=False:=eq_false (by omega)
 have s2:(9223372036854775807<6+nm.size+4)=False:=eq_false (by omega)
 have s3:(9223372036854775807<6+nm.size+4+C.size)=False:=eq_false (by omega)
 have s4:(9223372036854775807<6+nm.size+4+C.size+7)=False:=eq_false (by omega)
 have s5:(9223372036854775807<6+nm.size+4+C.size+7+T.size)=False:=eq_false (by omega)
 have s6:(9223372036854775807<6+nm.size+4+C.size+7+T.size+6)=False:=eq_false (by omega)
 have H:=Lib.hid (hU.below n)
 have M:=Lib.hid D
 have p:=Lib.hid l
 have E:=Lib.hid n
 have t:=Lib.hid r
 have ag:h.length≤200000:=by omega
 have Q:=Lib.hid v
 clear hI hU h1 D y l n r P v K L Y zH
 dsimp only[entV]
 go_enter Tryz.func32,Tryz.ntmps32
 go_wp2_with fail
 try rw[f]
 go_wp2_with fail
 refine M.out.mono ?_
 rintro e w1 ⟨rfl,a⟩
 have p0:=cell_later a S
 have p1:=cell_later a U
 have p3:=cell_later a V
 have I:=Lib.hid (H.out.below a)
 have F:=Lib.hid (aa E.out a)
 clear a S U q2 V
 go_wp2_with fail
 rw[p.out]
 go_loopw [7,8] (fun sv i wr=>∃j:Nat,i= .int .i64 j∧j≤us.length∧sv= .string (ah (h++dX (us.take j)))∧wr=w1) (fun _ i _=>us.length-(intOf i).toNat)
 case atStart=>exact⟨0,rfl,Nat.zero_le _,by simp[dX],rfl⟩
 case round=>
  obtain⟨j,rfl,hj,rfl,rfl⟩:=hrel
  have A:(ah (h++dX (us.take j))).size≤200000+70001*70000:=by
   rw[cX,List.length_append]
   have:=wV (us:=us.take j) (z:=70000) (fun u hu=>hz u (List.mem_of_mem_take hu))
   have h3:(us.take j).length≤70000:=by rw[List.length_take];omega
   have:(70000+1)*(us.take j).length≤70001*70000:=Nat.mul_le_mul_left _ h3
   omega
  by_cases g:j<us.length
  ·obtain⟨b,o,rfl,-,-,vs,N,O,e3⟩:=I.out.at1 j g
   obtain⟨rfl,-⟩:=e3
   have q:=O 0 (by rw[N];exact Nat.one_pos)
   simp only[List.getElem_cons_zero,Nat.add_zero,show strE.size=1 from rfl,Nat.mul_one]at q
   have al:=hz us[j] (List.getElem_mem g)
   have m:(ah (h++dX (us.take j))++⟨#[32]⟩)++us[j]=ah (h++dX (us.take (j+1))):=by
    rw[EK g]
    refine gQ ?_
    simp[ByteArray.data_append,ah,bL]
   obtain⟨B,c⟩:∃B,ah (h++dX (us.take j))=B:=⟨_,rfl⟩
   rw[c]at m A
   rw[c]
   generalize us[j]=X at*
   have t1:(9223372036854775807<B.size+1)=False:=eq_false (by omega)
   have t2:(9223372036854775807<B.size+1+X.size)=False:=eq_false (by omega)
   have G:=Lib.hid m
   clear O N c m
   go_wp2_with fail
   go_roundw
   case rel=>exact⟨j+1,by go_num,g,congrArg Value.string G.out,by trivial⟩
   case measure=>simp[intOf];omega
  have J:j=us.length:=by omega
  subst J
  have m:=Lib.hid (show ah (h++dX (us.take us.length))++⟨#[10]⟩=ah (Z++[10])by
   rw[List.take_length,t.out]
   refine gQ ?_
   simp[ByteArray.data_append,ah])
  obtain⟨B,c⟩:∃B,ah (h++dX (us.take us.length))=B:=⟨_,rfl⟩
  rw[c]at m A
  rw[c]
  have t1:(9223372036854775807<B.size+1)=False:=eq_false (by omega)
  clear c
  go_wp2_with fail
  go_ret
  exact⟨congrArg (fun b=>Ending.returned (.string b)) m.out,F.out⟩
end Go.Proofs.YtlejmeegkpdabaaGreatDoor
