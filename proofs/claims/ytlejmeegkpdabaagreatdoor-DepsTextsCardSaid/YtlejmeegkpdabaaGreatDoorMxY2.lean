/- The proof of a statement, some of its texts joined in build order: part Y2. -/
import Derived.Test.YtlejmeegkpdabaaGreatDoorMxY1
import Derived.Laws.Rows
import Derived.Lib.Atoi
import Derived.Lib.IndexMore
import Derived.Test.YtlejmeegkpdabaaGreatDoorMxA
import Derived.Test.YtlejmeegkpdabaaGreatDoorMxK11
import Derived.Lib.ItoaLen
import Derived.Lib.SplitLaws
import Derived.BigRegion
set_option maxHeartbeats 4000000
set_option maxRecDepth 100000
namespace Go.Proofs.YtlejmeegkpdabaaGreatDoor
open Go Go.RowKit Go.Maps
theorem xR{s:Sg}{t r:List Int}{p:Nat}(h:aJ s 1 (t.drop p)=some r)(hp:p<t.length)(hn:t[p]<0):bR s (t.drop p)=[t[p]]:=by
 obtain⟨_,a,hs⟩:=ic (k:=0) h
 rw[iP hn,Nat.zero_add,dQ]at hs
 have hr:=Option.some.inj hs
 unfold bR
 rw[h,Option.getD_some,←hr,List.length_drop,List.length_drop,show t.length-p-(t.length-(p+1))=1 by omega,List.drop_eq_getElem_cons hp]
 rfl
theorem I3{k:Nat}{wI:World}{bt ba bs bw bx F:Nat}{a1 a2:Option Addr}{c1 c2:Nat}{s:Sg}{t:List Int}(hb:WBox wI bt ba bs bw bx F a1 a2 c1 c2 s t)(hok:aH s=true)(hl:t.length≤60)
  (eF:∀args W,(callFunc F args).run Tryz.prog W= .ok (.enter F args) W)
  (cF:∀(S1 S2:Nat→Prop) (b1 b2:Option Addr) (d1 d2 n:Nat) (A:List (List UInt8)) (W:World),n<s.length→Sign S1 W b1 d1 s→TArgs S2 W b2 d2 A→Calls Tryz.prog F #[.slice b1 s.length d1, .int .i64 n, .slice b2 A.length d2] W fun e w'=>e= .returned (.string (ah (bJ k s n A)))∧Below W.heap.size W w'):
  ∀(N p:Nat) (r:List Int),t.length-p≤N→aJ s 1 (t.drop p)=some r→mM k wI bt ba bs bw bx s p (bR s (t.drop p)):=by
 intro N
 induction N with
 |zero=>
  intro p r f h
  obtain⟨a,-,-⟩:=ic (k:=0) h
  omega
 |succ N i=>
  intro p r f h
  obtain⟨a,g,-⟩:=ic (k:=0) h
  by_cases b:t[p]<0
  ·rw[xR h a b]
   exact I5 hb hl a g b
  exact I4 hb hok hl eF cF h a b (fun j l m c=>i j l (by omega) c)
theorem kM{k F R:Nat}{S1 S2:Nat→Prop}(a1 a2:Option Addr)(c1 c2:Nat)(s:Sg)(t:List Int)(w:World)(h1:Sign S1 w a1 c1 s)(h2:Ints S2 w a2 c2 t)(hok:aw s t=true)
  (eF:∀args W,(callFunc F args).run Tryz.prog W= .ok (.enter F args) W)
  (cF:∀(S1 S2:Nat→Prop) (b1 b2:Option Addr) (d1 d2 n:Nat) (A:List (List UInt8)) (W:World),n<s.length→Sign S1 W b1 d1 s→TArgs S2 W b2 d2 A→Calls Tryz.prog F #[.slice b1 s.length d1, .int .i64 n, .slice b2 A.length d2] W fun e w'=>e= .returned (.string (ah (bJ k s n A)))∧Below W.heap.size W w'):
  Calls Tryz.prog 102 #[.slice a1 s.length c1, .agg #[.func (.func F) #[] #[], .func (.func R) #[] #[]], .slice a2 t.length c2] w fun e w'=>e= .returned (.string (ah (txt k s t)))∧Below w.heap.size w w':=by
 have J:=h1.le
 have K:=h2.le
 obtain⟨m,c⟩:∃m,((w.alloc (.cells #[.slice a1 s.length c1] 23)).alloc (.cells #[.func (.func F) #[] #[], .func (.func R) #[] #[]] 139)).alloc (.cells #[.slice a2 t.length c2] 42)=m:=⟨_,rfl⟩
 have p:m.heap.size=w.heap.size+1+1+1:=by rw[←c];simp
 obtain⟨g,a⟩:∃g,(m.alloc (.cells #[.int .i64 0] 3)).alloc (.cells #[wrV (w.heap.size+1+1) (w.heap.size+1+1+1) w.heap.size (w.heap.size+1+1+1+1) (w.heap.size+1)] 57)=g:=⟨_,rfl⟩
 have r:Below w.heap.size w m:=by rw[←c];exact jy _ _ _ _
 have f:Below w.heap.size w g:=by rw[←a];exact aa r (dT _ _ _)
 have C:g.heap.size=w.heap.size+1+1+1+1+1:=by rw[←a];simp[p]
 have q:AtBox g (w.heap.size+1+1+1) 0:=by
  have H:AtBox (m.alloc (.cells #[.int .i64 0] 3)) m.heap.size 0:=heap_alloc_new m _
  rw[p]at H
  rw[←a]
  exact H.below (an _ _)
 have E:g.cell? ⟨w.heap.size+1+1,0,none⟩=some (.slice a2 t.length c2):=by rw[←a,←c];clear a c;go_simp
 have D:g.cell? ⟨w.heap.size,0,none⟩=some (.slice a1 s.length c1):=by rw[←a,←c];clear a c;go_simp
 have G:g.cell? ⟨w.heap.size+1,0,none⟩=some (.func (.func F) #[] #[]):=by rw[←a,←c];clear a c;go_simp
 have cw:g.cell? ⟨w.heap.size+1+1+1+1,0,none⟩=some (wrV (w.heap.size+1+1) (w.heap.size+1+1+1) w.heap.size (w.heap.size+1+1+1+1) (w.heap.size+1)):=by rw[←a,←c];clear a c;go_simp
 have i:WBox g (w.heap.size+1+1) (w.heap.size+1+1+1) w.heap.size (w.heap.size+1+1+1+1) (w.heap.size+1) F a1 a2 c1 c2 s t:=
  ⟨E,D,cw,G,by omega,by omega,by omega,by omega,(h1.lt.below f).weak (fun b x=>by have:=x.2;omega),(h2.lt.below f).weak (fun b x=>by have:=x.2;omega)⟩
 obtain⟨hs,-,I,o⟩:=bj hok
 have z:=I3 i hs I eF cF t.length 0 [] (Nat.sub_le _ _) o g (kr _ _) q
 have v:bR s (t.drop 0)=t:=by
  rw[List.drop_zero];unfold bR;rw[o];simp
 rw[v]at z
 have u:Calls _ _ _ _ fun e w'=>e= .returned (.string (ah (txt k s t)))∧Below w.heap.size w w':=z.mono fun e w' h=>⟨h.1,f.grown h.2.1 f.size (fun j e=>by injection e with e;omega)⟩
 have B:=Lib.hid u
 have l:=Lib.hid a
 rw[←c]at l
 clear h1 h2 hok eF cF c p a r f C q E D i z u v G hs o
 go_enter Tryz.func102,Tryz.ntmps102
 go_upto_region 4 with fail
 rw[l.out]
 go_wp2_with fail
 (with_reducible refine B.out.mono ?_)
 rintro e w2 ⟨rfl,y⟩
 go_wp2_with fail
 go_ret
 exact⟨rfl,y⟩
theorem o5(w:World):Calls Tryz.prog 103 #[] w fun e w'=>e= .returned (.agg #[.func (.func 145) #[] #[], .func (.func 146) #[] #[], .func (.func 147) #[] #[], .func (.func 148) #[] #[], .func (.func 149) #[] #[], .func (.func 150) #[] #[]])∧Below w.heap.size w w':=by
 go_enter Tryz.func103,Tryz.ntmps103
 go_wp2_with fail
 exact bodyPost_ret (results_cell_row rfl _ _ w.heap.size _ _ _ _ rfl (heap_alloc_new w _) Tryz.underlying140 rfl (by kernel_rfl)) rfl ⟨rfl,an w _⟩
theorem zq(W:World):(Instr.index 140 (.agg #[.func (.func 145) #[] #[], .func (.func 146) #[] #[], .func (.func 147) #[] #[], .func (.func 148) #[] #[], .func (.func 149) #[] #[], .func (.func 150) #[] #[]]) (.int .i64 0)).run Tryz.prog W= .ok (.agg #[.func (.func 145) #[] #[], .func (.func 146) #[] #[]]) W:=by kernel_rfl
theorem zr(W:World):(Instr.index 140 (.agg #[.func (.func 145) #[] #[], .func (.func 146) #[] #[], .func (.func 147) #[] #[], .func (.func 148) #[] #[], .func (.func 149) #[] #[], .func (.func 150) #[] #[]]) (.int .i64 1)).run Tryz.prog W= .ok (.agg #[.func (.func 147) #[] #[], .func (.func 148) #[] #[]]) W:=by kernel_rfl
theorem zs(W:World):(Instr.index 140 (.agg #[.func (.func 145) #[] #[], .func (.func 146) #[] #[], .func (.func 147) #[] #[], .func (.func 148) #[] #[], .func (.func 149) #[] #[], .func (.func 150) #[] #[]]) (.int .i64 2)).run Tryz.prog W= .ok (.agg #[.func (.func 149) #[] #[], .func (.func 150) #[] #[]]) W:=by kernel_rfl
theorem kK(n lo hi:Int)(w:World):
  Calls Tryz.prog 101 #[.int .i64 n, .int .i64 lo, .int .i64 hi] w fun e w'=>e= .returned (.bool (decide (lo≤n)&&decide (n≤hi)))∧w=w':=by
 go_enter Tryz.func101,Tryz.ntmps101
 go_wp2
 all_goals go_ret
 all_goals exact⟨aF (by simp;omega),rfl⟩
def d8(s:Sg)(k:Int)(t:List Int):List UInt8×Int:=if aw s t=true then(if(decide (1≤k)&&decide (k≤3))=true then(txt k.toNat s t,0)else([],7))else([],1)
theorem AX{S1 S2:Nat→Prop}(a1 a2:Option Addr)(c1 c2:Nat)(s:Sg)(k:Int)(t:List Int)(w:World)(h1:Sign S1 w a1 c1 s)(h2:Ints S2 w a2 c2 t):
  Calls Tryz.prog 53 #[.slice a1 s.length c1, .int .i64 k, .slice a2 t.length c2] w fun e w'=>e= .returned (.tuple #[.string (ah (d8 s k t).1), .int .i64 (d8 s k t).2])∧Below w.heap.size w w':=by
 have D:=h1.le
 have E:=h2.le
 have l:=Lib.hid (fS a1 a2 c1 c2 s t w h1 h2)
 cases hx:aw s t with
 |false=>
  rw[hx]at l
  have i:=Lib.hid (show d8 s k t=([],1)by rw[d8,if_neg (by simp[hx])])
  clear h1 h2 hx
  go_enter Tryz.func53,Tryz.ntmps53
  go_wp2_with fail
  refine l.out.mono ?_
  rintro e x ⟨rfl,a⟩
  go_wp2_with fail
  go_ret2
  rw[i.out]
  exact⟨rfl,a⟩
 |true=>
 rw[hx]at l
 have m:=Lib.hid (fun W=>kK k 1 3 W)
 cases h:(decide (1≤k)&&decide (k≤3))with
 |false=>
  rw[h]at m
  have i:=Lib.hid (show d8 s k t=([],7)by rw[d8,if_pos hx,if_neg (by simp[h])])
  clear h1 h2 hx h
  go_enter Tryz.func53,Tryz.ntmps53
  go_wp2_with fail
  refine l.out.mono ?_
  rintro e x ⟨rfl,a⟩
  go_wp2_with fail
  refine(m.out _).mono ?_
  rintro e w2 ⟨rfl,rfl⟩
  go_wp2_with fail
  go_ret2
  rw[i.out]
  exact⟨rfl,a⟩
 |true=>
 rw[h]at m
 have i:d8 s k t=(txt k.toNat s t,0):=by rw[d8,if_pos hx,if_pos h]
 have z:1≤k∧k≤3:=by simpa using h
 have f:=(bj hx).1
 rw[i]
 have y:=Lib.hid o5
 have B:k=1∨k=2∨k=3:=by omega
 rcases B with rfl|rfl|rfl
 ·have cw:=Lib.hid (fun W (j:Below w.heap.size w W)=>kM (k:=1) (F:=145) (R:=146) a1 a2 c1 c2 s t W (h1.below j) (h2.below j) hx (enters_of Tryz.func145 (by kernel_rfl) rfl)
   (fun S1 S2 o p q r n A W v h1 h2=>ry o p q r s n v A W f h1 h2))
  have u:=zq
  clear h1 h2 hx h i z f
  go_enter Tryz.func53,Tryz.ntmps53
  go_wp2_with fail
  refine l.out.mono ?_
  rintro e x ⟨rfl,a⟩
  go_wp2_with fail
  refine(m.out _).mono ?_
  rintro e w2 ⟨rfl,rfl⟩
  go_wp2_with fail
  refine(y.out _).mono ?_
  rintro e w2 ⟨rfl,c⟩
  have b:=Lib.hid (aa a c)
  clear a c
  go_wp2_with fail
  (with_reducible refine(cw.out _ b.out).mono ?_)
  rintro e C ⟨rfl,g⟩
  go_wp2_with fail
  go_ret2
  exact⟨rfl,aa b.out g⟩
 ·have cw:=Lib.hid (fun W (j:Below w.heap.size w W)=>kM (k:=2) (F:=147) (R:=148) a1 a2 c1 c2 s t W (h1.below j) (h2.below j) hx (enters_of Tryz.func147 (by kernel_rfl) rfl)
   (fun S1 S2 o p q r n A W v h1 h2=>tC o p q r s n v A W f h1 h2))
  have u:=zr
  clear h1 h2 hx h i z f
  go_enter Tryz.func53,Tryz.ntmps53
  go_wp2_with fail
  refine l.out.mono ?_
  rintro e x ⟨rfl,a⟩
  go_wp2_with fail
  refine(m.out _).mono ?_
  rintro e w2 ⟨rfl,rfl⟩
  go_wp2_with fail
  refine(y.out _).mono ?_
  rintro e w2 ⟨rfl,c⟩
  have b:=Lib.hid (aa a c)
  clear a c
  go_wp2_with fail
  (with_reducible refine(cw.out _ b.out).mono ?_)
  rintro e C ⟨rfl,g⟩
  go_wp2_with fail
  go_ret2
  exact⟨rfl,aa b.out g⟩
 have cw:=Lib.hid (fun W (j:Below w.heap.size w W)=>kM (k:=3) (F:=149) (R:=150) a1 a2 c1 c2 s t W (h1.below j) (h2.below j) hx (enters_of Tryz.func149 (by kernel_rfl) rfl)
  (fun S1 S2 o p q r n A W v h1 h2=>tK o p q r s n v A W f h1 h2))
 have u:=zs
 clear h1 h2 hx h i z f
 go_enter Tryz.func53,Tryz.ntmps53
 go_wp2_with fail
 refine l.out.mono ?_
 rintro e x ⟨rfl,a⟩
 go_wp2_with fail
 refine(m.out _).mono ?_
 rintro e w2 ⟨rfl,rfl⟩
 go_wp2_with fail
 refine(y.out _).mono ?_
 rintro e w2 ⟨rfl,c⟩
 have b:=Lib.hid (aa a c)
 clear a c
 go_wp2_with fail
 (with_reducible refine(cw.out _ b.out).mono ?_)
 rintro e C ⟨rfl,g⟩
 go_wp2_with fail
 go_ret2
 exact⟨rfl,aa b.out g⟩
def aA(m:UInt8):List UInt8→List (List UInt8)
 | []=>[[]]
 |c::r=>if c=m then []::aA m r else match aA m r with| []=>[[c]]|w::ws=>(c::w)::ws
theorem eV(m:UInt8):∀l,aA m l≠ []
 | []=>by simp[aA]
 |c::r=>by
  rw[aA]
  split
  ·simp
  split<;>simp
theorem ij{m:UInt8}:∀{l:List UInt8},m∉l→aA m l=[l]
 | [],_=>rfl
 |c::r,h=>by
  rw[List.mem_cons,not_or]at h
  rw[aA,if_neg (fun e=>h.1 e.symm),ij h.2]
theorem eU{m:UInt8}:∀{l r:List UInt8},m∉l→aA m (l++m::r)=l::aA m r
 | [],r,_=>by rw[List.nil_append,aA,if_pos rfl]
 |c::l,r,h=>by
  rw[List.mem_cons,not_or]at h
  rw[List.cons_append,aA,if_neg (fun e=>h.1 e.symm),eU h.2]
def aS(m:UInt8):List (List UInt8)→List UInt8
 | []=>[]
 | [w]=>w
 |w::v::ws=>w++m::aS m (v::ws)
theorem jK(m:UInt8):∀l,aS m (aA m l)=l
 | []=>rfl
 |c::r=>by
  have ih:=jK m r
  have b:=eV m r
  rw[aA]
  by_cases h:c=m
  ·rw[if_pos h]
   cases hw:aA m r with
   |nil=>exact(b hw).elim
   |cons v a=>rw[hw]at ih;rw[aS,ih,List.nil_append,h]
  rw[if_neg h]
  cases hw:aA m r with
  |nil=>exact(b hw).elim
  |cons v a=>
   rw[hw]at ih
   simp only
   cases a with
   |nil=>rw[aS]at ih⊢;rw[ih]
   |cons u a=>rw[aS]at ih⊢;rw[List.cons_append,ih]
theorem pc{m:UInt8}:∀{l:List UInt8} {w:List UInt8},w∈aA m l→m∉w
 | [],w,h=>by simp[aA]at h;subst h;simp
 |c::r,w,h=>by
  rw[aA]at h
  by_cases e:c=m
  ·rw[if_pos e,List.mem_cons]at h
   rcases h with h|h
   ·subst h;simp
   exact pc h
  rw[if_neg e]at h
  cases hw:aA m r with
  |nil=>exact(eV m r hw).elim
  |cons v ws=>
   rw[hw]at h
   simp only[List.mem_cons]at h
   rcases h with h|h
   ·subst h
    have:=pc (m:=m) (l:=r) (w:=v) (by rw[hw];simp)
    rw[List.mem_cons,not_or];exact⟨fun a=>e a.symm,this⟩
   exact pc (l:=r) (by rw[hw];simp[h])
def di(l:List UInt8):List UInt8:=if l.head?=some 45 then l.tail else l
def gL(l:List UInt8)(m:Nat):Int:=if l.head?=some 45 then-(m:Int)else m
def bi(l:List UInt8):Option Int:=
 if(di l).length<1∨18<(di l).length then none
 else match Lib.decFrom 0 (di l)with
  |none=>none
  |some m=>if Lib.itoa (gL l m)=l then some (gL l m)else none
theorem rd{l:List UInt8}{n:Int}(h:bi l=some n):Lib.itoa n=l:=by
 unfold bi at h
 by_cases b:(di l).length<1∨18<(di l).length
 ·rw[if_pos b]at h;cases h
 rw[if_neg b]at h
 cases hd:Lib.decFrom 0 (di l)with
 |none=>rw[hd]at h;cases h
 |some m=>
  rw[hd]at h
  simp only at h
  by_cases a:Lib.itoa (gL l m)=l
  ·rw[if_pos a]at h;injection h with h;rw[←h];exact a
  rw[if_neg a]at h;cases h
def dg(n:Nat):List UInt8:=if n<10 then [UInt8.ofNat (48+n)]else [UInt8.ofNat (48+n / 10),UInt8.ofNat (48+n % 10)]
theorem je{n:Nat}(h:n<100):Lib.itoa (n:Int)=dg n:=by
 have:Lib.itoa (n:Int)=Lib.decDigits n:=by unfold Lib.itoa;rw[if_neg (by omega)];simp
 rw[this]
 unfold dg
 by_cases a:n<10
 ·rw[if_pos a,Lib.decDigits_one a]
 rw[if_neg a,Lib.decDigits_two a h]
theorem ew:∀n:Fin 60,(dg n.1).head?≠some 45∧1≤(dg n.1).length∧(dg n.1).length≤2∧Lib.decFrom 0 (dg n.1)=some n.1∧Lib.atoiAll (dg n.1)= .ok (n.1:Int)∧(32:UInt8)∉dg n.1∧(10:UInt8)∉dg n.1:=by decide+kernel
theorem rh{n:Nat}(h:n<60):bi (dg n)=some (n:Int):=by
 obtain⟨a,c,f,b,-⟩:=ew ⟨n,h⟩
 simp only at a c f b
 have g:di (dg n)=dg n:=by unfold di;rw[if_neg a]
 have hs:gL (dg n) n=(n:Int):=by unfold gL;rw[if_neg a]
 unfold bi
 rw[g,if_neg (by omega),b]
 simp only
 rw[hs,je (by omega),if_pos rfl]
def co(l:List UInt8):Int:=match Lib.atoiAll l with| .ok v=>v| .range=>Lib.atoiSat l|_=>0
theorem pI{n:Nat}(h:n<60):co (dg n)=(n:Int):=by
 unfold co;rw[(ew ⟨n,h⟩).2.2.2.2.1]
def dU:List UInt8:=[99,105,116,101]
def dL:List UInt8:=[100,101,116,97,99,104]
def dA(x:Stp):List UInt8:=if x.1=1 then dU++32::Lib.itoa x.2.1 else dL++32::(Lib.itoa x.2.1++32::Lib.itoa x.2.2)
def bD(x:Stp):List UInt8:=dA x++[10]
def bF(l:List UInt8):Stp:=
 match(aA 32 l).tail.mapM bi with
 |some [a]=>if(aA 32 l).headD []=dU then(1,a,0)else(0,0,0)
 |some [a,b]=>if(aA 32 l).headD []=dL then(2,a,b)else(0,0,0)
 |_=>(0,0,0)
theorem we{m:UInt8}:∀{l:List UInt8},m∉l→Lib.index l [m]=-1
 | [],_=>rfl
 |c::r,h=>by
  rw[List.mem_cons,not_or]at h
  have hc:(m==c)=false:=by rw[beq_eq_false_iff_ne];exact h.1
  unfold Lib.index
  rw[we h.2]
  simp[List.isPrefixOf,hc]
theorem qH{m:UInt8}:∀{l r:List UInt8},m∉l→Lib.index (l++m::r) [m]=l.length
 | [],r,_=>by unfold Lib.index;simp[List.isPrefixOf]
 |c::l,r,h=>by
  rw[List.mem_cons,not_or]at h
  have hc:(m==c)=false:=by rw[beq_eq_false_iff_ne];exact h.1
  rw[List.cons_append]
  unfold Lib.index
  rw[qH h.2]
  simp[List.isPrefixOf,hc]
  try omega
theorem Ck{m:UInt8}{l:List UInt8}(h:m∉l):Lib.cut l [m]=(l,[],false):=by
 unfold Lib.cut;rw[we h];rfl
theorem Ch{m:UInt8}{l r:List UInt8}(h:m∉l):Lib.cut (l++m::r) [m]=(l,r,true):=by
 unfold Lib.cut
 rw[qH h,if_pos (by omega)]
 simp
theorem jq{i:Nat}{x:Stp}(h:aY 60 i x=true)(hi:i≤60):(∃a:Nat,a<60∧x=(1,(a:Int),0))∨(∃a b:Nat,a<60∧b<60∧x=(2,(a:Int),(b:Int))):=by
 by_cases c:x.1=1
 ·obtain⟨j,k,f⟩:=rO h c
  exact .inl ⟨x.2.1.toNat,by omega,Prod.ext c (Prod.ext (by simp only;omega) f)⟩
 obtain⟨g,l,m,n,o⟩:=oJ h c
 exact .inr ⟨x.2.1.toNat,x.2.2.toNat,by omega,by omega,Prod.ext g (Prod.ext (by simp only;omega) (by simp only;omega))⟩
theorem lN{a:Nat}(h:a<60):dA (1,(a:Int),0)=dU++32::dg a:=by
 unfold dA;rw[if_pos rfl,je (by omega)]
theorem lO{a b:Nat}(h:a<60)(k:b<60):dA (2,(a:Int),(b:Int))=dL++32::(dg a++32::dg b):=by
 unfold dA;rw[if_neg (by simp),je (by omega),je (by omega)]
theorem rJ{i:Nat}{x:Stp}(h:aY 60 i x=true)(hi:i≤60):bF (dA x)=x:=by
 rcases jq h hi with⟨a,ha,rfl⟩|⟨a,b,ha,c,rfl⟩
 ·have f:=ew ⟨a,ha⟩
  unfold bF
  rw[lN ha,eU (by decide),ij f.2.2.2.2.2.1]
  simp only[List.tail_cons,List.headD_cons,List.mapM_cons,List.mapM_nil,rh ha]
  rfl
 have f:=ew ⟨a,ha⟩
 have g:=ew ⟨b,c⟩
 unfold bF
 rw[lO ha c,eU (by decide),eU f.2.2.2.2.2.1,ij g.2.2.2.2.2.1]
 simp only[List.tail_cons,List.headD_cons,List.mapM_cons,List.mapM_nil,rh ha,rh c]
 rfl
theorem wZ{a:Int}:∀{l:List (List UInt8)},l.mapM bi=some [a]→∃w,l=[w]∧bi w=some a
 | [],h=>by simp at h
 |w::l,h=>by
  rw[List.mapM_cons]at h
  cases hw:bi w with
  |none=>rw[hw]at h;simp at h
  |some v=>
   cases hl:l.mapM bi with
   |none=>rw[hw,hl]at h;simp at h
   |some vs=>
    rw[hw,hl]at h
    simp at h
    obtain⟨rfl,rfl⟩:=h
    cases l with
    |nil=>exact⟨w,rfl,hw⟩
    |cons u l=>
     rw[List.mapM_cons]at hl
     cases c:bi u with
     |none=>rw[c]at hl;simp at hl
     |some v'=>
      cases b:l.mapM bi with
      |none=>rw[c,b]at hl;simp at hl
      |some f=>rw[c,b]at hl;simp at hl
theorem EQ{a b:Int}{l:List (List UInt8)}(h:l.mapM bi=some [a,b]):∃w u,l=[w,u]∧bi w=some a∧bi u=some b:=by
 cases l with
 |nil=>simp at h
 |cons w l=>
  rw[List.mapM_cons]at h
  cases hw:bi w with
  |none=>rw[hw]at h;simp at h
  |some v=>
   cases c:l.mapM bi with
   |none=>rw[hw,c]at h;simp at h
   |some vs=>
    rw[hw,c]at h
    simp at h
    obtain⟨rfl,rfl⟩:=h
    obtain⟨u,rfl,f⟩:=wZ c
    exact⟨w,u,rfl,hw,f⟩
theorem rI{i:Nat}{l:List UInt8}(h:aY 60 i (bF l)=true):dA (bF l)=l:=by
 have m:aY 60 i (0,0,0)=true→False:=fun h=>by simp[aY]at h
 have j:=jK 32 l
 unfold bF at h⊢
 split
 ·rename_i a g
  rw[g]at h
  simp only at h
  obtain⟨w,hw,k⟩:=wZ g
  split
  ·rename_i c
   cases f:aA 32 l with
   |nil=>exact(eV _ _ f).elim
   |cons v q=>
    rw[f]at j hw c
    simp only[List.tail_cons,List.headD_cons]at hw c
    subst hw c
    rw[aS,aS]at j
    unfold dA
    rw[if_pos rfl,rd k]
    exact j
  rename_i c;rw[if_neg c]at h;exact(m h).elim
 ·rename_i a b g
  rw[g]at h
  simp only at h
  obtain⟨w,u,hw,k,p⟩:=EQ g
  split
  ·rename_i c
   cases f:aA 32 l with
   |nil=>exact(eV _ _ f).elim
   |cons v q=>
    rw[f]at j hw c
    simp only[List.tail_cons,List.headD_cons]at hw c
    subst hw c
    rw[aS,aS,aS]at j
    unfold dA
    rw[if_neg (by simp),rd k,rd p]
    exact j
  rename_i c;rw[if_neg c]at h;exact(m h).elim
 rename_i n o
 split at h
 ·rename_i a g;exact(n a g).elim
 ·rename_i a b g;exact(o a b g).elim
 exact(m h).elim
def be:List (List UInt8)→Nat→List Stp→List Stp×Nat×Int
 | [],i,_=>([],i,2)
 | [l],i,acc=>if l=[]∧acc≠ []then(acc,0,0)else([],i,2)
 |l::v::r,i,acc=>if i<60∧aY 60 i (bF l)=true then be (v::r) (i+1) (acc++[bF l])else([],i,2)
def jk(t:List UInt8):List Stp×Nat×Int:=if t.length≤65536 then be (aA 10 t) 0 []else([],0,3)
def ei(p:List Stp):List UInt8:=if dE 60 p=true then p.flatMap bD else []
theorem Il:∃g,Tryz.prog.globalNamed zu=some g:=Option.isSome_iff_exists.1 (by kernel_rfl)
theorem TabW.below{w w':World}(h:TabW w)(hb:Below w.heap.size w w'):TabW w':=by
 obtain⟨g,b⟩:=Il
 unfold TabW Lib.TabIs World.var? at h⊢
 rw[b]at h⊢
 simp only[Option.bind_some]at h⊢
 have c:g<w.heap.size:=by
  rcases Nat.lt_or_ge g w.heap.size with a|a
  ·exact a
  rw[Array.getElem?_eq_none a]at h;cases h
 rw[hb.block g c]
 exact h
section
variable {wI W W':World}{bs b bf:Nat}{l l':List UInt8}
end
theorem H8{W:World}{b:Nat}{x1 x2 x3:Int}(h:W.heap[b]?=some (.cells #[.int .i64 x1, .int .i64 x2, .int .i64 x3] 72 (0,0))):W.cell? ⟨b,0,none⟩=some (.int .i64 x1)∧W.cell? ⟨b,1,none⟩=some (.int .i64 x2)∧W.cell? ⟨b,2,none⟩=some (.int .i64 x3):=by simp[World.cell?,h]
theorem jm{G:Int}{p:List Stp}(h:bk G p=true):0≤G∧G≤60∧1≤p.length∧p.length≤60∧a8 G 0 p=true:=by
 simp only[bk,dE,Bool.and_eq_true,decide_eq_true_eq]at h
 exact⟨h.1.1,h.1.2,h.2.2.1,h.2.2.2,h.2.1⟩
def tens:ByteArray:=⟨#[48,49,50,51,52,53,54,55,56,57]⟩
theorem zy:∀a:Nat,a<10→(tens.extract a (a+1)).data.toList=[UInt8.ofNat (48+a)]:=by decide
theorem Cn{n:Nat}(h:¬n<10):Lib.decDigits n=Lib.decDigits (n / 10)++[UInt8.ofNat (48+n % 10)]:=by rw[Lib.decDigits,dif_neg h]
theorem uc{n:Nat}(h:n<9223372036854775808):(Lib.decDigits n).length≤20:=by rw[Lib.decDigits_length];exact Lib.nDigits_le20 n (by omega)
def uj(N:Nat)(w:World)(nV sV:Value)(wr:World):Prop:=
 ∃(n:Nat) (s:ByteArray),nV= .int .i64 n∧sV= .string s∧Lib.decDigits N=Lib.decDigits n++s.data.toList∧n≤N∧wr=w
theorem nj(N:Nat)(hN:N<9223372036854775808)(w:World):
  Calls Tryz.prog 120 #[.int .i64 N] w fun e w'=>e= .returned (.string ⟨(Lib.decDigits N).toArray⟩)∧w=w':=by
 have u:=uc hN
 have z:((N:Int)<0)=False:=eq_false (by omega)
 go_enter Tryz.func120,Tryz.ntmps120
 go_wp2_with fail
 go_loopw [0,3] (fun nV sV wr=>uj N w nV sV wr) (fun nV _ _=>(intOf nV).toNat)
 case atStart=>exact⟨N,ByteArray.empty,rfl,rfl,by simp,Nat.le_refl _,rfl⟩
 case round=>
  obtain⟨n,s,rfl,rfl,hd,E,hw⟩:=hrel
  subst hw
  have y:s.size≤20:=by
   have:=congrArg List.length hd
   rw[List.length_append]at this
   have B:s.data.toList.length=s.data.size:=Array.length_toList
   have A:s.size=s.data.size:=rfl
   omega
  have v:Int.tdiv (n:Int) 10=((n / 10:Nat):Int):=rfl
  have x:Int.tmod (n:Int) 10=((n % 10:Nat):Int):=rfl
  by_cases C:9<n
  ·have l:((9:Int)<(n:Int))=True:=eq_true (by omega)
   obtain⟨r,hr⟩:∃r,n % 10=r:=⟨_,rfl⟩
   obtain⟨q,m⟩:∃q,n / 10=q:=⟨_,rfl⟩
   have t:r<10:=by omega
   have o:q<n:=by omega
   have i:=Cn (n:=n) (by omega)
   rw[hr,m]at i
   rw[m]at v
   rw[hr]at x
   obtain⟨D,f⟩:∃D,tens.extract r (r+1)=D:=⟨_,rfl⟩
   have a:D.data.toList=[UInt8.ofNat (48+r)]:=by rw[←f];exact zy r t
   have h:D.size=1:=by rw[show D.size=D.data.toList.length by rw[Array.length_toList];rfl,a];rfl
   have j:(9223372036854775807<(tens.extract r (r+1)).size+s.size)=False:=by rw[f];exact eq_false (by omega)
   have hrel:uj N wr (.int .i64 q) (.string (tens.extract r (r+1)++s)) wr:=⟨q,_,rfl,rfl,by rw[hd,i,f,ByteArray.data_append,Array.toList_append,a];simp,by omega,rfl⟩
   have c:=Lib.hid hrel
   have p:=Lib.hid o
   unfold tens at c j
   clear hrel hd i hr m f a h
   go_wp2_with fail
   all_goals go_roundw
   all_goals first|exact c.out|(have:=p.out;simp[intOf];omega)
  have l:((9:Int)<(n:Int))=False:=eq_false (by omega)
  have k:n<10:=by omega
  obtain⟨D,f⟩:∃D,tens.extract n (n+1)=D:=⟨_,rfl⟩
  have a:D.data.toList=[UInt8.ofNat (48+n)]:=by rw[←f];exact zy n k
  have h:D.size=1:=by rw[show D.size=D.data.toList.length by rw[Array.length_toList];rfl,a];rfl
  have j:(9223372036854775807<(tens.extract n (n+1)).size+s.size)=False:=by rw[f];exact eq_false (by omega)
  have g:tens.extract n (n+1)++s=⟨(Lib.decDigits N).toArray⟩:=by
   refine ByteArray.ext (Array.toList_inj.1 ?_)
   rw[hd,Lib.decDigits_one k,f,ByteArray.data_append,Array.toList_append,a]
  have b:=Lib.hid g
  unfold tens at b j
  clear g hd f a h
  go_wp2_with fail
  all_goals go_ret
  all_goals exact⟨by rw[b.out];rfl,rfl⟩
theorem kQ(n:Int)(h0:-9223372036854775808<n)(h1:n≤9223372036854775807)(w:World):
  Calls Tryz.prog 120 #[.int .i64 n] w fun e w'=>e= .returned (.string ⟨(Lib.itoa n).toArray⟩)∧w=w':=by
 by_cases g:n<0
 ·have a:Lib.itoa n=45::Lib.decDigits n.natAbs:=by unfold Lib.itoa;rw[if_pos g]
  obtain⟨m,j⟩:∃m:Nat,n.natAbs=m:=⟨_,rfl⟩
  rw[j]at a
  have q:IntKind.i64.wrap (-n)=(m:Int):=by rw[IntWalk.i64_in _ (by omega)];omega
  have k:(n<0)=True:=eq_true g
  have l:(n==(m:Int))=false:=by rw[beq_eq_false_iff_ne];omega
  have c:=uc (n:=m) (by omega)
  have h:=nj m (by omega) w
  obtain⟨s,hs⟩:∃s:ByteArray,(⟨(Lib.decDigits m).toArray⟩:ByteArray)=s:=⟨_,rfl⟩
  have o:s.size≤20:=by rw[←hs];simpa[ByteArray.size]using c
  rw[hs]at h
  have p:(9223372036854775807<1+s.size)=False:=eq_false (by omega)
  have b:(⟨#[45]⟩:ByteArray)++s=⟨(Lib.itoa n).toArray⟩:=by
   refine ByteArray.ext (Array.toList_inj.1 ?_)
   rw[a,←hs,ByteArray.data_append,Array.toList_append];rfl
  have i:=Lib.hid h
  have f:=Lib.hid b
  clear h b hs a j c g
  go_enter Tryz.func120,Tryz.ntmps120
  go_wp2_with fail
  refine i.out.mono ?_
  rintro e r ⟨rfl,rfl⟩
  go_wp2_with fail
  go_ret
  exact⟨by rw[f.out];rfl,rfl⟩
 obtain⟨m,rfl⟩:∃m:Nat,n=m:=⟨n.toNat,by omega⟩
 have a:Lib.itoa (m:Int)=Lib.decDigits m:=by unfold Lib.itoa;rw[if_neg g];simp
 rw[a]
 exact nj m (by omega) w
def nZ(b:ByteArray)(w:World)(nV iV:Value)(wr:World):Prop:=
 ∃(k m:Nat),iV= .int .i64 k∧nV= .int .i64 m∧k≤b.size∧Lib.decFrom 0 (b.data.toList.take k)=some m∧m<10^k∧wr=w
theorem li:∀(l:List UInt8) (acc k:Nat) (b:UInt8),l[k]?=some b→Lib.digitVal b=none→Lib.decFrom acc l=none
 | [],_,_,_,h,_=>by simp at h
 |c::l,acc,0,b,h,hb=>by
  simp at h;subst h
  rw[Lib.decFrom,hb]
 |c::l,acc,k+1,b,h,hb=>by
  rw[Lib.decFrom]
  cases hc:Lib.digitVal c with
  |none=>rfl
  |some d=>exact li l _ k b (by simpa using h) hb
theorem un{b:UInt8}(h0:48≤b.toNat)(h1:b.toNat≤57):Lib.digitVal b=some (b.toNat-48):=by unfold Lib.digitVal;rw[if_pos ⟨h0,h1⟩]
theorem nk{b:UInt8}(h:b.toNat<48∨57<b.toNat):Lib.digitVal b=none:=by unfold Lib.digitVal;rw[if_neg (by omega)]
theorem pV{b:ByteArray}{k:Nat}(h:k<b.size):b.data.toList[k]?=some (b[k]'h):=by
 have:b.size=b.data.size:=rfl
 rw[Array.getElem?_toList,Array.getElem?_eq_getElem (by omega)];rfl
def GL(l:List UInt8)(w:World)(e:Ending)(w':World):Prop:=∃n:Int,e= .returned (.tuple #[.int .i64 n, .bool (bi l).isSome])∧(∀m,bi l=some m→n=m)∧aE n∧w=w'
theorem gQ{x y:ByteArray}(h:x.data.toList=y.data.toList):x=y:=by
 cases x;cases y
 exact congrArg ByteArray.mk (Array.toList_inj.1 h)
theorem cX(l:List UInt8):(ah l).size=l.length:=by simp[ah,ByteArray.size]
theorem wA{sep:List UInt8}{A:List (List UInt8)}{j:Nat}(hj:j<A.length):Lib.joinTail sep (A.take (j+1))=Lib.joinTail sep (A.take j)++(sep++A[j]):=by
 rw[List.take_succ_eq_append_getElem hj]
 simp only[Lib.joinTail,List.map_append,List.flatten_append,List.map_cons,List.map_nil,List.flatten_cons,List.flatten_nil,List.append_nil]
theorem wz(sep:List UInt8)(A:List (List UInt8))(j:Nat)(hs:sep.length≤4):(Lib.joinTail sep (A.take j)).length≤(A.map (fun x=>x.length+4)).sum:=by
 refine Nat.le_trans (ww hs _) ?_
 rw[List.map_take]
 have:=List.take_append_drop j (A.map (fun x=>x.length+4))
 have a:=congrArg List.sum this
 rw[List.sum_append]at a
 omega
theorem nv{A:List (List UInt8)}{j:Nat}(hj:j<A.length):A[j].length≤(A.map (fun x=>x.length+4)).sum:=by
 have a:=wz [] A (j+1) (by decide)
 rw[wA hj]at a
 rw[List.length_append,List.nil_append]at a
 omega
theorem rP{S:Nat→Prop}(a:Option Addr)(c:Nat)(A:List (List UInt8))(mark:ByteArray)(w:World)(h:TArgs S w a c A)(hm:mark.size≤4):
  Calls Tryz.prog 166 #[.slice a A.length c, .string mark] w fun e w'=>e= .returned (.string (ah (Lib.joinTail mark.data.toList A)))∧w=w':=by
 have E:=h.sl.le
 rw[List.length_map]at E
 have D:mark.data.toList.length=mark.size:=by rw[Array.length_toList];rfl
 have t:=Lib.hid h
 clear h
 go_enter Tryz.func166,Tryz.ntmps166
 go_wp2_with fail
 go_loopw [5,6] (fun sv i wr=>∃j:Nat,i= .int .i64 j∧j≤A.length∧sv= .string (ah (Lib.joinTail mark.data.toList (A.take j)))∧wr=w) (fun _ i _=>A.length-(intOf i).toNat)
 case atStart=>exact⟨0,rfl,Nat.zero_le _,rfl,rfl⟩
 case round=>
  obtain⟨j,rfl,F,rfl,rfl⟩:=hrel
  by_cases f:j<A.length
  ·obtain⟨b,o,rfl,-,-,vs,r,s,x⟩:=t.out.sl.at1 j (by rw[List.length_map];exact f)
   obtain⟨rfl,-⟩:=x
   have q:=s 0 (by rw[r];exact Nat.one_pos)
   simp only[List.getElem_map,List.getElem_cons_zero,Nat.add_zero,show strE.size=1 from rfl,Nat.mul_one]at q
   have y:=wz mark.data.toList A j (by omega)
   have C:=nv f
   have n:=t.out.sz
   have l:(ah (Lib.joinTail mark.data.toList (A.take j))++mark)++ah A[j]=ah (Lib.joinTail mark.data.toList (A.take (j+1))):=by
    rw[wA f,←dl,←dl,zC]
    exact ByteArray.append_assoc
   have u:=cX (Lib.joinTail mark.data.toList (A.take j))
   have v:=cX A[j]
   obtain⟨B,g⟩:∃B,ah (Lib.joinTail mark.data.toList (A.take j))=B:=⟨_,rfl⟩
   obtain⟨X,k⟩:∃X,ah A[j]=X:=⟨_,rfl⟩
   rw[g]at l u
   rw[k]at l v q
   rw[g]
   have G:(9223372036854775807<B.size+mark.size)=False:=eq_false (by omega)
   have H:(9223372036854775807<B.size+mark.size+X.size)=False:=eq_false (by omega)
   have p:=Lib.hid l
   clear l s r g k u v y C n
   go_wp2_with fail
   go_roundw
   case rel=>exact⟨j+1,by go_num,f,congrArg Value.string p.out,by trivial⟩
   case measure=>simp[intOf];omega
  have m:j=A.length:=by omega
  subst m
  have z:=Lib.hid (show ah (Lib.joinTail mark.data.toList (A.take A.length))=ah (Lib.joinTail mark.data.toList A)by rw[List.take_length])
  go_wp2_with fail
  go_ret
  exact⟨congrArg (fun b=>Ending.returned (.string b)) z.out,rfl⟩
theorem G2(n lo hi:Int)(w:World):
  Calls Tryz.prog 162 #[.int .i64 n, .int .i64 lo, .int .i64 hi] w fun e w'=>e= .returned (.bool (decide (lo≤n)&&decide (n≤hi)))∧w=w':=by
 go_enter Tryz.func162,Tryz.ntmps162
 go_wp2
 all_goals go_ret
 all_goals exact⟨aF (by simp;omega),rfl⟩
theorem yA(n:Int)(w:World):
  Calls Tryz.prog 114 #[.int .i64 n] w fun e w'=>e= .returned (.bool (decide (1≤n)&&decide (n≤3)))∧w=w':=by
 have hw:=G2 n 1 3
 go_enter Tryz.func114,Tryz.ntmps114
 go_wp2_with fail
 refine(hw _).mono ?_
 rintro e w2 ⟨rfl,rfl⟩
 go_wp2_with fail
 go_ret
 exact⟨rfl,rfl⟩
def zG(L:List (List UInt8))(W5:World)(out i:Value)(wr:World):Prop:=
 ∃q:Nat,i= .int .i64 q∧q≤L.length∧OwnSt3 wr W5.heap.size out ((L.take q).map ah)∧Below W5.heap.size W5 wr
def mq(w:World)(b:List UInt8)(e:Ending)(w':World):Prop:=e= .returned (.string (ah b))∧Below w.heap.size w w'
theorem yz{S1 S2:Nat→Prop}(k:Nat)(hk:k=1∨k=2∨k=3)(a1 a2:Option Addr)(c1 c2:Nat)(s:Sg)(t:List Int)(hok:aH s=true)(hl:t.length≤60):
  ∀(N p:Nat) (r:List Int) (w:World),t.length-p≤N→aJ s 1 (t.drop p)=some r→Sign S1 w a1 c1 s→Ints S2 w a2 c2 t→
   Calls Tryz.prog 116 #[.slice a1 s.length c1, .int .i64 k, .slice a2 t.length c2, .int .i64 p] w (mq w (txt k s (bR s (t.drop p)))):=by
 intro N
 induction N with
 |zero=>
  intro p r w hN h
  obtain⟨hp,-,-⟩:=ic (k:=0) h
  omega
 |succ N ih=>
 intro p r w hN G T h2
 have m1:=T.le
 have m2:=h2.le
 obtain⟨hp,hc,ac⟩:=ic (k:=0) G
 obtain⟨b2,o2,cv,-,q2,r2⟩:=h2.int p hp
 by_cases hn:t[p]<0
 ·rw[xR G hp hn,kc hn]
  subst cv
  obtain⟨x,hx⟩:∃x,t[p]=x:=⟨_,rfl⟩
  rw[hx]at q2 hn r2 hc⊢
  obtain⟨v,hv⟩:∃v:Nat,x=-(v:Int)-1:=⟨(-x-1).toNat,by omega⟩
  subst hv
  have eB:v<12:=by simp[br]at hc;omega
  have d5:decide (-(v:Int)-1<0)=true:=by simp;omega
  have f6:IntKind.i64.wrap (-(-(v:Int)-1))=(v:Int)+1:=by rw[IntWalk.i64_in _ (by omega)];omega
  have f7:IntKind.i64.wrap ((v:Int)+1-1)=(v:Int):=by rw[IntWalk.i64_in _ (by omega)];omega
  have hd:=nj v (by omega)
  have bb:=lj (v:=v) (by omega)
  have cO:(-(-(v:Int)-1)-1).toNat=v:=by omega
  rw[cO]
  obtain⟨D,hD⟩:∃D:ByteArray,(⟨(Lib.decDigits v).toArray⟩:ByteArray)=D:=⟨_,rfl⟩
  have fn:D.size≤2:=by rw[←hD];exact bb
  have s1:(9223372036854775807<1+D.size)=False:=eq_false (by omega)
  have hR:=Lib.hid (show(⟨#[120]⟩:ByteArray)++D=ah (120::Lib.decDigits v)by rw[←hD,show(120::Lib.decDigits v)=[120]++Lib.decDigits v from rfl,←dl];rfl)
  rw[hD]at hd
  clear G hc ac hx ih T h2 hn hok bb hD cO
  go_enter Tryz.func116,Tryz.ntmps116
  go_wp2_with (go_at_call 120;(with_reducible refine(hd _).mono ?_);rintro e w2 ⟨rfl,rfl⟩)
  go_ret
  exact⟨congrArg (fun b=>Ending.returned (.string b)) hR.out, .refl _ _⟩
 rw[Nat.zero_add]at ac
 have B:=fun W (hb:Below w.heap.size w W)=>F5 a1 a2 c1 c2 s t p r W (T.below hb) (h2.below hb) hok G hl
 obtain⟨g1,-,-,-⟩:=xP G
 have bf:=xS s t
 rw[List.getD_eq_getElem?_getD,List.getElem?_eq_getElem hp,Option.getD_some]at g1
 have cx:t.getD p 0=t[p]:=by rw[List.getD_eq_getElem?_getD,List.getElem?_eq_getElem hp];rfl
 simp only[cx]at B
 obtain⟨c3,c4,aU⟩:=rx G (by omega)
 have aO:=jl G
 obtain⟨u,hu⟩:∃u,bR s (t.drop p)=u:=⟨_,rfl⟩
 rw[hu]at g1 c3 c4 aU aO⊢
 have Z:aw s u=true:=oo hok aO.2.1 (by omega)
 have l:u.headD 0=t[p]:=by
  have T:=aO.1
  rw[List.drop_eq_getElem_cons hp]at T
  cases cU:u with
  |nil=>rw[cU]at aU;simp at aU
  |cons y z=>rw[cU,List.cons_append]at T;rw[List.headD_cons];exact(List.cons.inj T).1.symm
 obtain⟨x,hx⟩:∃x,t[p]=x:=⟨_,rfl⟩
 rw[hx]at q2 hn hc ac g1 l
 simp only[hx]at B
 obtain⟨n,rfl⟩:∃n:Nat,x=(n:Int):=⟨x.toNat,by omega⟩
 have cN:n<s.length:=by
  simp only[br,Bool.or_eq_true,decide_eq_true_eq]at hc
  omega
 have ba:=(fU hok hc).2
 obtain⟨m,hm⟩:∃m,ar s (n:Int)=m:=⟨_,rfl⟩
 rw[hm]at ac g1 ba
 simp only[hm]at B
 have S:=bf m (p+1) r (by omega) ac
 have R:=rz s t.length m (t.drop (p+1))
 have b5:txt k s u=bJ k s (n:Int) ((bG s m (t.drop (p+1))).map (txt k s)):=by
  rw[ke Z (by rw[l];omega),l,g1]
 have bm:(bG s m (t.drop (p+1))).length=m:=by
  obtain⟨f1,-,-⟩:=fg Z
  rw[g1]at f1;rw[f1,l,hm]
 have b4:(((bG s m (t.drop (p+1))).map (txt k s)).map (fun x=>x.length+4)).sum≤10000:=by
  obtain⟨f1,f2,f3⟩:=fg Z
  rw[g1]at f1 f2 f3
  have d6:=congrArg List.length f2
  rw[List.length_cons]at d6
  have h2:=sk (L:=(bG s m (t.drop (p+1))).map (txt k s)) (c:=4) (M:=bG s m (t.drop (p+1))) (by simp) (fun i h3 h4=>by
   rw[List.getElem_map]
   exact iK _ (f3 _ (List.getElem_mem h4)) (Nat.le_refl _))
  omega
 have a9:n=0→m=2:=fun e=>by subst e;rw[←hm];exact mS hok
 obtain⟨bS,oS,d2,-,y0,-,-,-⟩:=T.sym n cN
 rw[lZ cN]at y0
 have cH:=od hok (n:Int)
 have cq:=cX (aM s (n:Int))
 obtain⟨P,hP⟩:∃P,fk s t.length m (t.drop (p+1))=P:=⟨_,rfl⟩
 rw[hP]at S R
 simp only[hP]at B
 obtain⟨L,hL⟩:∃L,(bG s m (t.drop (p+1))).map (txt k s)=L:=⟨_,rfl⟩
 have cp:L.length=m:=by rw[←hL,List.length_map,bm]
 have au:∀j,j<m→∃z rest,P[j]?=some ((z:Nat):Int)∧aJ s 1 (t.drop z)=some rest∧L[j]?=some (txt k s (bR s (t.drop z)))∧p<z:=fun j hj=>by
  obtain⟨z,rest,e1,e2,e3,e4⟩:=S j hj
  exact⟨z,rest,e1,e2,by rw[←hL,List.getElem?_map,e3];rfl,by omega⟩
 rw[hL]at b5 b4
 have bl:=fun(W:World) (hb:Below w.heap.size w W) p' r' (f4:p<p') (hs:aJ s 1 (t.drop p')=some r')=>ih p' r' W (by omega) hs (T.below hb) (h2.below hb)
 have bq:=Lib.hid B
 have b0:=Lib.hid bl
 have bW:=Lib.hid au
 have I:=Lib.hid b5
 have Y:=Lib.hid b4
 have U:=Lib.hid cp
 have V:=Lib.hid R
 have ao:=Lib.hid a9
 have d5:decide ((n:Int)<0)=false:=by simp
 have cr:=Lib.hid cq
 have cJ:=Lib.hid cH
 have ed:=Lib.hid (fun(W:World) (hb:Below w.heap.size w W)=>cell_later hb q2)
 obtain⟨C,bw⟩:∃C,ah (aM s (n:Int))=C:=⟨_,rfl⟩
 rw[bw]at y0
 have E:=Lib.hid bw
 have mL:L.length≤3:=by omega
 have mP:P.length≤3:=by omega
 subst cv d2
 clear G hc ac hx ih T h2 hn B g1 bf cx c3 c4 aU aO hu Z l hm ba S R b5 bm b4 cp hP bl r2 au hL a9 cq cH bw
 have aq:Below w.heap.size w w.drew:=Below.drew (.refl _ _)
 have b6:=cell_later aq q2
 have cb:=cell_later aq y0
 go_enter Tryz.func116,Tryz.ntmps116
 go_upto_region 3 with fail
 go_cut [9,10]from 13 (fun s9 em wx=>∃(aP:Option Addr) (cP:Nat),s9= .string C∧em= .slice aP P.length cP∧Ints (fun _=>True) wx aP cP P∧Below w.heap.size w wx)
 case first=>
  go_region_with ((go_at_call 165;(with_reducible refine(bq.out _ aq).mono ?_);rintro e w2 ⟨v2,rfl,eb,bN⟩;obtain⟨aP,cP,rfl,dB⟩:=OwnI.ints eb;have gl:=cell_later bN b6;have gw:=cell_later bN cb))
  all_goals go_simp
  all_goals go_wp2_with fail
  all_goals go_meet
  all_goals exact⟨_,_,rfl,rfl,dB.any,aa aq bN⟩
 case rest=>
  obtain⟨aP,cP,rfl,rfl,hP,ay⟩:=hcut
  have gc:=hP.le
  by_cases f0:m=0
  ·have ec:P.length=0:=by have:=V.out;omega
   have cm:L=[]:=List.length_eq_zero_iff.1 (by have:=U.out;omega)
   have hR:=Lib.hid (show C=ah (txt k s u)by
    rw[I.out,cm,←E.out]
    congr 1
    unfold bJ
    have:¬n=0:=fun e=>by have:=ao.out e;omega
    rcases hk with rfl|rfl|rfl
    ·rw[if_pos rfl];simp[Lib.joinTail]
    ·rw[if_neg (by decide),if_pos rfl,if_neg (by omega),if_pos rfl]
    rw[if_neg (by decide),if_neg (by decide),if_pos rfl])
   have ab:=Lib.hid ay
   clear hP ay cm q2 b6 y0 cb
   go_wp2_with fail
   go_ret
   exact⟨congrArg (fun b=>Ending.returned (.string b)) hR.out,ab.out⟩
  have ec:((P.length:Int)==0)=false:=by rw[beq_eq_false_iff_ne];have:=V.out;omega
  have d0:=Lib.hid (fun(W:World) (hb:Below wc.heap.size wc W)=>hP.below hb)
  have aj:=Lib.hid ay
  clear hP ay q2 b6 y0 cb aq
  go_wp2_with fail
  go_loopw [11,12] (fun out i wr=>zG L wc out i wr) (fun _ i _=>P.length-(intOf i).toNat)
  case atStart=>exact⟨0,rfl,Nat.zero_le _,OwnL.nil _ _ _ _ _, .refl _ _⟩
  case round=>
   obtain⟨q,rfl,hq,F,o⟩:=hrel
   have d1:P.length=L.length:=by rw[V.out,U.out]
   by_cases cy:q<P.length
   ·have ch:=aa aj.out o
    obtain⟨z,rest,e1,e2,e3,e4⟩:=bW.out q (by have:=V.out;omega)
    obtain⟨bP,oP,rfl,-,y2,-⟩:=(d0.out _ o).int q cy
    rw[List.getElem?_eq_getElem cy]at e1
    rw[Option.some.inj e1]at y2
    have O:=b0.out _ ch z rest (by omega) e2
    have aT:q<L.length:=by omega
    obtain⟨X,hX⟩:∃X,txt k s (bR s (t.drop z))=X:=⟨_,rfl⟩
    rw[hX]at O e3
    rw[List.getElem?_eq_getElem aT]at e3
    have bA:L[q]=X:=Option.some.inj e3
    have cu:(ah X).size≤aB:=by
     rw[cX,←bA]
     have T:=nv aT
     have h2:=Y.out
     unfold aB;omega
    have av:∀w1,Below wr.heap.size wr w1→∃v' w',RowKit.Hid ((Builtin.append_ #[37,37] 37 #[_, .slice (some ⟨w1.heap.size,0,none⟩) 1 1]).run Tryz.prog (w1.alloc (.cells #[.string (ah X)] 9))= .ok v' w')∧RowKit.Hid (zG L wc v' (.int .i64 ((q:Int)+1)) w'):=fun w1 T=>by
     have cT:OwnSt3 w1 wc.heap.size _ ((L.take q).map ah):=OwnL.call F T
     have bt:=aa o T
     obtain⟨v',w',f1,f2,f3,-⟩:=cT.push (P:=Tryz.prog) (t:=37) (ty:=37) Tryz.underlying37 qI rfl (vs:=[.string (ah X)]) (x:=ah X) ⟨rfl,cu⟩ (by rw[List.length_map,List.length_take];omega) (by rw[List.length_map,List.length_take];unfold aB;omega) bt.size
     have cB:=OwnL.lt cT
     refine⟨v',w',Lib.hid f1,Lib.hid ⟨q+1,rfl,by omega,?_,bt.grown f3 bt.size (fun i e=>(cB i e).1)⟩⟩
     rw[List.take_succ_eq_append_getElem aT,bA,List.map_append]
     exact f2
    have aR:=Lib.hid av
    have d4:=Lib.hid O
    clear ch e1 e2 e3 O hX bA cu av F o aT d1
    go_wp2_with (first
     |(go_at_call 116;(with_reducible refine d4.out.mono ?_);rintro e w8 ⟨rfl,d3⟩;obtain⟨v',w',b3,b1⟩:=aR.out w8 d3)
     |(at_builtin;refine bo rfl _ _ _ rfl rfl rfl b3.out ?_))
    go_roundw
    case rel=>
     exact b1.out
    case measure=>simp[intOf];omega
   have ee:q=L.length:=by omega
   subst ee
   rw[List.take_length]at F
   obtain⟨aL,cL,rfl,H⟩:=OwnL.sl F
   have gk:=ed.out _ (aa aj.out o)
   have ab:=Lib.hid (aa aj.out o)
   have hT:TArgs _ wr aL cL L:=⟨H,mL,Y.out⟩
   have mA:=H.le
   rw[List.length_map]at mA
   have ev:C.size≤8:=by have:=cJ.out;have:=cr.out;rw[←E.out];omega
   have K:∀b7:List UInt8,b7.length≤4→(ah (Lib.joinTail b7 L)).size≤10000:=fun b7 h=>by
    rw[cX];exact Nat.le_trans (ww h L) Y.out
   have Q:L≠ []:=fun e=>by have:=U.out;rw[e]at this;simp at this;omega
   rw[List.length_map]
   rcases hk with rfl|rfl|rfl
   ·have cj:=rP aL cL L ⟨#[32]⟩ wr hT (by decide)
    have hJ:=K [32] (by decide)
    have f:C++ah (Lib.joinTail [32] L)=ah (txt 1 s u):=by
     rw[I.out,←E.out,dl]
     unfold bJ;rw[if_pos rfl]
    obtain⟨J,g⟩:∃J,ah (Lib.joinTail [32] L)=J:=⟨_,rfl⟩
    rw[show(⟨#[32]⟩:ByteArray).data.toList=[32]from rfl,g]at cj
    rw[g]at hJ f
    have s1:(9223372036854775807<C.size+J.size)=False:=eq_false (by omega)
    have hR:=Lib.hid f
    have ag:=Lib.hid cj
    clear hT H F o K Q f cj g
    go_wp2_with fail
    (with_reducible refine ag.out.mono ?_)
    rintro e w9 ⟨rfl,rfl⟩
    go_wp2_with fail
    go_ret
    exact⟨congrArg (fun b=>Ending.returned (.string b)) hR.out,ab.out⟩
   ·by_cases ea:n=0
    ·subst ea
     have cn:L.length=2:=by rw[U.out,ao.out rfl]
     obtain⟨x0,x1,dO⟩:∃x0 x1,L=[x0,x1]:=by
      match L,cn with
      | [a,b],_=>exact⟨a,b,rfl⟩
     have cW:=nv (A:=L) (j:=0) (by omega)
     have c0:=nv (A:=L) (j:=1) (by omega)
     have ef:=Y.out
     subst dO
     simp only[List.getElem_cons_zero,List.getElem_cons_succ]at cW c0
     obtain⟨bL,oL,rfl,-,-,vs,e1,e2,e3⟩:=H.at1 0 (by simp)
     obtain⟨e8,gf,he,-,-,gs,f1,f2,f3⟩:=H.at1 1 (by simp)
     cases he
     obtain⟨rfl,-⟩:=e3
     obtain⟨rfl,-⟩:=f3
     have z0:=e2 0 (by rw[e1];exact Nat.one_pos)
     have z1:=f2 0 (by rw[f1];exact Nat.one_pos)
     simp only[List.map_cons,List.getElem_cons_succ,List.getElem_cons_zero,Nat.add_zero,show strE.size=1 from rfl,Nat.mul_one]at z0 z1
     have u0:=cX x0
     have u1:=cX x1
     have f:((((⟨#[40]⟩:ByteArray)++ah x0)++⟨#[32,45,62,32]⟩)++ah x1)++⟨#[41]⟩=ah (txt 2 s u):=by
      rw[I.out]
      have:bJ 2 s ((0:Nat):Int) [x0,x1]=[40]++x0++[32,45,62,32]++x1++[41]:=by
       simp[bJ,Lib.join_cons,Lib.joinTail]
      rw[this,←dl,←dl,←dl,←dl];rfl
     obtain⟨X0,cs⟩:∃X0,ah x0=X0:=⟨_,rfl⟩
     obtain⟨X1,ct⟩:∃X1,ah x1=X1:=⟨_,rfl⟩
     rw[cs]at u0 z0 f
     rw[ct]at u1 z1 f
     have s1:(9223372036854775807<1+X0.size)=False:=eq_false (by omega)
     have s2:(9223372036854775807<1+X0.size+4)=False:=eq_false (by omega)
     have s3:(9223372036854775807<1+X0.size+4+X1.size)=False:=eq_false (by omega)
     have s4:(9223372036854775807<1+X0.size+4+X1.size+1)=False:=eq_false (by omega)
     have hd:=Below.drew (.refl wr.heap.size wr)
     have gI:=cell_later hd z0
     have gP:=cell_later hd z1
     have hR:=Lib.hid f
     clear hT H F o K Q f e1 e2 f1 f2 cs ct u0 u1 cW c0 ef cn
     go_wp2_with fail
     go_region
     all_goals go_wp2_with fail
     all_goals go_ret
     all_goals exact⟨congrArg (fun b=>Ending.returned (.string b)) hR.out,aa ab.out hd⟩
    have ez:((n:Int)==0)=false:=by rw[beq_eq_false_iff_ne];omega
    have cj:=rP aL cL L ⟨#[44,32]⟩ wr hT (by decide)
    have hJ:=K [44,32] (by decide)
    have bu:Lib.joinTail [44,32] L=[44,32]++Lib.join L [44,32]:=by
     cases L with
     |nil=>exact(Q rfl).elim
     |cons x L=>rw[Lib.join_cons];simp[Lib.joinTail]
    have bv:=cX (Lib.joinTail [44,32] L)
    obtain⟨J,g⟩:∃J,ah (Lib.joinTail [44,32] L)=J:=⟨_,rfl⟩
    have cl:J.extract 2 J.size=ah (Lib.join L [44,32]):=by
     rw[←g,bu]
     apply gQ
     rw[ByteArray.data_extract,Array.toList_extract,List.extract_eq_take_drop,zD,zD,cX]
     simp
    have f:((C++(⟨#[40]⟩:ByteArray))++J.extract 2 J.size)++⟨#[41]⟩=ah (txt 2 s u):=by
     rw[I.out,←E.out,cl]
     have:bJ 2 s (n:Int) L=aM s (n:Int)++[40]++Lib.join L [44,32]++[41]:=by
      unfold bJ
      rw[if_neg (by decide),if_pos rfl,if_neg (by omega),if_neg Q]
      simp
     rw[this,←dl,←dl,←dl];rfl
    rw[show(⟨#[44,32]⟩:ByteArray).data.toList=[44,32]from rfl,g]at cj
    rw[g]at hJ bv
    have es:2≤J.size:=by rw[bv,bu];simp
    have fo:(2:Int)≤(J.size:Int):=by omega
    have s1:(9223372036854775807<C.size+1)=False:=eq_false (by omega)
    have s2:(9223372036854775807<C.size+1+(J.extract 2 J.size).size)=False:=eq_false (by rw[ByteArray.size_extract];omega)
    have s3:(9223372036854775807<C.size+1+(J.extract 2 J.size).size+1)=False:=eq_false (by rw[ByteArray.size_extract];omega)
    have s4:(9223372036854775807<C.size+1+(J.size-2))=False:=eq_false (by omega)
    have s5:(9223372036854775807<C.size+1+(J.size-2)+1)=False:=eq_false (by omega)
    have hR:=Lib.hid f
    have ag:=Lib.hid cj
    clear hT H F o K Q f cj g cl bu bv
    go_wp2_with fail
    (with_reducible refine ag.out.mono ?_)
    rintro e w9 ⟨rfl,rfl⟩
    go_wp2_with fail
    go_ret
    exact⟨congrArg (fun b=>Ending.returned (.string b)) hR.out,ab.out⟩
   have cj:=rP aL cL L ⟨#[32]⟩ wr hT (by decide)
   have hJ:=K [32] (by decide)
   have f:(((⟨#[91]⟩:ByteArray)++C)++ah (Lib.joinTail [32] L))++⟨#[93]⟩=ah (txt 3 s u):=by
    rw[I.out,←E.out]
    have:bJ 3 s (n:Int) L=[91]++aM s (n:Int)++Lib.joinTail [32] L++[93]:=by
     unfold bJ
     rw[if_neg (by decide),if_neg (by decide),if_neg Q]
     simp
    rw[this,←dl,←dl,←dl];rfl
   obtain⟨J,g⟩:∃J,ah (Lib.joinTail [32] L)=J:=⟨_,rfl⟩
   rw[show(⟨#[32]⟩:ByteArray).data.toList=[32]from rfl,g]at cj
   rw[g]at hJ f
   have s1:(9223372036854775807<1+C.size)=False:=eq_false (by omega)
   have s2:(9223372036854775807<1+C.size+J.size)=False:=eq_false (by omega)
   have s3:(9223372036854775807<1+C.size+J.size+1)=False:=eq_false (by omega)
   have hR:=Lib.hid f
   have ag:=Lib.hid cj
   clear hT H F o K Q f cj g
   go_wp2_with fail
   (with_reducible refine ag.out.mono ?_)
   rintro e w9 ⟨rfl,rfl⟩
   go_wp2_with fail
   go_ret
   exact⟨congrArg (fun b=>Ending.returned (.string b)) hR.out,ab.out⟩
theorem Gc{S1 S2:Nat→Prop}(a1 a2:Option Addr)(c1 c2:Nat)(s:Sg)(k:Int)(t:List Int)(w:World)(h1:Sign S1 w a1 c1 s)(h2:Ints S2 w a2 c2 t):
  Calls Tryz.prog 76 #[.slice a1 s.length c1, .int .i64 k, .slice a2 t.length c2] w fun e w'=>e= .returned (.tuple #[.string (ah (d8 s k t).1), .int .i64 (d8 s k t).2])∧Below w.heap.size w w':=by
 have v:=h1.le
 have x:=h2.le
 have l:=Lib.hid (oy a1 a2 c1 c2 s t w h1 h2)
 cases hx:aw s t with
 |false=>
  rw[hx]at l
  have h:=Lib.hid (show d8 s k t=([],1)by rw[d8,if_neg (by simp[hx])])
  clear h1 h2 hx
  go_enter Tryz.func76,Tryz.ntmps76
  go_wp2_with fail
  refine l.out.mono ?_
  rintro e m ⟨rfl,a⟩
  have b:Below w.heap.size w m:=a.below _
  clear a
  go_wp2_with fail
  go_ret2
  rw[h.out]
  exact⟨rfl,b⟩
 |true=>
 rw[hx]at l
 have o:=Lib.hid (fun W=>yA k W)
 cases f:(decide (1≤k)&&decide (k≤3))with
 |false=>
  rw[f]at o
  have h:=Lib.hid (show d8 s k t=([],7)by rw[d8,if_pos hx,if_neg (by simp[f])])
  clear h1 h2 hx f
  go_enter Tryz.func76,Tryz.ntmps76
  go_wp2_with fail
  refine l.out.mono ?_
  rintro e m ⟨rfl,a⟩
  have b:Below w.heap.size w m:=a.below _
  clear a
  go_wp2_with fail
  refine(o.out _).mono ?_
  rintro e w2 ⟨rfl,rfl⟩
  go_wp2_with fail
  go_ret2
  rw[h.out]
  exact⟨rfl,b⟩
 |true=>
 rw[f]at o
 have i:d8 s k t=(txt k.toNat s t,0):=by rw[d8,if_pos hx,if_pos f]
 have h:=Lib.hid i
 have u:1≤k∧k≤3:=by simpa using f
 obtain⟨hs,-,r,g⟩:=bj hx
 obtain⟨n,rfl⟩:∃n:Nat,k=(n:Int):=⟨k.toNat,by omega⟩
 have j:bR s (t.drop 0)=t:=by
  rw[List.drop_zero];unfold bR;rw[g];simp
 have cw:=Lib.hid (fun W (q:Below w.heap.size w W)=>(show Calls Tryz.prog 116 #[.slice a1 s.length c1, .int .i64 n, .slice a2 t.length c2, .int .i64 0] W (mq W (txt n s t))by
  have:=yz n (by omega) a1 a2 c1 c2 s t hs r t.length 0 [] W (Nat.sub_le _ _) g (h1.below q) (h2.below q)
  rw[j]at this
  exact this))
 clear h1 h2 hx f u hs r g j i
 go_enter Tryz.func76,Tryz.ntmps76
 go_wp2_with fail
 refine l.out.mono ?_
 rintro e m ⟨rfl,a⟩
 have b:Below w.heap.size w m:=a.below _
 clear a
 have c:=Lib.hid b
 clear b
 go_wp2_with fail
 refine(o.out _).mono ?_
 rintro e w2 ⟨rfl,rfl⟩
 go_wp2_with fail
 (with_reducible refine(cw.out _ c.out).mono ?_)
 rintro e y ⟨rfl,p⟩
 go_wp2_with fail
 go_ret2
 rw[h.out]
 exact⟨rfl,aa c.out p⟩
end Go.Proofs.YtlejmeegkpdabaaGreatDoor
