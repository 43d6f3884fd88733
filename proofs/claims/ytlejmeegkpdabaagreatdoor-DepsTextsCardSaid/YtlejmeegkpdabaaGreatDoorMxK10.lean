/- The proof of a statement, some of its texts joined in build order: part K10. -/
import Derived.Test.YtlejmeegkpdabaaGreatDoorMxK1
import Derived.Test.YtlejmeegkpdabaaGreatDoorMxK2
import Derived.Test.YtlejmeegkpdabaaGreatDoorRows
set_option maxHeartbeats 400000
namespace Go.Proofs.YtlejmeegkpdabaaGreatDoor
open Go Go.RowKit
theorem sn{l1 l2:List Int}{k:Nat}(h1:k<l1.length)(h2:k<l2.length)(h:(l1[k] != l2[k])=true):l1≠l2:=by
 intro e;subst e;simp at h
theorem sr{l1 l2:List Int}{k:Nat}(h1:k<l1.length)(h2:k<l2.length)(ht:l1.take k=l2.take k)(h:(l1[k] != l2[k])=false):l1.take (k+1)=l2.take (k+1):=by
 rw[List.take_succ_eq_append_getElem h1,List.take_succ_eq_append_getElem h2,ht]
 simp at h;rw[h]
theorem sm{l1 l2:List Int}{k:Nat}(hl:l1.length=l2.length)(hk:¬k<l2.length)(ht:l1.take k=l2.take k):l1=l2:=by
 rw[List.take_of_length_le (by omega),List.take_of_length_le (by omega)]at ht;exact ht
theorem fR(n lo hi:Int)(w:World):
  Calls Tryz.prog 99 #[.int .i64 n, .int .i64 lo, .int .i64 hi] w fun e w'=>e= .returned (.bool (decide (lo≤n)&&decide (n≤hi)))∧w=w':=by
 go_enter Tryz.func99,Tryz.ntmps99
 go_wp2
 all_goals go_ret
 all_goals exact⟨aF (by simp;omega),rfl⟩
theorem fq(n lo hi:Int)(w:World):
  Calls Tryz.prog 64 #[.int .i64 n, .int .i64 lo, .int .i64 hi] w fun e w'=>e= .returned (.bool (decide (lo≤n)&&decide (n≤hi)))∧w=w':=by
 go_enter Tryz.func64,Tryz.ntmps64
 go_wp2
 all_goals go_ret
 all_goals exact⟨aF (by simp;omega),rfl⟩
theorem AN{S1 S2:Nat→Prop}(a1 a2:Option Addr)(c1 c2:Nat)(l1 l2:List Int)(w:World)(h1:Ints S1 w a1 c1 l1)(h2:Ints S2 w a2 c2 l2):
  Calls Tryz.prog 117 #[.slice a1 l1.length c1, .slice a2 l2.length c2] w fun e w'=>e= .returned (.bool (decide (l1=l2)))∧Drew w w':=by
 have r:=h1.le
 have s:=h2.le
 by_cases h:l1.length=l2.length
 ·have b:=Lib.hid h
  go_enter Tryz.func117,Tryz.ntmps117
  go_wp2
  clear h
  go_loopw [5] (fun i wr=>∃k:Nat,k≤l1.length∧i= .int .i64 k∧l1.take k=l2.take k∧Drew w wr) (fun i _=>l1.length-(intOf i).toNat)
  case atStart=>exact⟨0,by omega,rfl,rfl, .refl _⟩
  case round=>
   obtain⟨k,q,rfl,l,n,rfl⟩:=hrel
   have g:=Lib.hid l
   clear l
   have f:=b.out
   by_cases c:k<l1.length
   ·have a:k<l2.length:=by omega
    obtain⟨m,t,rfl,-,v,-⟩:=h1.int k c
    obtain⟨o,u,rfl,-,x,-⟩:=h2.int k a
    clear h1 h2 f
    go_wp2
    go_quiet (fail)
    all_goals go_wp2
    ·go_ret
     exact⟨aF (decide_eq_false (sn c a (by assumption))).symm, .mk2 _ _ _⟩
    exact⟨⟨k+1,by omega,by go_num,sr c a g.out (by assumption), .mk _ _⟩,by simp[intOf];omega⟩
   clear f
   have j:¬k<l2.length:=by have:=b.out;omega
   go_wp2
   go_ret
   exact⟨aF (decide_eq_true (sm b.out j g.out)).symm, .mk _ _⟩
 go_enter Tryz.func117,Tryz.ntmps117
 have p:=ku h
 go_wp2
 go_ret
 exact⟨aF (decide_eq_false (fun e=>h (by rw[e]))).symm, .refl _⟩
theorem sS{S1 S2:Nat→Prop}(a1 a2:Option Addr)(c1 c2:Nat)(l1 l2:List Int)(w:World)(h1:Ints S1 w a1 c1 l1)(h2:Ints S2 w a2 c2 l2):
  Calls Tryz.prog 90 #[.slice a1 l1.length c1, .slice a2 l2.length c2] w fun e w'=>e= .returned (.bool (decide (l1=l2)))∧Drew w w':=by
 have r:=h1.le
 have s:=h2.le
 by_cases h:l1.length=l2.length
 ·have b:=Lib.hid h
  go_enter Tryz.func90,Tryz.ntmps90
  go_wp2
  clear h
  go_loopw [13] (fun i wr=>∃k:Nat,k≤l1.length∧i= .int .i64 k∧l1.take k=l2.take k∧Drew w wr) (fun i _=>l1.length-(intOf i).toNat)
  case atStart=>exact⟨0,by omega,rfl,rfl, .refl _⟩
  case round=>
   obtain⟨k,q,rfl,l,n,rfl⟩:=hrel
   have g:=Lib.hid l
   clear l
   have f:=b.out
   by_cases c:k<l1.length
   ·have a:k<l2.length:=by omega
    obtain⟨m,t,rfl,-,v,-⟩:=h1.int k c
    obtain⟨o,u,rfl,-,x,-⟩:=h2.int k a
    clear h1 h2 f
    go_wp2
    go_quiet (fail)
    all_goals go_wp2
    ·go_ret
     exact⟨aF (decide_eq_false (sn c a (by assumption))).symm, .mk2 _ _ _⟩
    exact⟨⟨k+1,by omega,by go_num,sr c a g.out (by assumption), .mk _ _⟩,by simp[intOf];omega⟩
   clear f
   have j:¬k<l2.length:=by have:=b.out;omega
   go_wp2
   go_ret
   exact⟨aF (decide_eq_true (sm b.out j g.out)).symm, .mk _ _⟩
 go_enter Tryz.func90,Tryz.ntmps90
 have p:=ku h
 go_wp2
 go_ret
 exact⟨aF (decide_eq_false (fun e=>h (by rw[e]))).symm, .refl _⟩
theorem Dq{l:List Int}{x:Int}{k:Nat}(h:k<l.length)(h0:x∉l.take k)(hx:(l[k]==x)=false):x∉l.take (k+1):=by
 rw[List.take_succ_eq_append_getElem h,List.mem_append,not_or,List.mem_singleton]
 exact⟨h0,fun e=>by simp[e]at hx⟩
theorem Au{S:Nat→Prop}(a:Option Addr)(c:Nat)(l:List Int)(x:Int)(w:World)(h:Ints S w a c l):
  Calls Tryz.prog 205 #[.slice a l.length c, .int .i64 x] w fun e w'=>e= .returned (.bool (decide (x∈l)))∧w=w':=by
 have m:=h.le
 go_enter Tryz.func205,Tryz.ntmps205
 go_wp2
 go_loop [5] (fun i=>∃k:Nat,k≤l.length∧i= .int .i64 k∧x∉l.take k) (fun i=>l.length-(intOf i).toNat)
 case atStart=>exact⟨0,by omega,rfl,by simp⟩
 case round=>
  obtain⟨k,p,rfl,n⟩:=hrel
  have g:=Lib.hid n
  clear n
  by_cases f:k<l.length
  ·obtain⟨b,o,rfl,-,q,-⟩:=h.int k f
   clear h
   go_wp2
   ·go_ret
    have j:(l[k]==x)=true:=by assumption
    exact⟨aF (decide_eq_true (by simp at j;rw[←j];exact List.getElem_mem f)).symm,rfl⟩
   exact⟨⟨k+1,by omega,by go_num,Dq f g.out (by assumption)⟩,by simp[intOf];omega⟩
  go_wp2
  go_ret
  exact⟨aF (decide_eq_false (by have:=g.out;rwa[List.take_of_length_le (by omega)]at this)).symm,rfl⟩
theorem pE{S:Nat→Prop}(a:Option Addr)(c:Nat)(s:Sg)(n:Int)(w:World)(h:Sign S w a c s):
  Calls Tryz.prog 173 #[.slice a s.length c, .int .i64 n] w fun e w'=>e= .returned (.int .i64 (dv s n))∧w=w':=by
 have m:=h.le
 by_cases g:-12≤n∧n≤-1
 ·have hf:dv s n=0:=by rw[dv,if_pos g]
  have l:(decide (-12≤n)&&decide (n≤-1))=true:=by simp[g]
  have f:=Lib.hid hf
  clear hf g h
  go_enter Tryz.func173,Tryz.ntmps173
  go_wp2_with (go_at_call 99;refine(fR _ _ _ _).mono ?_;rintro e w' ⟨rfl,rfl⟩)
  go_ret
  exact⟨fd f.out.symm,rfl⟩
 have l:(decide (-12≤n)&&decide (n≤-1))=false:=by simp;omega
 by_cases i:0≤n∧n<s.length
 ·have hf:dv s n=(s[n.toNat]'(by omega)).2:=by
   rw[dv,if_neg g,if_pos i,List.getD_eq_getElem?_getD,List.getElem?_eq_getElem (by omega)];rfl
  have f:=Lib.hid hf
  have j:(decide (0≤n)&&decide (n≤(s.length:Int)-1))=true:=by simp;omega
  obtain⟨k,rfl⟩:=Int.eq_ofNat_of_zero_le i.1
  have p:k<s.length:=by omega
  obtain⟨b,o,rfl,-,-,q,-,-⟩:=h.sym k p
  clear hf h g
  go_enter Tryz.func173,Tryz.ntmps173
  go_wp2_with (go_at_call 99;refine(fR _ _ _ _).mono ?_;rintro e w' ⟨rfl,rfl⟩)
  go_ret
  exact⟨fd (f.out.symm),rfl⟩
 have hf:dv s n=-1:=by rw[dv,if_neg g,if_neg i]
 have f:=Lib.hid hf
 have j:(decide (0≤n)&&decide (n≤(s.length:Int)-1))=false:=by simp;omega
 clear hf h g i
 go_enter Tryz.func173,Tryz.ntmps173
 go_wp2_with (go_at_call 99;refine(fR _ _ _ _).mono ?_;rintro e w' ⟨rfl,rfl⟩)
 go_ret
 exact⟨fd f.out.symm,rfl⟩
theorem rB{S:Nat→Prop}(a:Option Addr)(c:Nat)(s:Sg)(n:Int)(w:World)(h:Sign S w a c s)(hc:br s n=true):
  Calls Tryz.prog 121 #[.slice a s.length c, .int .i64 n] w fun e w'=>e= .returned (.int .i64 (dv s n))∧w=w':=by
 have m:=h.le
 by_cases j:n<0
 ·have hf:dv s n=0:=by simp[br]at hc;rw[dv,if_pos (by omega)]
  have f:=Lib.hid hf
  clear hf h hc
  go_enter Tryz.func121,Tryz.ntmps121
  go_wp2
  go_ret
  exact⟨fd f.out.symm,rfl⟩
 have g:0≤n∧n<s.length:=by simp[br]at hc;omega
 have hf:dv s n=(s[n.toNat]'(by omega)).2:=by
  rw[dv,if_neg (by omega),if_pos g,List.getD_eq_getElem?_getD,List.getElem?_eq_getElem (by omega)];rfl
 have f:=Lib.hid hf
 obtain⟨k,rfl⟩:=Int.eq_ofNat_of_zero_le g.1
 have i:k<s.length:=by omega
 obtain⟨b,o,rfl,-,-,q,-,-⟩:=h.sym k i
 clear hf h hc
 go_enter Tryz.func121,Tryz.ntmps121
 go_wp2
 go_ret
 exact⟨fd f.out.symm,rfl⟩
def CI(s:Sg)(t:List Int)(k:Int)(w:World)(e:Ending)(w':World):Prop:=
 ∃d:Nat,e= .returned (.tuple #[.int .i64 (eJ s t k), .int .i64 d])∧d≤t.length-k.toNat∧(k<0→d=0)∧(eJ s t k≠-1→∀G,t.length-k.toNat≤G→d=dV s G (t.drop k.toNat))∧Drew w w'
def CJ(s:Sg)(t:List Int)(p m:Nat)(w:World)(deep next i:Value)(wr:World):Prop:=
 ∃(dn j:Nat) (nx:Int),j≤m∧i= .int .i64 j∧deep= .int .i64 dn∧next= .int .i64 nx∧EndInv s t (t.length-(p+1)) m p nx dn j∧Drew w wr
theorem CF{S:Nat→Prop}{a1 a2:Option Addr}{c1 c2:Nat}{s:Sg}{t:List Int}(hs:aH s=true)(pt ps pw:Addr)(M:Nat):
  ∀(k:Int) (w:World),(k=-1∨(0≤k∧k≤t.length∧t.length≤M+k.toNat))→Sign S w a1 c1 s→Ints S w a2 c2 t→
   w.cell? pt=some (.slice a2 t.length c2)→w.cell? ps=some (.slice a1 s.length c1)→
   w.cell? pw=some (.func (.func 172) #[] #[.pointer (some pt), .pointer (some ps), .pointer (some pw)])→
   Calls Tryz.prog 172 #[.int .i64 k, .pointer (some pt), .pointer (some ps), .pointer (some pw)] w (CI s t k w):=by
 induction M with
 |zero=>
  intro k w N A u q1 q2 q3
  have m2:=u.le
  have x:¬(0≤k∧k<t.length):=by omega
  have c:=qc s t k x
  have a:=Lib.hid c
  clear c
  by_cases h0:k<0
  ·go_enter Tryz.func172,Tryz.ntmps172
   go_wp2_with fail
   go_ret2
   exact⟨0,by rw[a.out];rfl,Nat.zero_le _,fun _=>rfl,fun h=>(h a.out).elim, .refl _⟩
  have h3:(t.length:Int)≤k:=by omega
  go_enter Tryz.func172,Tryz.ntmps172
  go_wp2_with fail
  go_ret2
  exact⟨0,by rw[a.out];rfl,Nat.zero_le _,fun _=>rfl,fun h=>(h a.out).elim, .refl _⟩
 |succ M U=>
  intro k w N A u q1 q2 q3
  by_cases r:0≤k∧k<t.length
  ·obtain⟨p,rfl⟩:=Int.eq_ofNat_of_zero_le r.1
   have B:p<t.length:=by omega
   have m2:=u.le
   have av:=N
   clear N r
   obtain⟨b2,o2,rfl,-,q4,-⟩:=u.int p B
   by_cases y:br s t[p]=true
   ·obtain⟨hA,E⟩:=fU hs y
    obtain⟨m,O⟩:∃m,ar s t[p]=m:=⟨_,rfl⟩
    rw[O]at hA E
    have v:∀n,Calls Tryz.prog 173 #[.slice a1 s.length c1, .int .i64 t[p]] (w.drewN n) fun e w'=>e= .returned (.int .i64 (m:Int))∧w.drewN n=w':=fun n=>by
     have:=pE a1 c1 s t[p] (w.drewN n) (A.drewN n)
     rw[hA]at this;exact this
    have H:=Lib.hid y
    have P:=Lib.hid O
    have IH:=Lib.hid U
    have g:=Lib.hid v
    clear y O U v hA
    have R:(p:Int)<t.length:=by omega
    go_enter Tryz.func172,Tryz.ntmps172
    go_wp2_with fail
    go_quiet ((go_at_call 173;exact fl (g.out _)))
    all_goals go_wp2_with fail
    go_loopw [8,9,31] (fun deep next i wr=>CJ s t p m w deep next i wr) (fun _ _ i _=>m-(intOf i).toNat)
    case atStart=>exact⟨0,0,_,Nat.zero_le _,rfl,rfl,rfl,EndInv.start _ _ _ _ _ B, .mk _ _⟩
    case round=>
     obtain⟨Z,j,nx,hj,rfl,rfl,rfl,l,C,rfl⟩:=hrel
     by_cases L:j<m
     ·have Q:=l.next
      have K:=l.1
      have V:(w.drewN C).cell? pt=_:=q1
      have W:(w.drewN C).cell? ps=_:=q2
      have X:(w.drewN C).cell? pw=_:=q3
      have Y:=IH.out nx (w.drewN C) (by omega) (A.drewN _) (u.drewN _) V W X
      have D:=Lib.hid Y
      have F:=Lib.hid l
      clear Y l
      go_wp2_with (go_at_call 172;refine D.out.mono ?_;rintro e w' ⟨d,rfl,au,I,J,n2,rfl⟩)
      all_goals
       have T:=EndInv.step F.out L (Nat.le_refl _) (d:=d) (by rcases Q with h|h<;>first|omega|(rw[I (by omega)];omega)) J
       go_roundw
       case rel=>exact⟨_,_,_,_,_,⟨max Z d,j+1,_,by omega,by go_num,by congr 1;omega,rfl,T, .mk _ _⟩,rfl,rfl,rfl,rfl,rfl⟩
       case measure=>simp[intOf];omega
     have z:j=m:=by omega
     subst z
     have K:=l.1
     have b:=l
     rw[←P.out]at b
     have f:=EndInv.done B rfl H.out b (Nat.le_refl _)
     have q:=Lib.hid f
     clear b f l
     go_wp2_with fail
     go_ret2
     exact⟨Z+1,by rw[q.out.1];rfl,by simp;omega,fun h=>by omega,by rw[q.out.1];exact fun h G hG=>q.out.2 h G hG, .mk _ _⟩
   have o:br s t[p]=false:=by simpa using y
   have hA:=A5 o
   have c:=Lib.hid (CG s t p B o)
   have v:∀n,Calls Tryz.prog 173 #[.slice a1 s.length c1, .int .i64 t[p]] (w.drewN n) fun e w'=>e= .returned (.int .i64 (-1))∧w.drewN n=w':=fun n=>by
    have:=pE a1 c1 s t[p] (w.drewN n) (A.drewN n)
    rw[hA]at this;exact this
   have g:=Lib.hid v
   clear v hA y o U
   have R:(p:Int)<t.length:=by omega
   go_enter Tryz.func172,Tryz.ntmps172
   go_wp2_with fail
   go_quiet ((go_at_call 173;exact fl (g.out _)))
   all_goals go_wp2_with fail
   go_ret2
   exact⟨0,by rw[c.out];rfl,Nat.zero_le _,fun _=>rfl,fun h=>(h c.out).elim, .mk _ _⟩
  have m2:=u.le
  have c:=qc s t k r
  have a:=Lib.hid c
  clear c
  by_cases h0:k<0
  ·go_enter Tryz.func172,Tryz.ntmps172
   go_wp2_with fail
   go_ret2
   exact⟨0,by rw[a.out];rfl,Nat.zero_le _,fun _=>rfl,fun h=>(h a.out).elim, .refl _⟩
  have h3:(t.length:Int)≤k:=by omega
  go_enter Tryz.func172,Tryz.ntmps172
  go_wp2_with fail
  go_ret2
  exact⟨0,by rw[a.out];rfl,Nat.zero_le _,fun _=>rfl,fun h=>(h a.out).elim, .refl _⟩
def uz(s:Sg)(t:List Int)(k:Int)(w:World)(e:Ending)(w':World):Prop:=
 ∃d:Nat,e= .returned (.tuple #[.int .i64 (eJ s t k), .int .i64 d])∧(eJ s t k≠-1→∀G,t.length-k.toNat≤G→d=dV s G (t.drop k.toNat))∧Below w.heap.size w w'
theorem uA{S1 S2:Nat→Prop}{a1 a2:Option Addr}{c1 c2:Nat}{s:Sg}{t:List Int}(hs:aH s=true)(k:Int)(w:World)(hk:k=-1∨(0≤k∧k≤t.length))(h1:Sign S1 w a1 c1 s)(h2:Ints S2 w a2 c2 t):
  Calls Tryz.prog 134 #[.slice a1 s.length c1, .slice a2 t.length c2, .int .i64 k] w (uz s t k w):=by
 have g:=h2.le
 go_enter Tryz.func134,Tryz.ntmps134
 go_wp2_with fail
 refine(CF hs _ _ _ t.length k _ (by omega) (h1.any.below (jy _ _ _ _)) (h2.any.below (jy _ _ _ _)) (by go_simp) (by go_simp) (by go_simp)).mono ?_
 rintro e w' ⟨d,rfl,c,b,a,f,rfl⟩
 go_wp2_with fail
 go_ret2
 exact⟨d,rfl,a,(jy _ _ _ _).trans (.trans (.refl _ _) ((Drew.mk _ f).below _))⟩
def gA(r:Int):Bool:=(decide (97≤r)&&decide (r≤122))||(decide (65≤r)&&decide (r≤90))
theorem wN(r:Int)(w:World)(h0:0≤r)(h1:r≤2147483647):
  Calls Tryz.prog 143 #[.int .i32 r] w fun e w'=>e= .returned (.bool (!gA r))∧w=w':=by
 by_cases ha:(decide (97≤r)&&decide (r≤122))=true
 ·have hf:(!gA r)=false:=by unfold gA;rw[ha];rfl
  have a:=Lib.hid hf
  clear hf
  go_enter Tryz.func143,Tryz.ntmps143
  go_wp2_with (go_at_call 99;refine(fR _ _ _ _).mono ?_;rintro e w' ⟨rfl,rfl⟩)
  go_ret
  exact⟨aF a.out.symm,rfl⟩
 have b:(decide (97≤r)&&decide (r≤122))=false:=by simpa using ha
 have hf:(!gA r)= !(decide (65≤r)&&decide (r≤90)):=by unfold gA;rw[b];rfl
 have a:=Lib.hid hf
 clear hf ha
 go_enter Tryz.func143,Tryz.ntmps143
 go_wp2_with (go_at_call 99;refine(fR _ _ _ _).mono ?_;rintro e w' ⟨rfl,rfl⟩)
 go_ret
 exact⟨aF (by rw[a.out];simp),rfl⟩
theorem wj(b:UInt8):gA (b.toNat:Int)=cR b:=by
 rw[Bool.eq_iff_iff];simp[gA,cR];omega
theorem Eg(n:Nat)(h:128≤n):gA n=false:=by
 simp[gA];omega
theorem qS{s:ByteArray}{p:Nat}(h:p<s.size)(ht:(s.data.toList.take p).all cR=true)(hb:cR s[p]=true):(s.data.toList.take (p+1)).all cR=true:=by
 rw[List.take_succ_eq_append_getElem (by simpa using h),List.all_append,ht]
 simp only[List.all_cons,List.all_nil,Bool.and_true,Bool.true_and]
 exact hb
theorem wM{s:ByteArray}{p:Nat}(h:p<s.size)(hb:cR s[p]=false):s.data.toList.all cR=false:=by
 rw[List.all_eq_false]
 exact⟨s[p],by show s.data[p]∈_;simp,by simp[hb]⟩
def DZ(s:ByteArray)(w:World)(e:Ending)(w':World):Prop:=∃n:Int,e= .returned (.int .i64 n)∧-1≤n∧decide (0≤n)= !s.data.toList.all cR∧Below w.heap.size w w'
theorem D7(s:ByteArray)(w:World)(_hs:s.size≤aB):
  Calls Tryz.prog 214 #[.string s, .func (.func 143) #[] #[], .bool true] w (DZ s w):=by
 unfold aB at _hs
 go_enter Tryz.func214,Tryz.ntmps214
 go_wp2
 go_loopw [7] (fun _ w'=>∃pos:Nat,w'=w.iter s pos∧(s.data.toList.take pos).all cR=true) (fun _ w'=>s.size-w'.iterPos w.heap.size)
 case atStart=>exact⟨0,rfl,rfl⟩
 case round=>
  obtain⟨pos,rfl,l⟩:=hrel
  have j:=Lib.hid l
  clear l
  by_cases c:pos<s.size
  ·by_cases g:cR s[pos]=true
   ·have a:(s[pos]'c).toNat<128:=by simp[cR]at g;omega
    have i:∀b,(Instr.next (.pointer (some ⟨w.heap.size,0,none⟩)) true b).run Tryz.prog (w.iter s pos)=_:=fun b=>run_next_ascii w s pos b c a
    have m:(!gA ((s[pos]'c).toNat:Int))=false:=by rw[wj,g];rfl
    have k:=Lib.hid g
    clear g
    go_wp2_with (go_at_call 143;refine(wN _ _ (by omega) (by omega)).mono ?_;rintro e w' ⟨rfl,rfl⟩)
    go_roundw
    case rel=>exact⟨pos+1,rfl,qS c j.out k.out⟩
    case measure=>simp;omega
   have f:cR s[pos]=false:=by simpa using g
   have i:∀b,(Instr.next (.pointer (some ⟨w.heap.size,0,none⟩)) true b).run Tryz.prog (w.iter s pos)=_:=fun b=>run_next_any w s pos b c
   have m:(!gA ((Utf8.decode s pos).1:Int))=true:=by
    by_cases a:(s[pos]'c).toNat<128
    ·rw[decode_ascii s pos c a,wj,f];rfl
    rw[Eg _ (decode_high s pos c (by omega)).1];rfl
   have n:=decode_le s pos
   have h:=Lib.hid (wM c f)
   clear g f
   go_wp2_with (go_at_call 143;refine(wN _ _ (by omega) (by omega)).mono ?_;rintro e w' ⟨rfl,rfl⟩)
   go_ret
   exact⟨pos,rfl,by omega,by rw[h.out];simp,an _ _⟩
  have i:∀b,(Instr.next (.pointer (some ⟨w.heap.size,0,none⟩)) true b).run Tryz.prog (w.iter s pos)=_:=fun b=>run_next_end w s pos b c
  go_wp2
  go_ret
  refine⟨-1,rfl,by omega,?_,an _ _⟩
  have:=j.out
  rw[List.take_of_length_le (by simp;omega)]at this
  rw[this];rfl
theorem t8(s:ByteArray)(w:World)(hs:s.size≤aB):
  Calls Tryz.prog 142 #[.string s, .func (.func 143) #[] #[]] w fun e w'=>e= .returned (.bool (!s.data.toList.all cR))∧Below w.heap.size w w':=by
 go_enter Tryz.func142,Tryz.ntmps142
 go_wp2_with fail
 go_enter Tryz.func187,Tryz.ntmps187
 go_wp2_with (go_at_call 214;refine(D7 s _ hs).mono ?_;rintro e w' ⟨n,rfl,f,a,c⟩;have b:=Lib.hid a;clear a)
 go_ret
 exact⟨aF b.out,c⟩
theorem nQ(s:ByteArray)(w:World)(hs:s.size≤aB):
  Calls Tryz.prog 98 #[.string s] w fun e w'=>e= .returned (.bool (fc s))∧Below w.heap.size w w':=by
 have f:=hs
 unfold aB at f
 by_cases ha:(decide (1≤s.size)&&decide (s.size≤8))=true
 ·have hf:fc s=s.data.toList.all cR:=by unfold fc;rw[ha];rfl
  have b:=Lib.hid hf
  clear hf
  have c:(decide (1≤(s.size:Int))&&decide ((s.size:Int)≤8))=true:=by simp at ha⊢;omega
  clear ha
  go_enter Tryz.func98,Tryz.ntmps98
  go_wp2_with (first|(go_at_call 99;refine(fR _ _ _ _).mono ?_;rintro e w' ⟨rfl,rfl⟩)|(go_at_call 142;refine(t8 s _ hs).mono ?_;rintro e w' ⟨rfl,g⟩))
  go_ret
  exact⟨aF (by rw[b.out];simp),g⟩
 have a:(decide (1≤s.size)&&decide (s.size≤8))=false:=by simpa using ha
 have hf:fc s=false:=by unfold fc;rw[a];rfl
 have b:=Lib.hid hf
 clear hf ha
 have c:(decide (1≤(s.size:Int))&&decide ((s.size:Int)≤8))=false:=by simp at a⊢;omega
 clear a
 go_enter Tryz.func98,Tryz.ntmps98
 go_wp2_with (first|(go_at_call 99;refine(fR _ _ _ _).mono ?_;rintro e w' ⟨rfl,rfl⟩)|(go_at_call 142;refine(t8 s _ hs).mono ?_;rintro e w' ⟨rfl,g⟩))
 go_ret
 exact⟨aF b.out.symm, .refl _ _⟩
theorem qK(s:ByteArray)(w:World)(hs:s.size≤aB):
  Calls Tryz.prog 65 #[.string s] w fun e w'=>e= .returned (.bool (fc s))∧w=w':=by
 unfold aB at hs
 go_enter Tryz.func65,Tryz.ntmps65
 go_wp2
 go_loop [3] (fun i=>∃pos:Nat,i= .int .i64 pos∧pos≤s.size∧(s.data.toList.take pos).all cR=true) (fun i=>s.size-(intOf i).toNat)
 case atStart=>exact⟨0,rfl,Nat.zero_le _,rfl⟩
 case round=>
  obtain⟨pos,rfl,p,o⟩:=hrel
  have g:=Lib.hid o
  clear o
  by_cases a:pos<s.size
  ·have n:=(s[pos]'a).toNat_lt
   by_cases h:cR s[pos]=true
   ·have j:=Lib.hid h
    by_cases f:(decide (97≤((s[pos]'a).toNat:Int))&&decide (((s[pos]'a).toNat:Int)≤122))=true
    ·clear h
     go_wp2_with (go_at_call 64;refine(fq _ _ _ _).mono ?_;rintro e w' ⟨rfl,rfl⟩)
     go_round
     case rel=>exact⟨pos+1,by go_num,by omega,qS a g.out j.out⟩
     case measure=>simp[intOf];omega
    have k:(decide (97≤((s[pos]'a).toNat:Int))&&decide (((s[pos]'a).toNat:Int)≤122))=false:=by simpa using f
    have m:(decide (65≤((s[pos]'a).toNat:Int))&&decide (((s[pos]'a).toNat:Int)≤90))=true:=by simp[cR]at h f⊢;omega
    clear h f
    go_wp2_with (go_at_call 64;refine(fq _ _ _ _).mono ?_;rintro e w' ⟨rfl,rfl⟩)
    go_round
    case rel=>exact⟨pos+1,by go_num,by omega,qS a g.out j.out⟩
    case measure=>simp[intOf];omega
   have b:cR s[pos]=false:=by simpa using h
   have k:(decide (97≤((s[pos]'a).toNat:Int))&&decide (((s[pos]'a).toNat:Int)≤122))=false:=by simp[cR]at b⊢;omega
   have m:(decide (65≤((s[pos]'a).toNat:Int))&&decide (((s[pos]'a).toNat:Int)≤90))=false:=by simp[cR]at b⊢;omega
   have c:fc s=false:=by unfold fc;rw[wM a b];simp
   have l:=Lib.hid c
   clear h b c
   go_wp2_with (go_at_call 64;refine(fq _ _ _ _).mono ?_;rintro e w' ⟨rfl,rfl⟩)
   go_ret
   exact⟨aF l.out.symm,rfl⟩
  go_wp2_with (go_at_call 64;refine(fq _ _ _ _).mono ?_;rintro e w' ⟨rfl,rfl⟩)
  go_ret
  refine⟨aF ?_,rfl⟩
  have:=g.out
  rw[List.take_of_length_le (by simp;omega)]at this
  rw[Bool.eq_iff_iff];simp[fc,this];omega
end Go.Proofs.YtlejmeegkpdabaaGreatDoor
