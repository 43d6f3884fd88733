/- The proof of a statement, some of its texts joined in build order: part K1. -/
import Derived.WalkKit
import Derived.WalkSpells
import Derived.WalkLawsBesides
import Derived.BigQuiet
import Derived.Deep.QuietTactic
import Derived.Lib.Hide
import Derived.Laws.EntriesVeiled
namespace Go.Proofs.YtlejmeegkpdabaaGreatDoor
open Go Go.RowKit
theorem aF{a b:Bool}(h:a=b):Ending.returned (.bool a)= .returned (.bool b):=by rw[h]
theorem fd{k:IntKind}{a b:Int}(h:a=b):Ending.returned (.int k a)= .returned (.int k b):=by rw[h]
def Drew(w w':World):Prop:=∃n,w'=w.drewN n
theorem Drew.refl(w:World):Drew w w:=⟨0,rfl⟩
theorem Drew.mk(w:World)(n:Nat):Drew w (w.drewN n):=⟨n,rfl⟩
theorem Drew.mk2(w:World)(n m:Nat):Drew w ((w.drewN n).drewN m):=⟨n+m,by simp⟩
theorem Drew.below{w w':World}(h:Drew w w')(B:Nat):Below B w w':=by
 obtain⟨n,rfl⟩:=h
 exact⟨rfl,rfl,rfl,Nat.le_refl _,fun _ _=>rfl⟩
theorem fW{B:Nat}{a w:World}(h:Below B a w)(n:Nat):Below B a (w.drewN n):=h.trans ⟨rfl,rfl,rfl,Nat.le_refl _,fun _ _=>rfl⟩
theorem ku{a b:Nat}(h:¬a=b):((a:Int) != (b:Int))=true:=by simpa using fun e=>h (Int.ofNat.inj e)
def Agree(S:Nat→Prop)(w w':World):Prop:=∀b,S b→b<w.heap.size→w'.heap[b]?=w.heap[b]?
theorem Agree.of_below{S:Nat→Prop}{B:Nat}{w w':World}(h:Below B w w')(hS:∀b,S b→b<w.heap.size→b<B):Agree S w w':=
 fun b a c=>h.block b (hS b a c)
theorem Agree.all{S:Nat→Prop}{w w':World}(h:Below w.heap.size w w'):Agree S w w':= .of_below h (fun _ _ h=>h)
theorem Agree.of_grown{S:Nat→Prop}{row:Option Nat}{w w':World}(h:w.grownBy w' row)(hS:∀b,S b→some b≠row):Agree S w w':=
 fun b a c=>h.block b c (hS b a)
theorem Agree.refl(S:Nat→Prop)(w:World):Agree S w w:=fun _ _ _=>rfl
theorem Agree.cell{S:Nat→Prop}{w w':World}(h:Agree S w w'){p:Addr}(hp:S p.block){v:Value}(hc:w.cell? p=some v):w'.cell? p=some v:=
 (World.cell?_of_block (w:=w) (h p.block hp (World.block_lt_of_cell? w p hc))).trans hc
structure Enc (α:Type) where
 size:Nat
 pos:0<size
 R:(Nat→Prop)→World→List Value→α→Prop
 len:∀{S w vs x},R S w vs x→vs.length=size
 one:∀{S w vs x},R S w vs x→∀u∈vs,u.oneCell'=true
 mono:∀{S S' w w' vs x},R S w vs x→(∀b,b<w.heap.size→S b→S' b)→Agree S w w'→R S' w' vs x
def aB:Nat:=9223372036854775807
def aE(x:Int):Prop:=-9223372036854775808≤x∧x≤9223372036854775807
structure Sl {α:Type} (E:Enc α) (S:Nat→Prop) (w:World) (a:Option Addr) (c:Nat) (l:List α):Prop where
 cap:l.length≤c
 max:c≤aB
 nil:a=none→l=[]∧c=0
 dat:l≠ []→∃b off,a=some ⟨b,off,none⟩∧S b∧b<w.heap.size∧∀i (h:i<l.length),∃vs,vs.length=E.size∧(∀j (hj:j<vs.length),w.cell? ⟨b,off+i*E.size+j,none⟩=some vs[j])∧E.R S w vs l[i]
theorem Sl.mono{α:Type}{E:Enc α}{S S':Nat→Prop}{w w':World}{a:Option Addr}{c:Nat}{l:List α}(h:Sl E S w a c l)(hS:∀b,b<w.heap.size→S b→S' b)(hA:Agree S w w'):Sl E S' w' a c l:=by
 refine⟨h.cap,h.max,h.nil,fun m=> ?_⟩
 obtain⟨b,n,ha,f,g,o⟩:=h.dat m
 have k:b<w'.heap.size:=by
  have:=hA b f g
  rw[Array.getElem?_eq_getElem g]at this
  exact(Array.getElem?_eq_some_iff.1 this).1
 refine⟨b,n,ha,hS b g f,k,fun i q=> ?_⟩
 obtain⟨vs,s,t,hr⟩:=o i q
 exact⟨vs,s,fun j r=>hA.cell (p:=⟨b,_,none⟩) f (t j r),E.mono hr hS hA⟩
theorem Sl.same{α:Type}{E:Enc α}{S:Nat→Prop}{w w':World}{a:Option Addr}{c:Nat}{l:List α}(h:Sl E S w a c l)(hA:Agree S w w'):Sl E S w' a c l:=h.mono (fun _ _ h=>h) hA
theorem Sl.below{α:Type}{E:Enc α}{S:Nat→Prop}{w w':World}{a:Option Addr}{c:Nat}{l:List α}(h:Sl E S w a c l)(hB:Below w.heap.size w w'):Sl E S w' a c l:=h.same (.all hB)
theorem Sl.lt{α:Type}{E:Enc α}{S:Nat→Prop}{w:World}{a:Option Addr}{c:Nat}{l:List α}(h:Sl E S w a c l):Sl E (fun b=>S b∧b<w.heap.size) w a c l:=h.mono (fun _ h f=>⟨f,h⟩) (fun _ _ _=>rfl)
theorem Sl.weak{α:Type}{E:Enc α}{S S':Nat→Prop}{w:World}{a:Option Addr}{c:Nat}{l:List α}(h:Sl E S w a c l)(hS:∀b,S b→S' b):Sl E S' w a c l:=h.mono (fun b _ h=>hS b h) (fun _ _ _=>rfl)
theorem Sl.empty{α:Type}{E:Enc α}{S:Nat→Prop}{w:World}:Sl E S w none 0 ([]:List α):=⟨Nat.zero_le _,Nat.zero_le _,fun _=>⟨rfl,rfl⟩,fun h=>(h rfl).elim⟩
theorem Sl.le{α:Type}{E:Enc α}{S:Nat→Prop}{w:World}{a:Option Addr}{c:Nat}{l:List α}(h:Sl E S w a c l):l.length≤9223372036854775807:=Nat.le_trans h.cap h.max
def intE:Enc Int where
 size:=1
 pos:=by decide
 R _ _ vs x:=vs=[.int .i64 x]∧aE x
 len h:=by rw[h.1];rfl
 one h:=by rw[h.1];simp[Value.oneCell']
 mono h _ _:=h
def cI{α:Type}(E:Enc α):Enc (List α) where
 size:=1
 pos:=by decide
 R S w vs l:=∃a c,vs=[.slice a l.length c]∧Sl E S w a c l
 len h:=by obtain⟨a,c,h,_⟩:=h;rw[h];rfl
 one h:=by obtain⟨a,c,h,_⟩:=h;rw[h];simp[Value.oneCell']
 mono h hS hA:=by obtain⟨a,c,h,h'⟩:=h;exact⟨a,c,h,h'.mono hS hA⟩
def strE:Enc ByteArray where
 size:=1
 pos:=by decide
 R _ _ vs s:=vs=[.string s]∧s.size≤aB
 len h:=by rw[h.1];rfl
 one h:=by rw[h.1];simp[Value.oneCell']
 mono h _ _:=h
def dC{α β:Type}(E:Enc α)(F:Enc β):Enc (α×β) where
 size:=E.size+F.size
 pos:=Nat.lt_of_lt_of_le E.pos (Nat.le_add_right _ _)
 R S w vs x:=∃us ts,vs=us++ts∧E.R S w us x.1∧F.R S w ts x.2
 len h:=by obtain⟨us,ts,rfl,h1,h2⟩:=h;rw[List.length_append,E.len h1,F.len h2]
 one h:=by
  obtain⟨us,ts,rfl,h1,h2⟩:=h
  intro u hu
  rcases List.mem_append.1 hu with h|h
  ·exact E.one h1 u h
  exact F.one h2 u h
 mono h hS hA:=by obtain⟨us,ts,h,h1,h2⟩:=h;exact⟨us,ts,h,E.mono h1 hS hA,F.mono h2 hS hA⟩
def mn:Enc (ByteArray×Int):=dC strE intE
abbrev Ints:=Sl intE
abbrev Terms:=Sl (cI intE)
abbrev Sign:=Sl mn
theorem Sl.at1{α:Type}{E:Enc α}{S:Nat→Prop}{w:World}{a:Option Addr}{c:Nat}{l:List α}(h:Sl E S w a c l)(i:Nat)(hi:i<l.length):
  ∃b off,a=some ⟨b,off,none⟩∧S b∧b<w.heap.size∧∃vs,vs.length=E.size∧(∀j (hj:j<vs.length),w.cell? ⟨b,off+i*E.size+j,none⟩=some vs[j])∧E.R S w vs l[i]:=by
 obtain⟨b,off,ha,f,k,g⟩:=h.dat (by intro e;subst e;simp at hi)
 exact⟨b,off,ha,f,k,g i hi⟩
theorem Sl.int{S:Nat→Prop}{w:World}{a:Option Addr}{c:Nat}{l:List Int}(h:Ints S w a c l)(i:Nat)(hi:i<l.length):
  ∃b off,a=some ⟨b,off,none⟩∧S b∧w.cell? ⟨b,off+i,none⟩=some (.int .i64 l[i])∧aE l[i]:=by
 obtain⟨b,off,ha,f,_,vs,_,g,hr⟩:=h.at1 i hi
 obtain⟨rfl,hx⟩:=hr
 have:=g 0 (by simp)
 simp[intE]at this
 exact⟨b,off,ha,f,this,hx⟩
theorem Sl.sub{α:Type}{E:Enc α}{S:Nat→Prop}{w:World}{a:Option Addr}{c:Nat}{l:List (List α)}(h:Sl (cI E) S w a c l)(i:Nat)(hi:i<l.length):
  ∃b off a' c',a=some ⟨b,off,none⟩∧S b∧w.cell? ⟨b,off+i,none⟩=some (.slice a' l[i].length c')∧Sl E S w a' c' l[i]:=by
 obtain⟨b,off,ha,f,_,vs,_,g,hr⟩:=h.at1 i hi
 obtain⟨a',c',rfl,hx⟩:=hr
 have:=g 0 (by simp)
 simp[cI]at this
 exact⟨b,off,a',c',ha,f,this,hx⟩
theorem Sl.sym{S:Nat→Prop}{w:World}{a:Option Addr}{c:Nat}{l:List (ByteArray×Int)}(h:Sign S w a c l)(i:Nat)(hi:i<l.length):
  ∃b off,a=some ⟨b,off,none⟩∧S b∧w.cell? ⟨b,off+i*2,none⟩=some (.string l[i].1)∧w.cell? ⟨b,off+i*2+1,none⟩=some (.int .i64 l[i].2)∧l[i].1.size≤aB∧aE l[i].2:=by
 obtain⟨b,off,ha,n,_,vs,_,j,hr⟩:=h.at1 i hi
 obtain⟨p,o,rfl,⟨rfl,k⟩,⟨rfl,m⟩⟩:=hr
 have f:=j 0 (by simp)
 have g:=j 1 (by simp)
 simp[mn,dC,strE,intE]at f g
 exact⟨b,off,ha,n,f,g,k,m⟩
theorem Sl.drewN{α:Type}{E:Enc α}{S:Nat→Prop}{w:World}{a:Option Addr}{c:Nat}{l:List α}(h:Sl E S w a c l)(n:Nat):Sl E S (w.drewN n) a c l:=h.same (fun _ _ _=>rfl)
theorem Sl.drew{α:Type}{E:Enc α}{S:Nat→Prop}{w w':World}{a:Option Addr}{c:Nat}{l:List α}(h:Sl E S w a c l)(hd:Drew w w'):Sl E S w' a c l:=by obtain⟨n,rfl⟩:=hd;exact h.drewN n
theorem Sl.any{α:Type}{E:Enc α}{S:Nat→Prop}{w:World}{a:Option Addr}{c:Nat}{l:List α}(h:Sl E S w a c l):Sl E (fun _=>True) w a c l:=h.mono (fun _ _ _=>trivial) (.refl _ _)
theorem jy(w:World)(o1 o2 o3:Obj):Below w.heap.size w (((w.alloc o1).alloc o2).alloc o3):=(((Below.refl _ _).alloc (Nat.le_refl _) _).alloc (by simp) _).alloc (by simp;omega) _
theorem dT(w:World)(o1 o2:Obj):Below w.heap.size w ((w.alloc o1).alloc o2):=((Below.refl _ _).alloc (Nat.le_refl _) _).alloc (by simp) _
theorem an(w:World)(o1:Obj):Below w.heap.size w (w.alloc o1):=(Below.refl _ _).alloc (Nat.le_refl _) _
theorem m8{B:Nat}{w wr w1:World}{o:Obj}(hB:Below B w wr)(hle:B≤wr.heap.size)(h1:Below (wr.alloc o).heap.size (wr.alloc o) w1):Below B w w1:=
 hB.trans (((an wr o).mono hle).trans (h1.mono (by simp;omega)))
theorem BI{x y:ByteArray}(h:x.toList=y.toList):x=y:=by
 rw[ByteArray.toList_eq,ByteArray.toList_eq]at h
 exact ByteArray.ext (Array.toList_inj.1 h)
theorem fe{x y:ByteArray}(h:x=y):(x.toList==y.toList)=true:=by simp[h]
theorem eM{x y:ByteArray}(h:x≠y):(x.toList==y.toList)=false:=by
 simp only[beq_eq_false_iff_ne];exact fun e=>h (BI e)
theorem fl{P:Program}{f:FuncId}{args:Array Value}{w:World}{n:Nat}{v:Value}
  (h:Calls P f args (w.drewN n) fun e w'=>e= .returned v∧w.drewN n=w'):Calls P f args (w.drewN n) fun e w''=>e= .returned v∧∃m,w''=w.drewN m:=
 h.mono fun _ _ ⟨a,b⟩=>⟨a,n,b.symm⟩
end Go.Proofs.YtlejmeegkpdabaaGreatDoor
