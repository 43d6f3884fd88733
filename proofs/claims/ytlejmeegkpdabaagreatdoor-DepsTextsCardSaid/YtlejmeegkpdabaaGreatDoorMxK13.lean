/- The proof of a statement, some of its texts joined in build order: part K13. -/
import Derived.Test.YtlejmeegkpdabaaGreatDoorMxK7
import Derived.Test.YtlejmeegkpdabaaGreatDoorMxK8
namespace Go.Proofs.YtlejmeegkpdabaaGreatDoor
open Go Go.RowKit
def CellsAt(w:World)(b:Nat):Prop:=∃o,w.heap[b]?=some o∧o.isCells=true
theorem CellsAt.of_cell{w:World}{b off:Nat}{v:Value}(h:w.cell? ⟨b,off,none⟩=some v):CellsAt w b:=by
 have a:=World.block_lt_of_cell? w _ h
 refine⟨w.heap[b],Array.getElem?_eq_getElem a,?_⟩
 unfold World.cell? at h
 simp only[Array.getElem?_eq_getElem a]at h
 revert h
 generalize w.heap[b]=o
 intro h
 cases o<;>simp_all[Obj.isCells]
theorem Sl.cellsAt{α:Type}{E:Enc α}(hE:∀S w vs x,E.R S w vs x→E.R (fun b=>S b∧CellsAt w b) w vs x){S:Nat→Prop}{w:World}{a:Option Addr}{c:Nat}{l:List α}(h:Sl E S w a c l):Sl E (fun b=>S b∧CellsAt w b) w a c l:=by
 refine⟨h.cap,h.max,h.nil,fun g=> ?_⟩
 obtain⟨b,j,ha,o,q,k⟩:=h.dat g
 have n:0<l.length:=List.length_pos_iff.2 g
 obtain⟨vs,u,m,_⟩:=k 0 n
 have f:=CellsAt.of_cell (m 0 (by have:=E.pos;omega))
 exact⟨b,j,ha,⟨o,f⟩,q,fun i p=>by obtain⟨vs,r,s,t⟩:=k i p;exact⟨vs,r,s,hE _ _ _ _ t⟩⟩
theorem Ints.cellsAt{S:Nat→Prop}{w:World}{a:Option Addr}{c:Nat}{l:List Int}(h:Ints S w a c l):Ints (fun b=>S b∧CellsAt w b) w a c l:=Sl.cellsAt (fun _ _ _ _ h=>h) h
theorem Terms.cellsAt{S:Nat→Prop}{w:World}{a:Option Addr}{c:Nat}{l:List (List Int)}(h:Terms S w a c l):Terms (fun b=>S b∧CellsAt w b) w a c l:=
 Sl.cellsAt (fun _ _ _ _ h=>by obtain⟨a,c,f,g⟩:=h;exact⟨a,c,f,Ints.cellsAt g⟩) h
theorem Sign.cellsAt{S:Nat→Prop}{w:World}{a:Option Addr}{c:Nat}{l:List (ByteArray×Int)}(h:Sign S w a c l):Sign (fun b=>S b∧CellsAt w b) w a c l:=
 Sl.cellsAt (fun _ _ _ _ h=>by obtain⟨k,j,f,g,i⟩:=h;exact⟨k,j,f,g,i⟩) h
def ck(B0:Nat)(W:World):Option Nat:=match W.cell? ⟨B0,0,none⟩with|some v=>v.ownBlock|none=>none
def iN(B0:Nat)(W:World):Prop:=B0<W.heap.size∧∀r,ck B0 W=some r→r<W.heap.size
def Safe(B0:Nat)(W:World)(b:Nat):Prop:=b≠B0∧some b≠ck B0 W∧CellsAt W b
structure Leaves (B0:Nat) (W W':World):Prop where
 size:W.heap.size≤W'.heap.size
 same:∀b,Safe B0 W b→W'.heap[b]?=W.heap[b]?
 row:ck B0 W'=ck B0 W∨∃r,ck B0 W'=some r∧W.heap.size≤r
 lt:iN B0 W→iN B0 W'
section
variable {B0:Nat}{W W' W2:World}
theorem CellsAt.lt{b:Nat}(h:CellsAt W b):b<W.heap.size:=by obtain⟨o,h,_⟩:=h;exact(Array.getElem?_eq_some_iff.1 h).1
theorem CellsAt.same{b:Nat}(h:CellsAt W b)(hs:W'.heap[b]?=W.heap[b]?):CellsAt W' b:=by obtain⟨o,h,g⟩:=h;exact⟨o,hs.trans h,g⟩
theorem Leaves.safe(h:Leaves B0 W W'){b:Nat}(hb:Safe B0 W b):Safe B0 W' b:=by
 refine⟨hb.1,fun e=> ?_,hb.2.2.same (h.same b hb)⟩
 rcases h.row with g|⟨r,g,hr⟩
 ·rw[g]at e;exact hb.2.1 e
 rw[g]at e;cases e;have:=hb.2.2.lt;omega
theorem Leaves.agree(h:Leaves B0 W W'):Agree (Safe B0 W) W W':=fun b a _=>h.same b a
theorem Leaves.sl{α:Type}{E:Enc α}{a:Option Addr}{c:Nat}{l:List α}(h:Leaves B0 W W')(hs:Sl E (Safe B0 W) W a c l):Sl E (Safe B0 W') W' a c l:=
 hs.mono (fun _ _ b=>h.safe b) h.agree
theorem Leaves.refl(B0:Nat)(W:World):Leaves B0 W W:=⟨Nat.le_refl _,fun _ _=>rfl, .inl rfl,fun h=>h⟩
theorem Leaves.trans(h:Leaves B0 W W')(k:Leaves B0 W' W2):Leaves B0 W W2:=by
 refine⟨Nat.le_trans h.size k.size,fun b a=>(k.same b (h.safe a)).trans (h.same b a),?_,fun g=>k.lt (h.lt g)⟩
 rcases k.row with g|⟨r,g,hr⟩
 ·rw[g];exact h.row
 exact .inr ⟨r,g,Nat.le_trans h.size hr⟩
theorem jU(h:W'.heap[B0]?=W.heap[B0]?):ck B0 W'=ck B0 W:=by unfold ck;rw[World.cell?_of_block (w:=W) h]
theorem Leaves.of_below(hr:B0<W.heap.size)(h:Below W.heap.size W W'):Leaves B0 W W':=by
 have e:=jU (h.block B0 hr)
 refine⟨h.size,fun b c=>h.block b c.2.2.lt, .inl e,fun g=>⟨Nat.lt_of_lt_of_le g.1 h.size,fun r a=> ?_⟩⟩
 rw[e]at a;exact Nat.lt_of_lt_of_le (g.2 r a) h.size
theorem Safe.fresh(hr:iN B0 W)(h:Below W.heap.size W W'){b:Nat}(hb:W.heap.size≤b)(hc:CellsAt W' b):Safe B0 W' b:=
 ⟨by have:=hr.1;omega,fun e=>by rw[jU (h.block B0 hr.1)]at e;have:=hr.2 b e.symm;omega,hc⟩
theorem Below.grow{A B:World}(h:Below A.heap.size A B):A.grownBy B none:=⟨h.os,h.tape,h.output,h.size,fun k a _=>h.block k a⟩
theorem Leaves.cell(h:Leaves B0 W W'){b off:Nat}{v:Value}(hb:Safe B0 W b)(hc:W.cell? ⟨b,off,none⟩=some v):W'.cell? ⟨b,off,none⟩=some v:=(World.cell?_of_block (w:=W) (h.same b hb)).trans hc
theorem Leaves.putObj{l:Nat}{o o':Obj}(hl:B0<l)(h:W.heap[l]?=some o)(hc:o.isCells=false):Leaves B0 W (W.putObj l o'):=by
 have c:B0≠l:=by omega
 have e:ck B0 (W.putObj l o')=ck B0 W:=jU (World.putObj_heap_other c)
 refine⟨by simp[World.putObj],fun b k=> ?_, .inl e,fun g=>⟨by simpa[World.putObj]using g.1,fun r a=> ?_⟩⟩
 ·refine World.putObj_heap_other (fun j=> ?_)
  subst j
  obtain⟨m,f,i⟩:=k.2.2
  rw[h]at f;cases f;rw[hc]at i;cases i
 rw[e]at a;simpa[World.putObj]using g.2 r a
end
def sN{α:Type}(E:Enc α):Prop:=∀S w vs x,E.R S w vs x→E.R (fun b=>S b∧CellsAt w b) w vs x
def BoxL{α:Type}(E:Enc α)(B0:Nat)(T:TypeId)(base:Nat)(e:TypeId)(l:List α)(W:World):Prop:=∃v,Boxed W B0 T v∧OwnL E (fun b=>b≠B0) W base e v l
section
variable {α:Type}{E:Enc α}{B0:Nat}{T e:TypeId}{base:Nat}{l:List α}{W:World}
theorem OwnL.rowCells{S:Nat→Prop}{v:Value}(h:OwnL E S W base e v l):∀k,v.ownBlock=some k→∃cur,W.heap[k]?=some (.cells cur e (0,0)):=by
 intro k a
 obtain⟨f,c,-⟩:=h
 rcases c.2 with⟨rfl,-⟩|⟨g,b,cur,rfl,-,hg,-⟩
 ·simp[Value.ownBlock]at a
 simp[Value.ownBlock]at a;subst a;exact⟨cur,hg⟩
theorem OwnL.notBox{S:Nat→Prop}{v u:Value}(h:OwnL E S W base e v l)(hB:Boxed W B0 T u)(hT:T≠e):v.ownBlock≠some B0:=by
 intro c
 obtain⟨b,a⟩:=h.rowCells B0 c
 rw[show W.heap[B0]?=_ from hB]at a
 simp only[Option.some.injEq,Obj.cells.injEq]at a
 exact hT a.2.1
theorem OwnL.celled{S:Nat→Prop}{v:Value}(hE:sN E)(h:OwnL E S W base e v l):OwnL E (fun b=>S b∧CellsAt W b) W base e v l:=by
 obtain⟨k,j,g,hx⟩:=h
 exact⟨k,j,g,fun i c f=>E.mono (hE _ _ _ _ (hx i c f)) (fun b _ a=>⟨⟨a.1.1,a.2⟩,a.1.2⟩) (.refl _ _)⟩
theorem OwnL.putObj{S:Nat→Prop}{v:Value}(h:OwnL E S W base e v l){D:Nat}{o o':Obj}(hD:W.heap[D]?=some o)(hc:o.isCells=false)(hE:sN E):OwnL E (fun _=>True) (W.putObj D o') base e v l:=by
 have c:∀{k:Nat} {q:Obj},W.heap[k]?=some q→q.isCells=true→(some D:Option Nat)≠some k:=by
  intro k q f g e
  cases e;rw[hD]at f;cases f;rw[hc]at g;cases g
 refine OwnL.weak ((OwnL.celled hE h).grown (grownBy_putObj' W D o') (fun k f=> ?_) (fun b n _=> ?_)) (fun _ _ _=>trivial)
 ·obtain⟨i,a⟩:=h.rowCells k f;exact c a rfl
 obtain⟨q,j,m⟩:=n.2;exact c j m
theorem kC{v:Value}(h:Boxed W B0 T v):ck B0 W=v.ownBlock:=by unfold ck;rw[h.cell]
theorem BoxL.rowLt(h:BoxL E B0 T base e l W):iN B0 W:=by
 obtain⟨v,a,b⟩:=h
 exact⟨a.lt,fun r hr=>by rw[kC a]at hr;exact(b.lt r hr).2⟩
theorem BoxL.new(W:World):BoxL E W.heap.size T base e [] (W.alloc (.cells #[.slice none 0 0] T)):=⟨_,Boxed.new W T _, .nil _ _ _ _ _⟩
theorem BoxL.below{W':World}(h:BoxL E B0 T base e l W)(hb:Below W.heap.size W W'):BoxL E B0 T base e l W':=by
 obtain⟨v,a,b⟩:=h
 exact⟨v,(hb.block B0 a.lt).trans a,b.call hb⟩
end
end Go.Proofs.YtlejmeegkpdabaaGreatDoor
