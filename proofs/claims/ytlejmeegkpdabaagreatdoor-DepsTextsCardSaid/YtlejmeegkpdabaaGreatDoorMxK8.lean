/- The proof of a statement, some of its texts joined in build order: part K8. -/
import Derived.Test.YtlejmeegkpdabaaGreatDoorMxK1
import Derived.RangeFuncBox
import Derived.RangeFuncNested
import Derived.RangeFuncBound
import Derived.RangeFuncCalls
import Derived.RangeFuncLeaves
set_option maxHeartbeats 1000000
namespace Go.Proofs.YtlejmeegkpdabaaGreatDoor
open Go Go.RowKit
section
variable {F:Fence}{n:Nat}{P:Program}{α:Type}
structure Book (l d:Nat) (rec:Loop) (W:World):Prop where
 loop:W.heap[l]?=some (.loop rec)
 calls:W.heap[d]?=some (.deferred (some []))
theorem Book.keeps{l d B:Nat}{rec:Loop}{W W':World}(h:Book l d rec W)(hl:B≤l)(hd:B≤d)(hk:KeepsFrom B W W'):Book l d rec W':=
 ⟨hk.same _ _ hl h.loop rfl,hk.same _ _ hd h.calls rfl⟩
theorem Book.turn{l d:Nat}{rec rec':Loop}{W:World}(h:Book l d rec W)(hne:d≠l):Book l d rec' (W.putObj l (.loop rec')):=
 ⟨World.putObj_heap_same (Array.getElem?_eq_some_iff.1 h.loop).1,(World.putObj_heap_other hne).trans h.calls⟩
theorem Book.grown{l d:Nat}{rec:Loop}{A B:World}{row:Option Nat}(h:Book l d rec A)(hg:A.grownBy B row)(hr:∀r,row=some r→∃o:Obj,A.heap[r]?=some o∧o.isWalk=true):Book l d rec B:=
 ⟨(grownBy_keeps hg hr h.loop rfl).trans h.loop,(grownBy_keeps hg hr h.calls rfl).trans h.calls⟩
end
def OwnRows{β:Type}(Rw:World→Nat→Obj→Prop)(B:Nat)(I:β→World→Prop):Prop:=
 ∀s W W' row,I s W→W.grownBy W' row→(∀r,row=some r→B≤r∧∃o:Obj,W.heap[r]?=some o∧(o.isCells=false∨Rw W r o))→I s W'
theorem OwnRows.from{β:Type}{Rw:World→Nat→Obj→Prop}{B:Nat}{I:β→World→Prop}(h:OwnRows Rw B I):OwnFrom B I:=fun s W b a hs hg hr=>
 h s W b a hs hg (fun r e=>by obtain⟨c,o,f,g⟩:=hr r e;exact⟨c,o,f, .inl g⟩)
def sK{β:Type}(Rw:World→Nat→Obj→Prop)(B:Nat)(J:β→World→Prop):Prop:=
 ∀s W W' row,J s W→W.grownBy W' row→(∀r,row=some r→B≤r∧∃o:Obj,W.heap[r]?=some o∧(o.isWalk=true∨Rw W r o))→J s W'
theorem OwnRows.and{β:Type}{Rw:World→Nat→Obj→Prop}{B:Nat}{I I':β→World→Prop}(h:OwnRows Rw B I)(h':OwnRows Rw B I'):OwnRows Rw B (fun s W=>I s W∧I' s W):=fun s W b a hs hg hr=>⟨h s W b a hs.1 hg hr,h' s W b a hs.2 hg hr⟩
def sZ{α:Type}(F:Fence)(n:Nat)(P:Program)(g:Nat)(lb:Array Value)(encs:α→Array Value)(R:α→World→Prop)(Kp:World→World→Prop)(Rw:World→Nat→Obj→Prop)(S Sp:List α→Prop)(N:Nat)(w:World):Prop:=
 ∀(l:Nat) (J Jx:List α→World→Prop) (W:World),Below w.heap.size w W→sK Rw W.heap.size J→sK Rw W.heap.size Jx→
  (∀pre x W1,J pre W1→R x W1→pre.length<N→YieldAt F (n-1) P l (encs x) W1 fun e W'=>
   (e= .returned (.bool true)∧J (pre++[x]) W'∧Kp W1 W')∨(e= .returned (.bool false)∧Jx (pre++[x]) W'))→
  J [] W→CallsIn F n P g (#[.func (.yield l) #[] #[]]++lb) W fun e W'=>(∃v,e= .returned v)∧((∃xs,S xs∧J xs W')∨(∃pre,Sp pre∧Jx pre W'))
def rK{α:Type}(B:Nat)(Kp:World→World→Prop)(I:List α→World→Prop)(Ix:Code→List α→World→Prop)(xs:List α)(W:World)(e:Exit)(_:Act)(W':World):Prop:=
 KeepsFrom B W W'∧match e with
  | .normal=>Kp W W'∧I xs W'
  | .ret=>Ix .ret xs W'
  | .exit id=>Ix (.exit id) xs W'
  | .goto t=>Ix (.goto t) xs W'
  | .panic _=>False
  | .outgrown=>False
section
variable {F:Fence}{n:Nat}{P:Program}{α:Type}
theorem Book.grownG{l d:Nat}{rec:Loop}{A B:World}{row:Option Nat}(h:Book l d rec A)(hg:A.grownBy B row)(hr:∀r,row=some r→∃o:Obj,A.heap[r]?=some o∧(o.isWalk=true∨o.isCells=true)):Book l d rec B:=by
 have k:∀{b:Nat} {o:Obj},A.heap[b]?=some o→o.isWalk=false→o.isCells=false→B.heap[b]?=some o:=fun c g i=>by
  refine(hg.block _ (Array.getElem?_eq_some_iff.1 c).1 (fun e=> ?_)).trans c
  obtain⟨j,f,a⟩:=hr _ e.symm
  rw[c]at f
  cases f
  rcases a with a|a
  ·rw[g]at a;cases a
  rw[i]at a;cases a
 exact⟨k h.loop rfl rfl,k h.calls rfl rfl⟩
theorem Gh{g:Operand}{ps:Array Tmp}{assign body:Code}{Q:Exit→Act→World→Prop}{a:Act}{w:World}
  (hro:F.round=none) (h1:1≤n) {gf:Nat} {lb:Array Value} (hg:a.eval g= .func (.func gf) #[] lb) (hFg:F.fn gf) (eg:∀args w,(callFunc gf args).run P w= .ok (.enter gf args) w)
  {encs:α→Array Value} {R:α→World→Prop} {Kp:World→World→Prop} {Rw:World→Nat→Obj→Prop} {S Sp:List α→Prop} {N:Nat} {w0:World} (hseq:sZ F (n-1) P gf lb encs R Kp Rw S Sp N w0) (hRw:∀W r o,Rw W r o→o.isCells=true)
  (hKt:∀{A B C:World},Kp A B→Kp B C→Kp A C) (hKb:∀(W:World) (l:Nat) (o o':Obj),w.heap.size≤l→W.heap[l]?=some o→o.isCells=false→o.isWalk=false→Kp W (W.putObj l o')) (hb0:Below w0.heap.size w0 w) (hps:∀x,(encs x).size=ps.size)
  (I:List α→World→Prop) (Ix:Code→List α→World→Prop) (hI:OwnRows Rw w.heap.size I) (hIx:∀c,OwnRows Rw w.heap.size (Ix c)) (h0:I [] w) (Ax:α→Act→World→Prop) (hAx:∀x a',OwnFrom w.heap.size (fun(_:Unit) W=>Ax x a' W))
  (hassign:∀(l:Nat) (pre:List α) (x:α) (W:World) (K:Act→World→Prop),I pre W→R x W→(∀a' W',KeepsFrom w.heap.size W W'→Kp W W'→I pre W'→Ax x a' W'→K a' W')→
   assign.wpIn (F.inRound l) (n-1-1) P (Exit.then K (fun _ _ _=>False)) {tmps:=(ps.zip (encs x)).foldl (fun t (p,v)=>t.setIfInBounds p v) a.tmps,defers:=[]} W)
  (hbody:∀(l:Nat) (pre:List α) (x:α) (a':Act) (W:World),w.heap.size≤l→(∃r,W.heap[l]?=some (.loop r))→I pre W→Ax x a' W→pre.length<N→body.wpIn (F.inRound l) (n-1-1) P (rK w.heap.size Kp I Ix (pre++[x]) W) a' W)
  (hdone:∀(D:Nat) (xs:List α) (W:World),w.heap.size≤D→S xs→I xs W→W.heap[D]?=some (.deferred (some []))→Q .normal {a with defers:={target:= .collected D,args:= #[]}::a.defers} W)
  (hstop:∀(D:Nat) (c:Code) (pre:List α) (W:World),w.heap.size≤D→Sp pre→Ix c pre W→W.heap[D]?=some (.deferred (some []))→c.wpIn F n P Q {a with defers:={target:= .collected D,args:= #[]}::a.defers} W):
  (Code.rangeFunc g ps assign body).wpIn F n P Q a w:=by
 refine wpIn_rangeFunc fun fn ay=> ?_
 rw[hro]
 obtain⟨d,hd⟩:∃d,w.heap.size=d:=⟨_,rfl⟩
 rw[hd]at hKb hI hIx hAx hassign hbody hdone hstop
 obtain⟨b,h⟩:∃b:LoopState→Option Code→Loop,∀st pe,b st pe={state:=st,pending:=pe,fn,tmps:=a.tmps,params:=ps,assign,body,defers:=d}:=⟨_,fun _ _=>rfl⟩
 have hz:(w.alloc (.deferred (some []))).heap.size=d+1:=by simp[hd]
 have Z:Book (d+1) d (b .ready none) ((w.alloc (.deferred (some []))).alloc (.loop (b .ready none))):=by
  refine⟨by rw[←hz];exact World.alloc_heap_new _ _,?_⟩
  rw[Below.heap_alloc _ _ _ (by omega),←hd];exact World.alloc_heap_new w _
 have q:=hI.from
 have i:=fun c=>(hIx c).from
 have ab:I [] ((w.alloc (.deferred (some []))).alloc (.loop (b .ready none))):=q.alloc _ (q.alloc _ h0)
 have ac:Below w0.heap.size w0 ((w.alloc (.deferred (some []))).alloc (.loop (b .ready none))):=(hb0.alloc hb0.size _).alloc (by have:=hb0.size;omega) _
 have aP:((w.alloc (.deferred (some []))).alloc (.loop (b .ready none))).heap.size=d+2:=by rw[World.size_alloc,hz]
 have O:=run_enterLoop_outer (P:=P) (w:=w) fn a.tmps ps assign body
 rw[hd,←h .ready none]at O
 generalize (w.alloc (.deferred (some []))).alloc (.loop (b .ready none))=W1 at Z ab ac aP O
 refine⟨d+1,[{target:= .collected d,args:= #[]}],W1,{target:= .fn (.func gf) lb,args:= #[.func (.yield (d+1)) #[] #[]]},W1,gf,#[.func (.yield (d+1)) #[] #[]]++lb,W1,O,?_,?_,?_,fun _=>h1,?_⟩
 ·simp only[resolve,hg];simp[go_sem]
 ·intro f' ad
  simp[Target.leads]at ad
  rw[←ad];exact hFg
 ·simp[invoke,go_sem,eg]
 have M:=hseq (d+1) (fun pre W=>I pre W∧Book (d+1) d (b .ready none) W) (fun pre W=>∃c,Ix c pre W∧Book (d+1) d (b .done (some c)) W) W1 ac
  (fun s A B Y hs y hr=>⟨hI s A B Y hs.1 y (fun r e=>by obtain⟨g1,o,G,H⟩:=hr r e;exact⟨by omega,o,G,H.imp Obj.not_cells_of_walk id⟩),hs.2.grownG y (fun r e=>by obtain⟨g1,o,G,H⟩:=hr r e;exact⟨o,G,H.imp id (hRw _ _ _)⟩)⟩)
  (fun s A B Y hs y hr=>by obtain⟨c,T,q2⟩:=hs;exact⟨c,hIx c s A B Y T y (fun r e=>by obtain⟨g1,o,G,H⟩:=hr r e;exact⟨by omega,o,G,H.imp Obj.not_cells_of_walk id⟩),q2.grownG y (fun r e=>by obtain⟨g1,o,G,H⟩:=hr r e;exact⟨o,G,H.imp id (hRw _ _ _)⟩)⟩)
 refine(M ?_ ⟨ab,Z⟩).mono ?_
 ·rintro pre x W ⟨hi,z⟩ hR aj
  have hy:=run_yield (P:=P) (args:=encs x) z.loop (by rw[h];exact hps x)
  rw[h]at hy
  refine⟨fn,_,assign,body,hy,roundIn_of_wpIn ay (hassign (d+1) pre x W _ hi hR fun a' Wa k1 k2 k3 k4=> ?_)⟩
  have u:=z.keeps (by omega) (Nat.le_refl _) k1
  refine⟨_,run_beginRound u.loop (by rw[h]),?_⟩
  have J:Book (d+1) d {b .ready none with state:= .busy} (Wa.putObj (d+1) (.loop {b .ready none with state:= .busy})):=u.turn (by omega)
  have aN:Kp Wa (Wa.putObj (d+1) (.loop {b .ready none with state:= .busy})):=hKb _ _ _ _ (by omega) u.loop rfl rfl
  have aL:=q.putObj (.loop {b .ready none with state:= .busy}) k3 (by omega) u.loop rfl
  have ax:=(hAx x a').putObj (s:=()) (.loop {b .ready none with state:= .busy}) k4 (by omega) u.loop rfl
  have j:∀(f:Option Code) (m:World),KeepsFrom d (Wa.putObj (d+1) (.loop {b .ready none with state:= .busy})) m→
    (Instr.endRound (d+1) f).run P m= .ok (.bool f.isNone) (m.putObj (d+1) (.loop (b (if f.isNone then .ready else .done) f)))∧
    m.heap[d+1]?=some (.loop {b .ready none with state:= .busy})∧Book (d+1) d (b (if f.isNone then .ready else .done) f) (m.putObj (d+1) (.loop (b (if f.isNone then .ready else .done) f))):=fun f m k=>by
   have L:=J.keeps (by omega) (Nat.le_refl _) k
   have hr:=run_endRound (P:=P) f L.loop
   rw[h .ready none]at hr
   rw[h (if f.isNone then .ready else .done) f]
   exact⟨hr,L.loop,L.turn (by omega)⟩
  refine wpIn_mono (hbody (d+1) pre x a' _ (by omega) ⟨_,J.loop⟩ aL ax aj) fun e a3 m hp=> ?_
  obtain⟨T,E⟩:=hp
  cases e with
  |normal=>
   obtain⟨q2,E⟩:=E
   have aO:∀o',Kp W (m.putObj (d+1) o'):=fun o'=>hKt k2 (hKt (hKt aN q2) (hKb _ _ _ _ (by omega) (J.keeps (by omega) (Nat.le_refl _) T).loop rfl rfl))
   obtain⟨U,V,X⟩:=j none m T
   exact⟨_,_,U, .inl ⟨rfl,⟨q.putObj _ E (by omega) V rfl,X⟩,aO _⟩⟩
  |ret=>
   obtain⟨U,V,X⟩:=j (some .ret) m T
   exact⟨_,_,U, .inr ⟨rfl,⟨.ret,(i _).putObj _ E (by omega) V rfl,X⟩⟩⟩
  |exit id=>
   obtain⟨U,V,X⟩:=j (some (.exit id)) m T
   exact⟨_,_,U, .inr ⟨rfl,⟨.exit id,(i _).putObj _ E (by omega) V rfl,X⟩⟩⟩
  |goto t=>
   obtain⟨U,V,X⟩:=j (some (.goto t)) m T
   exact⟨_,_,U, .inr ⟨rfl,⟨.goto t,(i _).putObj _ E (by omega) V rfl,X⟩⟩⟩
  |panic ch=>exact E.elim
  |outgrown=>exact E.elim
 rintro e W2 ⟨⟨v,rfl⟩,(⟨xs,hS,hi,z⟩|⟨pre,av,c,hi,z⟩)⟩
 ·have hr:=run_endLoop (P:=P) z.loop (by rw[h];simp)
  rw[h]at hr
  exact⟨none,_,hr,hdone d xs _ (Nat.le_refl _) hS (q.putObj _ hi (by omega) z.loop rfl) ((World.putObj_heap_other (by omega)).trans z.calls)⟩
 have hr:=run_endLoop (P:=P) z.loop (by rw[h];simp)
 rw[h]at hr
 exact⟨some c,_,hr,hstop d c pre _ (Nat.le_refl _) av ((i c).putObj _ hi (by omega) z.loop rfl) ((World.putObj_heap_other (by omega)).trans z.calls)⟩
end
def OwnRowsB{β:Type}(Rw:World→Nat→Obj→Prop)(B:Nat)(I:β→World→Prop):Prop:=
 ∀s W W' row,I s W→W.grownBy W' row→(∀r,row=some r→∃o:Obj,W.heap[r]?=some o∧((B≤r∧o.isCells=false)∨Rw W r o))→I s W'
theorem OwnRowsB.from{β:Type}{Rw:World→Nat→Obj→Prop}{B:Nat}{I:β→World→Prop}(h:OwnRowsB Rw B I):OwnFrom B I:=fun s W b a hs hg hr=>
 h s W b a hs hg (fun r e=>by obtain⟨c,o,f,g⟩:=hr r e;exact⟨o,f, .inl ⟨c,g⟩⟩)
theorem OwnRowsB.and{β:Type}{Rw:World→Nat→Obj→Prop}{B:Nat}{I I':β→World→Prop}(h:OwnRowsB Rw B I)(h':OwnRowsB Rw B I'):OwnRowsB Rw B (fun s W=>I s W∧I' s W):=fun s W b a hs hg hr=>⟨h s W b a hs.1 hg hr,h' s W b a hs.2 hg hr⟩
section
variable {F:Fence}{n:Nat}{P:Program}{α:Type}
end
end Go.Proofs.YtlejmeegkpdabaaGreatDoor
