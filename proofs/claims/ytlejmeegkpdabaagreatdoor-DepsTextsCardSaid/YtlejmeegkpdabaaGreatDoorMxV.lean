/- The proof of a statement, some of its texts joined in build order: part V. -/
import Derived.Test.YtlejmeegkpdabaaGreatDoorMxD
namespace Go.Proofs.YtlejmeegkpdabaaGreatDoor
open Go Go.RowKit Go.Maps
def LkG(S:Nat→Prop)(w:World)(f:Int→Value)(B:Bd)(p:List Int)(a':Option Addr)(c':Nat):Nat→Option Addr→Nat→List Int→Prop
 |0,a,c,t=>(t=p∧a=a'∧c=c')∧∀n r,t=n::r→n<0→B n=none
 |k+1,_,_,t=>∃n r u a3 c3,t=n::r∧n<0∧B n=some u∧f n= .slice a3 u.length c3∧Ints S w a3 c3 u∧LkG S w f B p a' c' k a3 c3 u
theorem LkG.ex{S:Nat→Prop}{w:World}{f:Int→Value}{B:Bd}{p:List Int}(hr:eX B)(h3:∀n,n<0→-24≤n→SlotW S w (B n) (f n)):
  ∀(k:Nat) (t:List Int) (a:Option Addr) (c:Nat),Rg t→Ints S w a c t→mG B p k t→∃a' c',LkG S w f B p a' c' k a c t∧Ints S w a' c' p
 |0,t,a,c,_,hT,⟨h1,h2⟩=>⟨a,c,⟨⟨h1,rfl,rfl⟩,h2⟩,h1▸hT⟩
 |k+1,t,a,c,rt,hT,⟨n,r,u,h1,h2,hB,h4⟩=>by
  have hs:=h3 n h2 (rt n (by rw[h1];simp) h2)
  rw[hB]at hs
  obtain⟨b,g,i,h⟩:=hs
  obtain⟨a',c',j,l⟩:=LkG.ex hr h3 k u b g (hr n u hB).1 h h4
  exact⟨a',c',⟨n,r,u,b,g,h1,h2,hB,i,h,j⟩,l⟩
theorem Lkd.len{B:Bd}{a p:List Int}(h:Lkd B a p)(ha:a.length≤60)(hB:∀n u,B n=some u→u.length≤60):p.length≤60:=by
 induction h with
 |stop _=>exact ha
 |go _ b _ c=>exact c (hB _ _ b)
theorem Slv2.turn{s:Sg}{B:Bd}{θ:Int→List Int}{ρ:Int→Nat}{a b p q:List Int}{B':Bd}{θ':Int→List Int}{ρ':Int→Nat}(h:Slv s B θ ρ)(ha:W1 s a)(hb:W1 s b)(hp:Lkd B a p)(hq:Lkd B b q)(h2:Slv2 s B θ ρ q p B' θ' ρ'):Slv2 s B θ ρ a b B' θ' ρ':=by
 refine⟨h2.slv,h2.rg,fun η hw=> ?_,h2.less⟩
 rw[h2.sat η hw]
 constructor
 ·rintro⟨c,g⟩
  refine⟨c,?_⟩
  rw[←hp.eta c ha (fun n u f=>(h.wf n u f).1),←hq.eta c hb (fun n u f=>(h.wf n u f).1),g]
 rintro⟨c,g⟩
 refine⟨c,?_⟩
 rw[hp.eta c ha (fun n u f=>(h.wf n u f).1),hq.eta c hb (fun n u f=>(h.wf n u f).1),g]
theorem wC{W4 w1 w2:World}{xb:Nat}{v:Value}(h:w1.cell? ⟨xb,0,none⟩=some v∧Below W4.heap.size W4 w1)(hb:Below w1.heap.size w1 w2):w2.cell? ⟨xb,0,none⟩=some v∧Below W4.heap.size W4 w2:=⟨cell_later hb h.1,aa h.2 hb⟩
def S4(xb:Nat)(v vi vj:Value)(ci cj:Addr)(wr w':World):Prop:=w'.cell? ⟨xb,0,none⟩=some v∧w'.cell? ci=some vi∧w'.cell? cj=some vj∧wr.grownBy w' (some xb)
theorem S4.call{xb:Nat}{v vi vj:Value}{ci cj:Addr}{wr w1 w2:World}(h:w1.cell? ⟨xb,0,none⟩=some v∧w1.cell? ci=some vi∧w1.cell? cj=some vj∧wr.grownBy w1 (some xb))(hb:Below w1.heap.size w1 w2):w2.cell? ⟨xb,0,none⟩=some v∧w2.cell? ci=some vi∧w2.cell? cj=some vj∧wr.grownBy w2 (some xb):=
 ⟨cell_later hb h.1,cell_later hb h.2.1,cell_later hb h.2.2.1,iW h.2.2.2 (jC hb)⟩
theorem wB{W4 w1 w2:World}{p:Addr}{v:Value}(h:Below W4.heap.size W4 w1∧w1.cell? p=some v)(hb:Below w1.heap.size w1 w2):Below W4.heap.size W4 w2∧w2.cell? p=some v:=⟨aa h.1 hb,cell_later hb h.2⟩
def S3(xb:Nat)(vi vj:Value)(ci cj:Addr)(wr w':World):Prop:=wr.grownBy w' (some xb)∧w'.cell? ci=some vi∧w'.cell? cj=some vj
end Go.Proofs.YtlejmeegkpdabaaGreatDoor
