/- A part of the prover's own frame for walking code (see the claim's other texts). -/
import Derived.RangeFuncIn
import Derived.RangeFuncCalls
import Derived.Below
import Derived.Defers
import Derived.KernelRfl
import Derived.Scope
set_option linter.unusedVariables false
set_option linter.unusedSimpArgs false
set_option maxRecDepth 100000
namespace Go.Sx
open Go.RowKit
abbrev Hl:=Nat->Option Obj
abbrev HP:=Hl->Prop
def Hl.disj (p q:Hl):Prop:= ∀b,p b=none∨q b=none
def Hl.inw (p:Hl) (w:World):Prop:= ∀b o,p b=some o->w.heap[b]? =some o
structure Q9 where
  g:FuncId
  b:Nat
  key:Value
  was:Option Value
  z:Value
  t1:TypeId
  t2:TypeId
  t3:TypeId
  t4:TypeId
inductive Dat where
  | none
  | nat (n:Nat)
  | int (n:Int)
  | val (v:Value)
  | QZ (l:List Value)
  | kv (m:List (Value×Value))
  | YV (L:List Q9)
  | wld (w:World)
  | list (l:List Dat)
inductive Qe where
  | free
  | blk (b:Nat) (o:Obj)
  | par (ns:List Nat) (d:Dat) (A:HP)
def Qe.sat:Qe->HP
  | .free,p=> ∀b,p b=none
  | .blk b o,p=>p b=some o/\ ∀c,c≠b->p c=none
  | .par _ _ A,p=>A p
abbrev Hp:=Nat->Qe
def JI {α:Type _} (H:Nat->α) (i:Nat) (s:α):Nat->α:=fun j=>bif Nat.beq j i then s else H j
theorem Vc {i j:Nat} (h:j≠i):Nat.beq j i=false:=by
  cases e:Nat.beq j i with
  | false=>rfl
  | true=>exact absurd (Nat.eq_of_beq_eq_true e) h
theorem Zj {α:Type _} (H:Nat->α) (i:Nat) (s:α):JI H i s i=s:=by simp [JI]
theorem QF {α:Type _} (H:Nat->α) {i j:Nat} (s:α) (h:j≠i):JI H i s j=H j:=by
  have:Nat.beq j i=false:=Vc h
  simp [JI,this]
theorem K6 {α:Type _} (H:Nat->α) {i j:Nat} (s t:α) (h:i≠j):JI (JI H i s) j t=JI (JI H j t) i s:=by
  funext k
  by_cases h1:k=i
  · subst h1;rw [QF _ _ h,Zj,Zj]
  · by_cases h2:k=j
    · subst h2;rw [Zj,QF _ _ h1,Zj]
    · rw [QF _ _ h2,QF _ _ h1,QF _ _ h1,QF _ _ h2]
def ZC (H:Hp) (R:HP) (w:World):Prop:=
  ∃ (p:Nat->Hl) (q:Hl),(∀i,(H i).sat (p i))/\R q/\(∀i,(p i).inw w)/\q.inw w/\(∀i j,i≠j->(p i).disj (p j))/\(∀i,(p i).disj q)
theorem ZC.block {H:Hp} {R:HP} {w:World} (h:ZC H R w) {i b:Nat} {o:Obj} (hi:H i= .blk b o):w.heap[b]? =some o:=by
  obtain ⟨p,q,hs,-,hp,-⟩:=h
  have:=hs i
  rw [hi] at this
  exact hp i b o this.1
theorem ZC.same {H:Hp} {R:HP} {w w' :World} (h:ZC H R w) (he: ∀ (b:Nat) (o:Obj),w.heap[b]? =some o->w'.heap[b]? =some o):ZC H R w' :=by
  obtain ⟨p,q,hs,hq,hp,hqw,hd⟩:=h
  exact ⟨p,q,hs,hq,fun i b o hb=>he b o (hp i b o hb),fun b o hb=>he b o (hqw b o hb),hd⟩
theorem ZC.set {H : Hp} {R : HP} {w w' : World} (h : ZC H R w) {i b : Nat} {o o' : Obj} (hi : H i = .blk b o)
    (hb:w'.heap[b]? =some o') (hn: ∀c,c≠b->w'.heap[c]? =w.heap[c]?):ZC (JI H i (.blk b o')) R w' :=by
  obtain ⟨p,q,hs,hq,hp,hqw,hd,hdq⟩:=h
  have hsi:=hs i
  rw [hi] at hsi
  have away: ∀ (r:Hl),(p i).disj r->r b=none:=fun r hr=>(hr b).resolve_left (by rw [hsi.1];simp)
  refine ⟨JI p i (fun c=>bif Nat.beq c b then some o' else none),q,fun j=> ?_,hq,fun j=> ?_,?_,fun j k hjk=> ?_,fun j=> ?_⟩
  · by_cases e:j=i
    · subst e;rw [Zj,Zj]
      refine ⟨by simp,fun c hc=> ?_⟩
      have:Nat.beq c b=false:=Vc hc
      simp [this]
    · rw [QF _ _ e,QF _ _ e];exact hs j
  · by_cases e:j=i
    · subst e;rw [Zj]
      intro c x hx
      by_cases hc:c=b
      · subst hc;simp at hx;subst hx;exact hb
      · have:Nat.beq c b=false:=Vc hc
        simp [this] at hx
    · rw [QF _ _ e]
      intro c x hx
      have hc:c≠b:=fun hc=>by
        subst hc
        have:=away (p j) (hd i j (Ne.symm e))
        rw [this] at hx;cases hx
      rw [hn c hc];exact hp j c x hx
  · intro c x hx
    have hc:c≠b:=fun hc=>by
      subst hc
      have:=away q (hdq i)
      rw [this] at hx;cases hx
    rw [hn c hc];exact hqw c x hx
  · have key: ∀r:Hl,(p i).disj r->Hl.disj (fun c=>bif Nat.beq c b then some o' else none) r:=by
      intro r hr c
      by_cases hc:c=b
      · subst hc;exact .inr (away r hr)
      · have:Nat.beq c b=false:=Vc hc
        exact .inl (by simp [this])
    by_cases e:j=i
    · subst e;rw [Zj,QF _ _ (Ne.symm hjk)];exact key _ (hd j k hjk)
    · rw [QF _ _ e]
      by_cases e' :k=i
      · subst e';rw [Zj];exact fun c=>(key _ (hd k j (Ne.symm hjk)) c).symm
      · rw [QF _ _ e'];exact hd j k hjk
  · by_cases e:j=i
    · subst e;rw [Zj]
      intro c
      by_cases hc:c=b
      · subst hc;exact .inr (away q (hdq j))
      · have:Nat.beq c b=false:=Vc hc
        exact .inl (by simp [this])
    · rw [QF _ _ e];exact hdq j
theorem ZC.new {H : Hp} {R : HP} {w w' : World} (h : ZC H R w) {i : Nat} {o : Obj}
    (hb:w'.heap[w.heap.size]? =some o) (hn: ∀c,c<w.heap.size->w'.heap[c]? =w.heap[c]?):ZC (JI H i (.blk w.heap.size o)) R w' :=by
  obtain ⟨p,q,hs,hq,hp,hqw,hd,hdq⟩:=h
  have Z2: ∀ (r:Hl),r.inw w->r w.heap.size=none:=fun r hr=>by
    cases hx:r w.heap.size with
    | none=>rfl
    | some x=>have:=hr _ _ hx;simp at this
  have keep: ∀ (r:Hl),r.inw w->r.inw w' :=fun r hr c x hx=>by
    have hlt:c<w.heap.size:=by
      have:=hr c x hx
      rcases Nat.lt_or_ge c w.heap.size with h | h
      · exact h
      · simp [Array.getElem?_eq_none h] at this
    rw [hn c hlt];exact hr c x hx
  have key: ∀r:Hl,r.inw w->Hl.disj (fun c=>bif Nat.beq c w.heap.size then some o else none) r:=fun r hr c=>by
    by_cases hc:c=w.heap.size
    · subst hc;exact .inr (Z2 r hr)
    · have:Nat.beq c w.heap.size=false:=Vc hc
      exact .inl (by simp [this])
  refine ⟨JI p i (fun c=>bif Nat.beq c w.heap.size then some o else none),q,fun j=> ?_,hq,fun j=> ?_,keep q hqw,fun j k hjk=> ?_,fun j=> ?_⟩
  · by_cases e:j=i
    · subst e;rw [Zj,Zj]
      refine ⟨by simp,fun c hc=> ?_⟩
      have:Nat.beq c w.heap.size=false:=Vc hc
      simp [this]
    · rw [QF _ _ e,QF _ _ e];exact hs j
  · by_cases e:j=i
    · subst e;rw [Zj]
      intro c x hx
      by_cases hc:c=w.heap.size
      · subst hc;simp at hx;subst hx;exact hb
      · have:Nat.beq c w.heap.size=false:=Vc hc
        simp [this] at hx
    · rw [QF _ _ e];exact keep _ (hp j)
  · by_cases e:j=i
    · subst e;rw [Zj,QF _ _ (Ne.symm hjk)];exact key _ (hp k)
    · rw [QF _ _ e]
      by_cases e' :k=i
      · subst e';rw [Zj];exact fun c=>(key _ (hp j) c).symm
      · rw [QF _ _ e'];exact hd j k hjk
  · by_cases e:j=i
    · subst e;rw [Zj];exact key _ hqw
    · rw [QF _ _ e];exact hdq j
structure Kw (w w' :World):Prop where
  os:w'.os=w.os
  tape:w'.tape=w.tape
  output:w'.output=w.output
  size:w.heap.size<=w'.heap.size
  drawn:w.drawn<=w'.drawn
theorem Kw.refl (w:World):Kw w w:=⟨rfl,rfl,rfl,Nat.le_refl _,by first | exact Nat.le_refl _ | exact Nat.le_succ _ | simp⟩
theorem Kw.trans {a b c:World} (h:Kw a b) (k:Kw b c):Kw a c:=⟨k.os.trans h.os,k.tape.trans h.tape,k.output.trans h.output,Nat.le_trans h.size k.size,Nat.le_trans h.drawn k.drawn⟩
inductive zk where
  | rd (i:Nat)
  | rv (i:Nat) (f:Addr->Array Value->Value)
  | wr (i:Nat)
  | ws (i:Nat)
  | nw (i:Nat)
  | ch
def Yn:Value->Bool
  | .agg _ | .tuple _=>false
  | _=>true
def Jf (f:Nat×Nat) (off:Nat):Bool:=f.1<=off && off<f.2
def XA:Obj->Bool
  | .cells .. =>true
  | _=>false
def qX (a:Addr) (n:Nat) (o:Obj):Obj:=
  if n=0 then o else
  match o with
  | .cells c elem (lo,hi)=> .cells c elem (if lo==hi then (a.off,a.off+n) else (min lo a.off,max hi (a.off+n)))
  | o=>o
def BJ:Obj->Option (TypeId×Nat)
  | .cells c e _=>some (e,c.size)
  | _=>none
def Vm (o:Obj) (off:Nat):Bool:=
  match o with
  | .cells _ _ f=>Jf f off
  | _=>false
def Q1 (P : Program) {α : Type} : Sem α -> List zk -> Hp -> (α -> Hp -> List zk -> Prop) -> Prop
  | .pure a,acc,H,K=>K a H acc
  | .load _ a k, .rd i :: acc, H, K =>
    match H i with
    | .blk b (.cells c _ _)=>a.block=b/\a.spot=none/\(match c[a.off]? with | some v=>Q1 P (k v) acc H K | none=>False)
    | _=>False
  | .load _ a k, .rv i f :: acc, H, K =>
    match H i with
    | .blk b (.cells c _ _)=>a.block=b/\a.spot=none/\c[a.off]? =some (f a c)/\Q1 P (k (f a c)) acc H K
    | _=>False
  | .store _ a v k, .wr i :: acc, H, K =>
    match Yn v with
    | false=>False
    | true =>
      match H i with
      | .blk b (.cells c t f)=>a.block=b/\a.spot=none/\
          (match Nat.blt a.off c.size,Jf f a.off with | true,false=>Q1 P k acc (JI H i (.blk b (.cells (c.setIfInBounds a.off v) t f))) K | _,_=>False)
      | _=>False
  | .store _ a v k, .ws i :: acc, H, K =>
    match H i with
    | .blk b (.cells c t f)=>a.block=b/\a.spot=none/\Yn v=true/\a.off<c.size/\Jf f a.off=false/\
        Q1 P k acc (JI H i (.blk b (.cells (c.setIfInBounds a.off v) t f))) K
    | _=>False
  | .new o k, .nw i::acc,H,K=> ∀b,Q1 P (k b) acc (JI H i (.blk b o)) K
  | .shape r k, .rd i :: acc, H, K =>
    match H i with
    | .blk b o=>r=b/\Q1 P (k (BJ o)) acc H K
    | _=>False
  | .freeze a n k, .wr i :: acc, H, K =>
    match H i with
    | .blk b o=>a.block=b/\Q1 P k acc (JI H i (.blk b (qX a n o))) K
    | _=>False
  | .frozen a k, .rd i :: acc, H, K =>
    match H i with
    | .blk b o=>a.block=b/\Q1 P (k (Vm o a.off)) acc H K
    | _=>False
  | .getObj r k, .rd i :: acc, H, K =>
    match H i with
    | .blk b o=>r=b/\(match XA o with | true=>False | false=>Q1 P (k o) acc H K)
    | _=>False
  | .setObj r o k, .wr i :: acc, H, K =>
    match H i with
    | .blk b o' =>r=b/\(match XA o' with | true=>False | false=>Q1 P k acc (JI H i (.blk b o)) K)
    | _=>False
  | .choose q k, .ch::acc,H,K=> ∀t,(q.forced=true->t=0)->(q.forced=false-> ∃u,t=q.cut u)->Q1 P (k t) acc H K
  | .program k,acc,H,K=>Q1 P (k P) acc H K
  | .mark _ k,acc,H,K=>Q1 P k acc H K
  | _,_,_,_=>False
theorem ZR {w:World} {a:Addr} {c:Array Value} {t:TypeId} {f:Nat×Nat} (h:w.heap[a.block]? =some (.cells c t f)) (hs:a.spot=none):
    w.cell? a=c[a.off]? :=by simp [World.cell?,h,hs]
theorem JP {w:World} {a:Addr} {o:Obj} (h:w.heap[a.block]? =some o):w.frozen? a=Vm o a.off:=by
  unfold World.frozen? Vm Jf
  rw [h]
  cases o<;>rfl
theorem Jn {w:World} {b:Nat} {o:Obj} (g:Obj->Obj) (h:w.heap[b]? =some o):(w.heap.modify b g)[b]? =some (g o):=by
  simp [Array.getElem?_modify,h]
theorem KC {w:World} {b c:Nat} (g:Obj->Obj) (h:c≠b):(w.heap.modify b g)[c]? =w.heap[c]? :=by
  rw [Array.getElem?_modify,if_neg (fun e=>h e.symm)]
theorem kM {P : Program} {α : Type} (m : Sem α) : ∀ (acc : List zk) (H : Hp) (K : α -> Hp -> List zk -> Prop) (R : HP) (w : World),
    Q1 P m acc H K->ZC H R w-> ∃a w' H' acc',m.run P w= .ok a w' /\K a H' acc' /\ZC H' R w' /\Kw w w' :=by
  induction m with
  | pure a=>exact fun acc H K R w h ho=>⟨a,w,H,acc,rfl,h,ho, .refl _⟩
  | load m a k ih =>
    intro acc H K R w h ho
    match acc,h with
    | .rd i :: acc, h =>
      simp only [Q1] at h
      cases hs:H i with
      | free=>rw [hs] at h;exact h.elim
      | par _ _ A=>rw [hs] at h;exact h.elim
      | blk b o =>
        rw [hs] at h
        cases o with
        | cells c t f =>
          obtain ⟨hb,hsp,h⟩:=h
          have hc:=ZR (w:=w) (a:=a) (by rw [hb];exact ho.block hs) hsp
          cases hv:c[a.off]? with
          | none=>rw [hv] at h;exact h.elim
          | some v =>
            rw [hv] at h
            obtain ⟨x,w',H',acc',hr,r⟩:=ih v acc H K R w h ho
            exact ⟨x,w',H',acc',by simp only [Sem.run,hc,hv];exact hr,r⟩
        | _=>exact h.elim
    | .rv i g :: acc, h =>
      simp only [Q1] at h
      cases hs:H i with
      | free=>rw [hs] at h;exact h.elim
      | par _ _ A=>rw [hs] at h;exact h.elim
      | blk b o =>
        rw [hs] at h
        cases o with
        | cells c t f =>
          obtain ⟨hb,hsp,hv,h⟩:=h
          have hc:=ZR (w:=w) (a:=a) (by rw [hb];exact ho.block hs) hsp
          obtain ⟨x,w',H',acc',hr,r⟩:=ih _ acc H K R w h ho
          exact ⟨x,w',H',acc',by simp only [Sem.run,hc,hv];exact hr,r⟩
        | _=>exact h.elim
    | .wr _::_,h | .ws _::_,h | .nw _::_,h | .ch::_,h | [],h=>exact h.elim
  | store m a v k ih =>
    intro acc H K R w h ho
    have go: ∀ (i:Nat) (acc:List zk) (b:Nat) (c:Array Value) (t:TypeId) (f:Nat×Nat),H i= .blk b (.cells c t f)->a.block=b->a.spot=none->Yn v=true->a.off<c.size->Jf f a.off=false->
        Q1 P k acc (JI H i (.blk b (.cells (c.setIfInBounds a.off v) t f))) K-> ∃a_1 w' H' acc',(Sem.store m a v k).run P w= .ok a_1 w' /\K a_1 H' acc' /\ZC H' R w' /\Kw w w' :=by
      intro i acc b c t f hs hb hsp hv hlt hf h
      have hblk:w.heap[a.block]? =some (.cells c t f):=by rw [hb];exact ho.block hs
      have hc:=ZR hblk hsp
      have hfz:w.frozen? a=false:=by rw [JP hblk];exact hf
      have hv' :c[a.off]? =some c[a.off]:=Array.getElem?_eq_getElem hlt
      have hset:(w.setCell a v).heap[b]? =some (.cells (c.setIfInBounds a.off v) t f):=by
        simp only [World.setCell,hb]
        rw [Jn _ (by rw [←hb];exact hblk)]
        simp [hsp]
      have hoth: ∀x,x≠b->(w.setCell a v).heap[x]? =w.heap[x]? :=fun x hx=>by
        simp only [World.setCell,hb]
        exact KC _ hx
      obtain ⟨x,w',H',acc',hr,hk,ho',he⟩:=ih acc _ K R _ h (ho.set hs hset hoth)
      refine ⟨x,w',H',acc',?_,hk,ho',?_⟩
      · cases v<;>simp [Yn] at hv<;>simp only [Sem.run,hc,hv',hfz,Bool.false_eq_true,if_false]<;>exact hr
      · exact Kw.trans (b:=w.setCell a v) ⟨rfl,rfl,rfl,by simp [World.setCell],by first | exact Nat.le_refl _ | exact Nat.le_succ _ | simp⟩ he
    match acc,h with
    | .wr i :: acc, h =>
      simp only [Q1] at h
      cases hv:Yn v with
      | false=>rw [hv] at h;exact h.elim
      | true =>
        rw [hv] at h
        cases hs:H i with
        | free=>rw [hs] at h;exact h.elim
        | par _ _ A=>rw [hs] at h;exact h.elim
        | blk b o =>
          rw [hs] at h
          cases o with
          | cells c t f =>
            obtain ⟨hb,hsp,h⟩:=h
            cases hl:Nat.blt a.off c.size with
            | false=>rw [hl] at h;exact h.elim
            | true =>
              cases hf:Jf f a.off with
              | true=>rw [hl,hf] at h;exact h.elim
              | false =>
                rw [hl,hf] at h
                exact go i acc b c t f hs hb hsp hv (by simpa [Nat.blt_eq] using hl) hf h
          | _=>exact h.elim
    | .ws i :: acc, h =>
      simp only [Q1] at h
      cases hs:H i with
      | free=>rw [hs] at h;exact h.elim
      | par _ _ A=>rw [hs] at h;exact h.elim
      | blk b o =>
        rw [hs] at h
        cases o with
        | cells c t f =>
          obtain ⟨hb,hsp,hv,hlt,hf,h⟩:=h
          exact go i acc b c t f hs hb hsp hv hlt hf h
        | _=>exact h.elim
    | .rd _::_,h | .rv _ _::_,h | .nw _::_,h | .ch::_,h | [],h=>cases v<;>exact h.elim
  | new o k ih =>
    intro acc H K R w h ho
    match acc,h with
    | .nw i :: acc, h =>
      simp only [Q1] at h
      have hnew:({ w with heap:=w.heap.push o }:World).heap[w.heap.size]? =some o:=by simp
      obtain ⟨x,w',H',acc',hr,hk,ho',he⟩:=ih w.heap.size acc _ K R { w with heap:=w.heap.push o } (h w.heap.size)
        (ho.new hnew (fun c hc=>by simp only;rw [Array.getElem?_push,if_neg (by omega)]))
      exact ⟨x,w',H',acc',by simp only [Sem.run];exact hr,hk,ho',Kw.trans (b:= { w with heap:=w.heap.push o }) ⟨rfl,rfl,rfl,by simp,by first | exact Nat.le_refl _ | exact Nat.le_succ _ | simp⟩ he⟩
    | .rd _::_,h | .rv _ _::_,h | .wr _::_,h | .ws _::_,h | .ch::_,h | [],h=>exact h.elim
  | shape r k ih =>
    intro acc H K R w h ho
    match acc,h with
    | .rd i :: acc, h =>
      simp only [Q1] at h
      cases hs:H i with
      | free=>rw [hs] at h;exact h.elim
      | par _ _ A=>rw [hs] at h;exact h.elim
      | blk b o =>
        rw [hs] at h
        obtain ⟨rfl,h⟩:=h
        obtain ⟨x,w',H',acc',hr,q⟩:=ih _ acc H K R w h ho
        refine ⟨x,w',H',acc',?_,q⟩
        have:w.shape? r=BJ o:=by simp only [World.shape?,ho.block hs];cases o<;>rfl
        simp only [Sem.run,this];exact hr
    | .rv _ _::_,h | .wr _::_,h | .ws _::_,h | .nw _::_,h | .ch::_,h | [],h=>exact h.elim
  | freeze a n k ih =>
    intro acc H K R w h ho
    match acc,h with
    | .wr i :: acc, h =>
      simp only [Q1] at h
      cases hs:H i with
      | free=>rw [hs] at h;exact h.elim
      | par _ _ A=>rw [hs] at h;exact h.elim
      | blk b o =>
        rw [hs] at h
        obtain ⟨hb,h⟩:=h
        have hblk:=ho.block hs
        have hown:ZC (JI H i (.blk b (qX a n o))) R (w.freeze a n):=by
          refine ho.set hs ?_ ?_
          · unfold World.freeze qX
            split
            · exact hblk
            · simp only [hb];rw [Jn _ hblk];cases o<;>rfl
          · intro c hc
            unfold World.freeze
            split
            · rfl
            · simp only [hb];exact KC _ hc
        obtain ⟨x,w',H',acc',hr,hk,ho',he⟩:=ih acc _ K R _ h hown
        refine ⟨x,w',H',acc',by simp only [Sem.run];exact hr,hk,ho',Kw.trans ?_ he⟩
        unfold World.freeze
        split
        · exact .refl _
        · exact ⟨rfl,rfl,rfl,by simp,by first | exact Nat.le_refl _ | exact Nat.le_succ _ | simp⟩
    | .rd _::_,h | .rv _ _::_,h | .ws _::_,h | .nw _::_,h | .ch::_,h | [],h=>exact h.elim
  | frozen a k ih =>
    intro acc H K R w h ho
    match acc,h with
    | .rd i :: acc, h =>
      simp only [Q1] at h
      cases hs:H i with
      | free=>rw [hs] at h;exact h.elim
      | par _ _ A=>rw [hs] at h;exact h.elim
      | blk b o =>
        rw [hs] at h
        obtain ⟨hb,h⟩:=h
        obtain ⟨x,w',H',acc',hr,q⟩:=ih _ acc H K R w h ho
        refine ⟨x,w',H',acc',?_,q⟩
        have:w.frozen? a=Vm o a.off:=JP (by rw [hb];exact ho.block hs)
        simp only [Sem.run,this];exact hr
    | .rv _ _::_,h | .wr _::_,h | .ws _::_,h | .nw _::_,h | .ch::_,h | [],h=>exact h.elim
  | getObj r k ih =>
    intro acc H K R w h ho
    match acc,h with
    | .rd i :: acc, h =>
      simp only [Q1] at h
      cases hs:H i with
      | free=>rw [hs] at h;exact h.elim
      | par _ _ A=>rw [hs] at h;exact h.elim
      | blk b o =>
        rw [hs] at h
        obtain ⟨rfl,h⟩:=h
        have hblk:=ho.block hs
        cases hc:XA o with
        | true=>rw [hc] at h;exact h.elim
        | false =>
          rw [hc] at h
          obtain ⟨x,w',H',acc',hr,q⟩:=ih _ acc H K R w h ho
          refine ⟨x,w',H',acc',?_,q⟩
          cases o<;>simp [XA] at hc<;>simp only [Sem.run,hblk]<;>exact hr
    | .rv _ _::_,h | .wr _::_,h | .ws _::_,h | .nw _::_,h | .ch::_,h | [],h=>exact h.elim
  | setObj r o k ih =>
    intro acc H K R w h ho
    match acc,h with
    | .wr i :: acc, h =>
      simp only [Q1] at h
      cases hs:H i with
      | free=>rw [hs] at h;exact h.elim
      | par _ _ A=>rw [hs] at h;exact h.elim
      | blk b o' =>
        rw [hs] at h
        obtain ⟨rfl,h⟩:=h
        have hblk:=ho.block hs
        cases hc:XA o' with
        | true=>rw [hc] at h;exact h.elim
        | false =>
          rw [hc] at h
          have hlt:r<w.heap.size:=by
            rcases Nat.lt_or_ge r w.heap.size with h | h
            · exact h
            · simp [Array.getElem?_eq_none h] at hblk
          obtain ⟨x,w',H',acc',hr,hk,ho',he⟩:=ih acc _ K R { w with heap:=w.heap.setIfInBounds r o } h
            (ho.set hs (by simp [hlt]) (fun c hcr=>by simp [Ne.symm hcr]))
          refine ⟨x,w',H',acc',?_,hk,ho',Kw.trans (b:= { w with heap:=w.heap.setIfInBounds r o }) ⟨rfl,rfl,rfl,by simp,by first | exact Nat.le_refl _ | exact Nat.le_succ _ | simp⟩ he⟩
          cases o' <;>simp [XA] at hc<;>simp only [Sem.run,hblk]<;>exact hr
    | .rd _::_,h | .rv _ _::_,h | .ws _::_,h | .nw _::_,h | .ch::_,h | [],h=>exact h.elim
  | choose q k ih =>
    intro acc H K R w h ho
    match acc,h with
    | .ch :: acc, h =>
      simp only [Q1] at h
      cases hf:q.forced with
      | true =>
        obtain ⟨x,w',H',acc',hr,r⟩:=ih 0 acc H K R w (h 0 (fun _=>rfl) (fun e=>by rw [hf] at e;cases e)) ho
        exact ⟨x,w',H',acc',by simp only [Sem.run,hf,if_true];exact hr,r⟩
      | false =>
        obtain ⟨x,w',H',acc',hr,hk,ho',he⟩:=ih (q.cut (w.tape w.drawn q)) acc H K R { w with drawn:=w.drawn+1 } (h _ (fun e=>by rw [hf] at e;cases e) (fun _=>⟨_,rfl⟩)) (ho.same fun _ _ hb=>hb)
        exact ⟨x,w',H',acc',by simp only [Sem.run,hf,Bool.false_eq_true,if_false];exact hr,hk,ho',Kw.trans (b:= { w with drawn:=w.drawn+1 }) ⟨rfl,rfl,rfl,Nat.le_refl _,by first | exact Nat.le_refl _ | exact Nat.le_succ _ | simp⟩ he⟩
    | .rd _::_,h | .rv _ _::_,h | .wr _::_,h | .ws _::_,h | .nw _::_,h | [],h=>exact h.elim
  | sys c k ih=>intro acc H K R w h ho;cases acc<;>exact h.elim
  | program k ih =>
    intro acc H K R w h ho
    have h' :Q1 P (k P) acc H K:=by cases acc<;>exact h
    obtain ⟨x,w',H',acc',hr,r⟩:=ih P acc H K R w h' ho
    exact ⟨x,w',H',acc',by simp only [Sem.run];exact hr,r⟩
  | mark m k ih =>
    intro acc H K R w h ho
    have h' :Q1 P k acc H K:=by cases acc<;>exact h
    obtain ⟨x,w',H',acc',hr,r⟩:=ih acc H K R w h' ho
    exact ⟨x,w',H',acc',by simp only [Sem.run];exact hr,r⟩
  | halt h=>intro acc H K R w h ho;cases acc<;>exact h.elim
end Go.Sx
namespace Go.Sx
open Go.RowKit
structure St where
  fr:Nat->Value
  H:Hp
  df:List Deferred
def JF (fr:Nat->Value):Operand->Value
  | .tmp t=>fr t
  | .const v=>v
  | .global g=> .pointer (some ⟨g,0,none⟩)
  | .func f=> .func (.func f) #[] #[]
structure V4 (n:Nat) (s:St) (a:Act):Prop where
  size:a.tmps.size=n
  at_: ∀i,a.tmps.getD i undef=s.fr i
  df:a.defers=s.df
theorem V4.eval {n:Nat} {s:St} {a:Act} (h:V4 n s a):a.eval=JF s.fr:=by
  funext x
  cases x with
  | tmp t=>exact h.at_ t
  | _=>rfl
theorem V4.put {n d:Nat} {s:St} {a:Act} {v:Value} {H:Hp} (h:V4 n s a) (hd:d<n):V4 n ⟨JI s.fr d v,H,s.df⟩ (a.put (some d) v):=by
  refine ⟨by simp [Act.put,h.size],fun i=> ?_,h.df⟩
  have hz:=h.at_ i
  have hsz:=h.size
  simp only [Act.put]
  by_cases e:i=d
  · subst e
    rw [Zj]
    simp [Array.getD_eq_getD_getElem?,hsz,hd]
  · rw [QF _ _ e,←hz]
    simp [Array.getD_eq_getD_getElem?,Ne.symm e]
theorem V4.heap {n:Nat} {s:St} {a:Act} {H:Hp} (h:V4 n s a):V4 n ⟨s.fr,H,s.df⟩ a:=⟨h.size,h.at_,h.df⟩
def Y4 (n:Nat) (dst:Option Tmp) (v:Value) (fr:Nat->Value) (K:(Nat->Value)->Prop):Prop:=
  match dst with
  | none=>K fr
  | some d=>match Nat.blt d n with | true=>K (JI fr d v) | false=>False
theorem xT {n:Nat} {dst:Option Tmp} {v:Value} {s:St} {K:(Nat->Value)->Prop} {a:Act} (hr:V4 n s a) (h:Y4 n dst v s.fr K) (H:Hp):
    ∃fr',K fr' /\V4 n ⟨fr',H,s.df⟩ (a.put dst v):=by
  unfold Y4 at h
  cases dst with
  | none=>exact ⟨_,h,hr.heap⟩
  | some d =>
    cases hb:Nat.blt d n with
    | false=>simp only [hb] at h
    | true=>simp only [hb] at h;exact ⟨_,h,hr.put (by simpa [Nat.blt_eq] using hb)⟩
def QK (l:List Qe):Hp:=fun i=>l.getD i .free
def db (r:Result Next) (v:Value) (w:World):Prop:=r= .ok (.value v) w∨(r= .ok .skip w/\v=undef)
def KY (P:Program) (m:Sem Next) (Hs:List Qe) (X:Type) (val:X->Value) (us:X->List Qe) (Φ:X->Prop):Prop:=
  ∀ (R:HP) (w:World),ZC (QK Hs) R w-> ∃x w',Φ x/\db (m.run P w) (val x) w' /\ZC (QK (us x)) R w' /\Kw w w'
def Qk (P:Program) (m:Sem Next) (v:Value):Prop:= ∀w,m.run P w= .ok (.value v) w
def qQ (P:Program) (f:FuncId):Prop:= ∀args w,(callFunc f args).run P w= .ok (.enter f args) w
structure Qs (P:Program) (f:FuncId) (args:Array Value) (Hs:List Qe) (X:Type) (val:X->Value) (us:X->List Qe) (Φ:X->Prop):Prop where
  enter:qQ P f
  calls: ∀ (R:HP) (w:World),ZC (QK Hs) R w->
    Calls P f args w fun e w' => ∃x,Φ x/\e= .returned (val x)/\ZC (QK (us x)) R w' /\Kw w w'
def pq (H : Hp) (ids : List Nat) (R : HP) : HP := fun q =>
  ∃ (p : Nat -> Hl) (r : Hl), (∀ i, i ∉ ids -> (H i).sat (p i)) /\ R r /\ (∀ i j, i ∉ ids -> j ∉ ids -> i ≠ j -> (p i).disj (p j)) /\ (∀ i, i ∉ ids -> (p i).disj r) /\
    (∀b o,q b=some o↔(∃i,i∉ids/\p i b=some o)∨r b=some o)
def ZY (H:Hp):List Nat->Hp
  | []=>H
  | i::l=>ZY (JI H i .free) l
def Ja (H:Hp):List Nat->List Qe->Hp
  | i::l,ss=>Ja (JI H i (ss.headD .free)) l ss.tail
  | [],_=>H
def Wx (ids:List Nat) (p:Nat->Hl):Nat->Hl:=fun k=>match ids[k]? with | some i=>p i | none=>fun _=>none
theorem Xb {ids:List Nat} {p:Nat->Hl} {k i:Nat} (h:ids[k]? =some i):Wx ids p k=p i:=by simp [Wx,h]
theorem Xa {ids:List Nat} {p:Nat->Hl} {k:Nat} (h:ids[k]? =none):Wx ids p k=fun _=>none:=by simp [Wx,h]
open Classical in
theorem J2 {H : Hp} {R : HP} {w : World} {ids : List Nat} (hn : ids.Nodup) (h : ZC H R w) : ZC (QK (ids.map H)) (pq H ids R) w := by
  obtain ⟨p,q,hs,hq,hp,hqw,hd,hdq⟩:=h
  let q' :Hl:=fun b=>if hx: ∃i o,i∉ids/\p i b=some o then some (Classical.choose (Classical.choose_spec hx)) else q b
  have hq' : ∀b o,q' b=some o↔(∃i,i∉ids/\p i b=some o)∨q b=some o:=by
    intro b o
    by_cases hx: ∃i o,i∉ids/\p i b=some o
    · have hsp:=Classical.choose_spec (Classical.choose_spec hx)
      have e:q' b=some (Classical.choose (Classical.choose_spec hx)):=dif_pos hx
      rw [e]
      constructor
      · intro h;cases h;exact .inl ⟨_,hsp.1,hsp.2⟩
      · rintro (⟨i,hi,ho⟩ | ho)
        · by_cases ei:i=Classical.choose hx
          · subst ei;rw [hsp.2] at ho;exact ho
          · rcases hd i _ ei b with h | h
            · rw [ho] at h;cases h
            · rw [hsp.2] at h;cases h
        · rcases hdq (Classical.choose hx) b with h | h
          · rw [hsp.2] at h;cases h
          · rw [ho] at h;cases h
    · have e:q' b=q b:=dif_neg hx
      rw [e]
      constructor
      · exact .inr
      · rintro (⟨i,hi,ho⟩ | ho)
        · exact absurd ⟨i,o,hi,ho⟩ hx
        · exact ho
  refine ⟨Wx ids p,q',fun k=> ?_,⟨p,q,fun i _=>hs i,hq,fun i j _ _ h=>hd i j h,fun i _=>hdq i,hq'⟩,fun k=> ?_,?_,fun k l hkl=> ?_,fun k=> ?_⟩
  · unfold QK
    cases hk:ids[k]? with
    | none=>rw [List.getD_eq_getElem?_getD,List.getElem?_map,hk,Xa hk];exact fun _=>rfl
    | some i=>rw [List.getD_eq_getElem?_getD,List.getElem?_map,hk,Xb hk];exact hs i
  · cases hk:ids[k]? with
    | none=>rw [Xa hk];intro b o h;cases h
    | some i=>rw [Xb hk];exact hp i
  · intro b o hb
    rcases (hq' b o).1 hb with ⟨i,_,h⟩ | h
    · exact hp i b o h
    · exact hqw b o h
  · cases hk:ids[k]? with
    | none=>rw [Xa hk];exact fun _=> .inl rfl
    | some i =>
      cases hl:ids[l]? with
      | none=>rw [Xa hl];exact fun _=> .inr rfl
      | some j =>
        rw [Xb hk,Xb hl]
        refine hd i j (fun e=>hkl ?_)
        subst e
        obtain ⟨hk1,hk2⟩:=List.getElem?_eq_some_iff.1 hk
        obtain ⟨hl1,hl2⟩:=List.getElem?_eq_some_iff.1 hl
        exact (List.getElem_inj hn).1 (hk2.trans hl2.symm)
  · cases hk : ids[k]? with
    | none=>rw [Xa hk];exact fun _=> .inl rfl
    | some i =>
      rw [Xb hk]
      intro b
      cases hpb:p i b with
      | none=>exact .inl rfl
      | some o =>
        right
        cases hqb:q' b with
        | none=>rfl
        | some o' =>
          rcases (hq' b o').1 hqb with ⟨j,hj,h⟩ | h
          · have hij:i≠j:=fun e=>hj (e▸List.mem_of_getElem? hk)
            rcases hd i j hij b with h' | h'
            · rw [hpb] at h';cases h'
            · rw [h] at h';cases h'
          · rcases hdq i b with h' | h'
            · rw [hpb] at h';cases h'
            · rw [h] at h';cases h'
theorem zd (l:List Nat): ∀ (H:Hp) (i:Nat),i∈l->ZY H l i= .free:=by
  have stay: ∀ (l:List Nat) (H:Hp) (i:Nat),H i= .free->ZY H l i= .free:=by
    intro l
    induction l with
    | nil=>exact fun H i h=>h
    | cons x l ih =>
      intro H i h
      refine ih _ i ?_
      by_cases e:i=x
      · subst e;rw [Zj]
      · rw [QF _ _ e];exact h
  induction l with
  | nil=>exact fun H i h=>by cases h
  | cons x l ih =>
    intro H i h
    rcases List.mem_cons.1 h with rfl | h
    · exact stay l _ _ (Zj _ _ _)
    · exact ih _ i h
theorem Jw (l:List Nat): ∀ (H:Hp) (i:Nat),i∉l->ZY H l i=H i:=by
  induction l with
  | nil=>exact fun H i h=>rfl
  | cons x l ih =>
    intro H i h
    rw [List.mem_cons,not_or] at h
    exact (ih _ i h.2).trans (QF _ _ h.1)
theorem X8: ∀ (l:List Nat) (ss:List Qe) (H:Hp) (i:Nat),i∉l->Ja H l ss i=H i
  | [],_,_,_,_=>by simp [Ja]
  | x :: l, ss, H, i, h => by
    rw [List.mem_cons,not_or] at h
    exact (X8 l _ _ i h.2).trans (QF _ _ h.1)
theorem qw: ∀ (l:List Nat) (ss:List Qe) (H:Hp) (k i:Nat),l.Nodup->l[k]? =some i->Ja H l ss i=QK ss k
  | [],_,_,k,_,_,h=>by simp at h
  | x :: l, ss, H, 0, i, hn, h => by
    simp at h;subst h
    rw [List.nodup_cons] at hn
    refine (X8 l _ _ x hn.1).trans ?_
    rw [Zj]
    cases ss<;>simp [QK]
  | x :: l, ss, H, k + 1, i, hn, h => by
    rw [List.nodup_cons] at hn
    have:=qw l ss.tail (JI H x (ss.headD .free)) k i hn.2 (by simpa using h)
    rw [Ja,this]
    cases ss<;>simp [QK]
theorem Va {H : Hp} {R : HP} {w : World} {ins outs : List Nat} {ss : List Qe} (ho : outs.Nodup)
    (h:ZC (QK ss) (pq H ins R) w):ZC (Ja (ZY H ins) outs ss) R w:=by
  obtain ⟨p,q,hs,⟨p2,r,hs2,hr,hd2,hdr2,hq2⟩,hp,hqw,hd,hdq⟩:=h
  have hidx: ∀i k,outs.idxOf? i=some k->outs[k]? =some i:=by
    intro i k hk
    rw [List.idxOf?_eq_some_iff] at hk
    obtain ⟨h1,h3,-⟩:=hk
    rw [List.getElem?_eq_getElem h1]
    simpa using h3
  let pc:Nat->Hl:=fun i=>match outs.idxOf? i with | some k=>p k | none=>if i∈ins then fun _=>none else p2 i
  have pcs: ∀i k,outs.idxOf? i=some k->pc i=p k:=fun i k h=>by simp only [pc,h]
  have pci: ∀i,outs.idxOf? i=none->i∈ins->pc i=fun _=>none:=fun i h h' =>by simp only [pc,h,h',if_true]
  have pcn: ∀i,outs.idxOf? i=none->i∉ins->pc i=p2 i:=fun i h h' =>by simp only [pc,h,h',if_false]
  have sub2: ∀i,i∉ins-> ∀b o,p2 i b=some o->q b=some o:=fun i hi b o h=>(hq2 b o).2 (.inl ⟨i,hi,h⟩)
  have subr: ∀b o,r b=some o->q b=some o:=fun b o h=>(hq2 b o).2 (.inr h)
  have qd: ∀k (x:Hl),(∀b o,x b=some o->q b=some o)->(p k).disj x:=fun k x hx b=>by
    rcases hdq k b with h | h
    · exact .inl h
    · right
      cases hxb:x b with
      | none=>rfl
      | some o=>rw [hx b o hxb] at h;cases h
  refine ⟨pc,r,fun i=> ?_,hr,fun i=> ?_,fun b o hb=>hqw b o (subr b o hb),fun i j hij=> ?_,fun i=> ?_⟩
  · cases hk:outs.idxOf? i with
    | some k=>rw [pcs i k hk,qw outs ss _ k i ho (hidx i k hk)];exact hs k
    | none =>
      have hi:i∉outs:=List.idxOf?_eq_none_iff.1 hk
      rw [X8 _ _ _ _ hi]
      by_cases hi' :i∈ins
      · rw [zd _ _ _ hi',pci i hk hi'];exact fun _=>rfl
      · rw [Jw _ _ _ hi',pcn i hk hi'];exact hs2 i hi'
  · cases hk:outs.idxOf? i with
    | some k=>rw [pcs i k hk];exact hp k
    | none =>
      by_cases hi' :i∈ins
      · rw [pci i hk hi'];intro b o h;cases h
      · rw [pcn i hk hi'];exact fun b o h=>hqw b o (sub2 i hi' b o h)
  · cases hk : outs.idxOf? i with
    | some k =>
      rw [pcs i k hk]
      cases hl:outs.idxOf? j with
      | some l =>
        rw [pcs j l hl]
        refine hd k l (fun e=>hij ?_)
        subst e
        have:=(hidx i k hk).symm.trans (hidx j k hl)
        cases this;rfl
      | none =>
        by_cases hj:j∈ins
        · rw [pci j hl hj];exact fun _=> .inr rfl
        · rw [pcn j hl hj];exact qd k _ (sub2 j hj)
    | none =>
      by_cases hi' :i∈ins
      · rw [pci i hk hi'];exact fun _=> .inl rfl
      · rw [pcn i hk hi']
        cases hl:outs.idxOf? j with
        | some l=>rw [pcs j l hl];exact fun b=>(qd l _ (sub2 i hi') b).symm
        | none =>
          by_cases hj:j∈ins
          · rw [pci j hl hj];exact fun _=> .inr rfl
          · rw [pcn j hl hj];exact hd2 i j hi' hj hij
  · cases hk:outs.idxOf? i with
    | some k=>rw [pcs i k hk];exact qd k _ subr
    | none =>
      by_cases hi' :i∈ins
      · rw [pci i hk hi'];exact fun _=> .inl rfl
      · rw [pcn i hk hi'];exact hdr2 i hi'
end Go.Sx
namespace Go.Sx
open Go.RowKit
structure Zi:Type 1 where
  X:Type
  val:X->Value
  us:X->List Qe
  Φ:X->Prop
inductive KX:Type 1 where
  | sem (acc:List zk)
  | eq (v:List Value->Value)
  | gen (acc:List zk) (C:List Value->Zi)
  | specr (ins:List Nat) (C:List Value->List Qe->Zi)
  | specw (ins outs:List Nat) (C:List Value->List Qe->Zi)
  | callr (ins:List Nat) (C:List Value->List Qe->Zi)
  | callw (ins outs:List Nat) (C:List Value->List Qe->Zi)
  | calln (ins outs:List Nat) (C:List Value->List Qe->Zi)
  | dfr
  | no
def F3 (x:Nat):List Nat->Bool
  | []=>false
  | y::l=>bif Nat.beq x y then true else F3 x l
theorem GG {x:Nat} {l:List Nat}:F3 x l=true↔x∈l:=by
  induction l with
  | nil=>simp [F3]
  | cons y l ih =>
    simp only [F3,List.mem_cons]
    cases h:Nat.beq x y with
    | true=>simp [Nat.eq_of_beq_eq_true h]
    | false=>simp [ih,Nat.ne_of_beq_eq_false h]
def XF:List Nat->Bool
  | []=>true
  | x::l=>bif F3 x l then false else XF l
theorem Xq {l:List Nat}:XF l=true↔l.Nodup:=by
  induction l with
  | nil=>simp [XF]
  | cons x l ih =>
    simp only [XF,List.nodup_cons,←ih]
    cases h:F3 x l with
    | true=>simp [GG.1 h]
    | false =>
      have:x∉l:=fun hx=>by rw [GG.2 hx] at h;cases h
      simp [this]
def V8:List Nat->List Nat->Bool
  | [],_=>true
  | x::l,m=>bif F3 x m then false else V8 l m
theorem gG {l m:List Nat}:V8 l m=true↔ ∀x∈l,x∉m:=by
  induction l with
  | nil=>simp [V8]
  | cons x l ih =>
    simp only [V8,List.mem_cons,forall_eq_or_imp,←ih]
    cases h:F3 x m with
    | true=>simp [GG.1 h]
    | false =>
      have:x∉m:=fun hx=>by rw [GG.2 hx] at h;cases h
      simp [this]
inductive Tgt where
  | fn (f:FuncId)
  | yld (l:Nat)
def j9 (P : Program) (l : Nat) (args : Array Value) (Hs : List Qe) (X : Type) (val : X -> Value) (us : X -> List Qe) (Φ : X -> Prop) : Prop :=
  ∀ (R : HP) (w : World), ZC (QK Hs) R w -> ∃ fn tmps assign body, (Instr.yield l args).run P w = .ok (.round l fn tmps assign body) w /\
    RoundIn Fence.wide 0 P l fn tmps assign body w fun e w' => ∃x,Φ x/\e= .returned (val x)/\ZC (QK (us x)) R w' /\Kw w w'
def HS (P:Program) (g:Tgt) (args:Array Value) (Hs:List Qe) (X:Type) (val:X->Value) (us:X->List Qe) (Φ:X->Prop):Prop:=
  match g with
  | .fn f=>Qs P f args Hs X val us Φ
  | .yld l=>j9 P l args Hs X val us Φ
def Xo (ρ : Operand -> Value) (o : Op) : Option (Tgt × Array Value) :=
  match o with
  | .call { callee := .value f, args, .. } =>
    match ρ f with
    | .func (.func g) first cap=>some (.fn g,first++args.map ρ++cap)
    | .func (.yield l) first _=>some (.yld l,first++args.map ρ)
    | _=>none
  | _=>none
def VW (b:Bool) (X:Prop):Prop:=match b with | true=>X | false=>False
theorem Ze {b:Bool} {X:Prop}:VW b X↔b=true/\X:=by cases b<;>simp [VW]
def Zq (ρ:Operand->Value) (o:Op):List Value:=o.operands.toList.map ρ
def GS (T:(X:Type)->(X->Value)->(X->List Qe)->(X->Prop)->Prop) (C:Zi) (Hs:List Qe) (K:Value->Hp->Prop) (H:Hp):Prop:=
  T C.X C.val (fun _=>Hs) C.Φ/\(∃x,C.Φ x)/\ ∀x,C.Φ x->K (C.val x) H
def BP (T:(X:Type)->(X->Value)->(X->List Qe)->(X->Prop)->Prop) (C:Zi) (Hs:List Qe) (outs:List Nat) (K:Value->Hp->Prop) (H:Hp):Prop:=
  T C.X C.val (fun x=>Hs++C.us x) C.Φ/\(∃x,C.Φ x)/\ ∀x,C.Φ x->K (C.val x) (Ja H outs (C.us x))
def GJ (T:(X:Type)->(X->Value)->(X->List Qe)->(X->Prop)->Prop) (C:Zi) (ins outs:List Nat) (K:Value->Hp->Prop) (H:Hp):Prop:=
  T C.X C.val C.us C.Φ/\(∃x,C.Φ x)/\ ∀x,C.Φ x->K (C.val x) (Ja (ZY H ins) outs (C.us x))
def Xh (P : Program) (ρ : Operand -> Value) (o : Oper) (a : KX) (K : Value -> Hp -> Prop) (H : Hp) : Prop :=
  match a with
  | .sem acc=>Q1 P (execOp ρ o) acc H fun nx H' _=>match nx with | .value v=>K v H' | .skip=>K undef H' | _=>False
  | .eq v=>Qk P (execOp ρ o) (v (Zq ρ o.op))/\K (v (Zq ρ o.op)) H
  | .gen acc C=>Q1 P (execOp ρ o) acc H fun nx H' _=>match nx with | .value u=>(∃x,(C (Zq ρ o.op)).Φ x/\u=(C (Zq ρ o.op)).val x)/\ ∀x,(C (Zq ρ o.op)).Φ x->K ((C (Zq ρ o.op)).val x) H' | _=>False
  | .specr ins C=>VW (XF ins) (GS (KY P (execOp ρ o) (ins.map H)) (C (Zq ρ o.op) (ins.map H)) (ins.map H) K H)
  | .specw ins outs C=>VW (XF ins) (VW (XF outs) (GJ (KY P (execOp ρ o) (ins.map H)) (C (Zq ρ o.op) (ins.map H)) ins outs K H))
  | .callr ins C =>
    match Xo ρ o.op with
    | some (f,args)=>VW (XF ins) (GS (HS P f args (ins.map H)) (C (Zq ρ o.op) (ins.map H)) (ins.map H) K H)
    | none=>False
  | .callw ins outs C =>
    match Xo ρ o.op with
    | some (f,args)=>VW (XF ins) (VW (XF outs) (GJ (HS P f args (ins.map H)) (C (Zq ρ o.op) (ins.map H)) ins outs K H))
    | none=>False
  | .calln ins outs C =>
    match Xo ρ o.op with
    | some (f,args)=>VW (XF ins) (VW (XF (ins++outs)) (BP (HS P f args (ins.map H)) (C (Zq ρ o.op) (ins.map H)) (ins.map H) outs K H))
    | none=>False
  | .dfr=>False
  | .no=>False
def JJ (ops : Array Oper) (o : Oper) (fr : Nat -> Value) (X : Prop) : Prop :=
  match o.guard with
  | none=>X
  | some (j, b) =>
    match (ops[j]?).bind (·.dst) with
    | some d=>match fr d with | .bool c=>c=b/\X | _=>False
    | none=>False
def Ji (ops : Array Oper) (o : Oper) (fr : Nat -> Value) (X : Prop) : Prop :=
  match o.guard with
  | none=>False
  | some (j, b) =>
    match (ops[j]?).bind (·.dst) with
    | some d=>match fr d with | .bool c=>c= !b/\X | .tuple _=>X | _=>False
    | none=>False
def QcQ (ρ : Operand -> Value) (o : Op) (K : Deferred -> Prop) : Prop :=
  match o with
  | .defer { callee := .value f, args, .. } =>
    match ρ f with
    | .func fn first cap=>K { target:= .fn fn cap,args:=first++args.map ρ }
    | _=>False
  | _=>False
def bZ (P:Program) (n:Nat) (ops:Array Oper) (o:Oper) (a:KX) (s:St) (K:St->Prop):Prop:=
  match a with
  | .no=>Ji ops o s.fr (Y4 n o.dst undef s.fr fun fr' =>K ⟨fr',s.H,s.df⟩)
  | .dfr=>JJ ops o s.fr (QcQ (JF s.fr) o.op fun d=>Y4 n o.dst undef s.fr fun fr' =>K ⟨fr',s.H,d::s.df⟩)
  | a=>JJ ops o s.fr (Xh P (JF s.fr) o a (fun v H' =>Y4 n o.dst v s.fr fun fr' =>K ⟨fr',H',s.df⟩) s.H)
def YU (r:Option Nat):Fence:= { fn:=fun _=>True,depth:=none,alive:=false,round:=r }
theorem Jp {r:Option Nat} {n:Nat} {P:Program} {f:FuncId} {args:Array Value} {w:World} {R:Ending->World->Prop} (h:Calls P f args w R):CallsIn (YU r) n P f args w R:=by
  have h1:CallsIn Fence.wide n P f args w R:=callsIn_wide.2 h
  cases r with
  | none=>exact h1
  | some l=>exact h1.inRound l
theorem jA {n:Nat} {s:St} {a:Act} (hr:V4 n s a) {ops:Array Oper} {j d:Nat} {c:Bool} (hd:(ops[j]?).bind (·.dst)=some d) (hc:s.fr d= .bool c):yielded ops a.tmps j=some c:=by
  have h:=hr.at_ d
  rw [hc] at h
  have:a.tmps[d]? =some (.bool c):=by
    rw [Array.getD_eq_getD_getElem?] at h
    cases hx:a.tmps[d]? with
    | none=>rw [hx] at h;simp [undef] at h
    | some v=>rw [hx] at h;simpa using h
  simp [yielded,hd,this]
theorem U6 {P:Program} {ρ:Operand->Value} {o:Oper} {f:FuncId} {args:Array Value} (h:Xo ρ o.op=some (.fn f,args)) (he:qQ P f) (w:World):
    (execOp ρ o).run P w= .ok (.enter f args) w:=by
  unfold Xo at h
  unfold execOp
  split at h
  · rename_i g asg ts heq
    rw [heq]
    split at h
    · rename_i k first cap hf
      cases h
      simp only [resolve,hf,Deferred.ofValue]
      exact he _ w
    · cases h
    · cases h
  · cases h
theorem zI {P:Program} {ρ:Operand->Value} {o:Oper} {l:Nat} {args:Array Value} (h:Xo ρ o.op=some (.yld l,args)) (w:World):
    (execOp ρ o).run P w=(Instr.yield l args).run P w:=by
  unfold Xo at h
  unfold execOp
  split at h
  · rename_i g asg ts heq
    rw [heq]
    split at h
    · cases h
    · rename_i k first cap hf
      cases h
      simp only [resolve,hf,Deferred.ofValue]
      rfl
    · cases h
  · cases h
theorem j9.use {P:Program} {l:Nat} {args:Array Value} {H:Hp} {ins outs:List Nat} {X:Type} {val:X->Value} {us:X->List Qe} {Φ:X->Prop} {R:HP} {w:World}
    (h:j9 P l args (ins.map H) X val us Φ) (hi:ins.Nodup) (ho:outs.Nodup) (hw:ZC H R w):
    ∃ fn tmps assign body, (Instr.yield l args).run P w = .ok (.round l fn tmps assign body) w /\
      RoundIn Fence.wide 0 P l fn tmps assign body w fun e w' => ∃x,Φ x/\e= .returned (val x)/\ZC (Ja (ZY H ins) outs (us x)) R w' /\Kw w w' :=
  let ⟨fn,tmps,asg,b,h1,h2⟩:=h _ w (J2 hi hw)
  ⟨fn,tmps,asg,b,h1,h2.mono fun _ _ ⟨x,hx,he,ho',hext⟩=>⟨x,hx,he,Va ho ho',hext⟩⟩
theorem JM {r:Option Nat} {P:Program} {l:Nat} {f:FuncId} {tmps:Array Value} {assign body:Code} {w:World} {R:Ending->World->Prop} (h:RoundIn Fence.wide 0 P l f tmps assign body w R):RoundIn (YU r) 0 P l f tmps assign body w R:=by
  cases r with
  | none=>exact h
  | some l=>exact h
theorem KY.use {P:Program} {m:Sem Next} {H:Hp} {ins outs:List Nat} {X:Type} {val:X->Value} {us:X->List Qe} {Φ:X->Prop} {R:HP} {w:World}
    (h:KY P m (ins.map H) X val us Φ) (hi:ins.Nodup) (ho:outs.Nodup) (hw:ZC H R w):
    ∃x w',Φ x/\db (m.run P w) (val x) w' /\ZC (Ja (ZY H ins) outs (us x)) R w' /\Kw w w' :=by
  obtain ⟨x,w',hx,hr,ho',he⟩:=h _ w (J2 hi hw)
  exact ⟨x,w',hx,hr,Va ho ho',he⟩
theorem VB {H:Hp}: ∀ {ins:List Nat},ins.Nodup->Ja (ZY H ins) ins (ins.map H)=H:=by
  intro ins hn
  funext i
  by_cases hi:i∈ins
  · obtain ⟨k,hk⟩:=List.getElem?_of_mem hi
    rw [qw ins _ _ k i hn hk]
    simp [QK,List.getD_eq_getElem?_getD,hk]
  · rw [X8 _ _ _ _ hi,Jw _ _ _ hi]
theorem Fp: ∀ (a:List Nat) (x:List Qe) {H:Hp} {b:List Nat} {y:List Qe},a.length=x.length->Ja H (a++b) (x++y)=Ja (Ja H a x) b y
  | [],[],_,_,_,_=>rfl
  | [],_::_,_,_,_,h=>by simp at h
  | _::_,[],_,_,_,h=>by simp at h
  | i::a,s::x,H,b,y,h=>Fp a x (H:=JI H i s) (by simpa using h)
theorem WG {H:Hp} {ins outs:List Nat} {ss:List Qe} (hi:ins.Nodup):Ja (ZY H ins) (ins++outs) (ins.map H++ss)=Ja H outs ss:=by
  rw [Fp ins (ins.map H) (by simp),VB hi]
theorem Qs.use {P:Program} {f:FuncId} {args:Array Value} {H:Hp} {ins outs:List Nat} {X:Type} {val:X->Value} {us:X->List Qe} {Φ:X->Prop} {R:HP} {w:World}
    (h:Qs P f args (ins.map H) X val us Φ) (hi:ins.Nodup) (ho:outs.Nodup) (hw:ZC H R w):
    Calls P f args w fun e w' => ∃x,Φ x/\e= .returned (val x)/\ZC (Ja (ZY H ins) outs (us x)) R w' /\Kw w w' :=
  (h.calls _ w (J2 hi hw)).mono fun _ _ ⟨x,hx,he,ho',hext⟩=>⟨x,hx,he,Va ho ho',hext⟩
def WV (n:Nat) (K:St->Prop) (R:HP) (w:World) (a' :Act) (w' :World):Prop:=
  ∃s',K s' /\V4 n s' a' /\ZC s'.H R w' /\Kw w w'
theorem XH {P : Program} {n : Nat} {r : Option Nat} {o : Oper} {a : KX} {s : St} {K : Value -> Hp -> Prop} {act : Act} {R : HP} {w : World} {next : Act -> World -> Prop} {Q : Exit -> Act -> World -> Prop}
    (h:Xh P (JF s.fr) o a K s.H) (hr:V4 n s act) (ho:ZC s.H R w)
    (hn: ∀v H' w',K v H' ->ZC H' R w' ->Kw w w' ->next (act.put o.dst v) w'):o.wpIn (YU r) 0 P act w next Q:=by
  refine ⟨fun _ _=>trivial,?_⟩
  have hev:=hr.eval
  rw [←hev] at h
  have sem: ∀ (nx:Next) (w' :World),(execOp act.eval o).run P w= .ok nx w' ->(∀d,nx≠ .defer d)->(o.semAt (YU r).round act.eval).run P w= .ok nx w' :=by
    intro nx w' hrun hnd
    rw [Oper.semAt_eq _ _ _ ?_]
    · exact hrun
    · intro c hc
      unfold execOp at hrun
      rw [hc] at hrun
      simp only [Sem.run_bind] at hrun
      cases hx:Sem.run P (resolve act.eval c o.type) w with
      | ok d w'' =>rw [hx] at hrun;simp [pure] at hrun;exact hnd _ hrun.1.symm
      | halt _ _=>rw [hx] at hrun;simp at hrun
  cases a with
  | sem acc =>
    obtain ⟨nx,w',H',acc',hrun,hk,ho',he⟩:=kM _ acc s.H _ R w h ho
    cases nx<;>first
      | (rw [sem _ _ hrun (by intro d;simp)];exact hn _ _ _ hk ho' he)
      | exact hk.elim
  | eq v=>rw [sem _ _ (h.1 w) (by intro d;simp)];exact hn _ _ _ h.2 ho (.refl _)
  | gen acc C =>
    obtain ⟨nx,w',H',acc',hrun,hk,ho',he⟩:=kM _ acc s.H _ R w h ho
    cases nx<;>first
      | (rw [sem _ _ hrun (by intro d; simp)]
         obtain ⟨⟨x,hx,rfl⟩,hk⟩:=hk
         exact hn _ _ _ (hk x hx) ho' he)
      | exact hk.elim
  | specr ins C =>
    obtain ⟨hi,h,_,hk⟩:=Ze.1 h
    have hi:=Xq.1 hi
    obtain ⟨x,w',hx,hrun,ho',he⟩:=h.use hi hi ho
    rw [VB hi] at ho'
    have hk:=hk x hx
    rcases hrun with hrun | ⟨hrun,hv⟩
    · rw [sem _ _ hrun (by intro d;simp)];exact hn _ _ _ hk ho' he
    · rw [hv] at hk;rw [sem _ _ hrun (by intro d;simp)];exact hn _ _ _ hk ho' he
  | specw ins outs C =>
    obtain ⟨hi,h⟩:=Ze.1 h
    obtain ⟨hu,h,_,hk⟩:=Ze.1 h
    obtain ⟨x,w',hx,hrun,ho',he⟩:=h.use (Xq.1 hi) (Xq.1 hu) ho
    have hk:=hk x hx
    rcases hrun with hrun | ⟨hrun,hv⟩
    · rw [sem _ _ hrun (by intro d;simp)];exact hn _ _ _ hk ho' he
    · rw [hv] at hk;rw [sem _ _ hrun (by intro d;simp)];exact hn _ _ _ hk ho' he
  | callr ins C =>
    simp only [Xh] at h
    cases hc:Xo act.eval o.op with
    | none=>rw [hc] at h;exact h.elim
    | some fa =>
      obtain ⟨g,args⟩:=fa
      rw [hc] at h
      obtain ⟨hi,h,_,hk⟩:=Ze.1 h
      have hi:=Xq.1 hi
      cases g with
      | fn f =>
        have h:Qs P f args _ _ _ _ _:=h
        rw [sem _ _ (U6 hc h.enter w) (by intro d;simp),Oper.uponIn_enter]
        refine ⟨fun h=>by simp [YU] at h,(Jp (h.use hi hi ho)).mono ?_⟩
        rintro e w' ⟨x,hx,rfl,ho',he⟩
        rw [VB hi] at ho'
        exact hn _ _ _ (hk x hx) ho' he
      | yld l =>
        have h:j9 P l args _ _ _ _ _:=h
        obtain ⟨fn,tmps,asg,bd,hrun,hrd⟩:=h.use hi hi ho
        rw [sem _ _ ((zI hc w).trans hrun) (by intro d;simp),Oper.uponIn_round]
        refine ⟨fun h=>by simp [YU] at h,(JM hrd).mono ?_⟩
        rintro e w' ⟨x,hx,rfl,ho',he⟩
        rw [VB hi] at ho'
        exact hn _ _ _ (hk x hx) ho' he
  | callw ins outs C =>
    simp only [Xh] at h
    cases hc:Xo act.eval o.op with
    | none=>rw [hc] at h;exact h.elim
    | some fa =>
      obtain ⟨g,args⟩:=fa
      rw [hc] at h
      obtain ⟨hi,h⟩:=Ze.1 h
      obtain ⟨hu,h,_,hk⟩:=Ze.1 h
      cases g with
      | fn f =>
        have h:Qs P f args _ _ _ _ _:=h
        rw [sem _ _ (U6 hc h.enter w) (by intro d;simp),Oper.uponIn_enter]
        refine ⟨fun h=>by simp [YU] at h,(Jp (h.use (Xq.1 hi) (Xq.1 hu) ho)).mono ?_⟩
        rintro e w' ⟨x,hx,rfl,ho',he⟩
        exact hn _ _ _ (hk x hx) ho' he
      | yld l =>
        have h:j9 P l args _ _ _ _ _:=h
        obtain ⟨fn,tmps,asg,bd,hrun,hrd⟩:=h.use (Xq.1 hi) (Xq.1 hu) ho
        rw [sem _ _ ((zI hc w).trans hrun) (by intro d;simp),Oper.uponIn_round]
        refine ⟨fun h=>by simp [YU] at h,(JM hrd).mono ?_⟩
        rintro e w' ⟨x,hx,rfl,ho',he⟩
        exact hn _ _ _ (hk x hx) ho' he
  | calln ins outs C =>
    simp only [Xh] at h
    cases hc:Xo act.eval o.op with
    | none=>rw [hc] at h;exact h.elim
    | some fa =>
      obtain ⟨g,args⟩:=fa
      rw [hc] at h
      obtain ⟨hi,h⟩:=Ze.1 h
      obtain ⟨hu,h,_,hk⟩:=Ze.1 h
      cases g with
      | fn f =>
        have h:Qs P f args _ _ _ _ _:=h
        rw [sem _ _ (U6 hc h.enter w) (by intro d;simp),Oper.uponIn_enter]
        refine ⟨fun h=>by simp [YU] at h,(Jp (h.use (Xq.1 hi) (Xq.1 hu) ho)).mono ?_⟩
        rintro e w' ⟨x,hx,rfl,ho',he⟩
        rw [WG (Xq.1 hi)] at ho'
        exact hn _ _ _ (hk x hx) ho' he
      | yld l =>
        have h:j9 P l args _ _ _ _ _:=h
        obtain ⟨fn,tmps,asg,bd,hrun,hrd⟩:=h.use (Xq.1 hi) (Xq.1 hu) ho
        rw [sem _ _ ((zI hc w).trans hrun) (by intro d;simp),Oper.uponIn_round]
        refine ⟨fun h=>by simp [YU] at h,(JM hrd).mono ?_⟩
        rintro e w' ⟨x,hx,rfl,ho',he⟩
        rw [WG (Xq.1 hi)] at ho'
        exact hn _ _ _ (hk x hx) ho' he
  | dfr=>exact h.elim
  | no=>exact h.elim
theorem ZP {n : Nat} {ops : Array Oper} {o : Oper} {s : St} {X : Prop} {a : Act} (hr : V4 n s a) (h : JJ ops o s.fr X) : Region.wanted o (yielded ops a.tmps) = true /\ X := by
  unfold JJ at h
  unfold Region.wanted
  cases hg:o.guard with
  | none=>rw [hg] at h;exact ⟨rfl,h⟩
  | some jb =>
    obtain ⟨j,b⟩:=jb
    rw [hg] at h
    simp only at h ⊢
    split at h
    · rename_i d hd
      split at h
      · rename_i c hc
        obtain ⟨rfl,h⟩:=h
        exact ⟨by rw [jA hr hd hc];simp,h⟩
      · exact h.elim
    · exact h.elim
theorem HB {n:Nat} {s:St} {a:Act} (hr:V4 n s a) {ops:Array Oper} {j d:Nat} {c:Array Value} (hd:(ops[j]?).bind (·.dst)=some d) (hc:s.fr d= .tuple c):yielded ops a.tmps j=none:=by
  have h:=hr.at_ d
  rw [hc] at h
  rw [Array.getD_eq_getD_getElem?] at h
  cases hx:a.tmps[d]? with
  | none=>simp [yielded,hd,hx]
  | some v =>
    rw [hx] at h
    simp at h;subst h
    simp [yielded,hd,hx]
theorem kX {n : Nat} {ops : Array Oper} {o : Oper} {s : St} {X : Prop} {a : Act} (hr : V4 n s a) (h : Ji ops o s.fr X) : Region.wanted o (yielded ops a.tmps) = false /\ X := by
  unfold Ji at h
  unfold Region.wanted
  cases hg:o.guard with
  | none=>rw [hg] at h;exact h.elim
  | some jb =>
    obtain ⟨j,b⟩:=jb
    rw [hg] at h
    simp only at h ⊢
    split at h
    · rename_i d hd
      split at h
      · rename_i c hc
        obtain ⟨rfl,h⟩:=h
        exact ⟨by rw [jA hr hd hc];simp,h⟩
      · rename_i c hc
        exact ⟨by rw [HB hr hd hc];simp,h⟩
      · exact h.elim
    · exact h.elim
def Vw:KX->Bool
  | .dfr=>true
  | _=>false
theorem FN {P : Program} {n : Nat} {r : Option Nat} {ops : Array Oper} {o : Oper} {a : KX} {s : St} {K : St -> Prop} {act : Act} {R : HP} {w : World} {next : Act -> World -> Prop} {Q : Exit -> Act -> World -> Prop}
    (hd:r=none∨Vw a=false) (h:bZ P n ops o a s K) (hr:V4 n s act) (ho:ZC s.H R w) (hn: ∀a' w',WV n K R w a' w' ->next a' w'):
    if Region.wanted o (yielded ops act.tmps)=true then o.wpIn (YU r) 0 P act w next Q
    else (∀f,o.about P w act.eval=some f->(YU r).fn f)/\next (act.put o.dst undef) w:=by
  have fin: ∀v H' w',Y4 n o.dst v s.fr (fun fr' =>K ⟨fr',H',s.df⟩)->ZC H' R w' ->Kw w w' ->next (act.put o.dst v) w' :=by
    intro v H' w' hk ho' he
    obtain ⟨fr',hk,hrel⟩:=xT hr hk H'
    exact hn _ _ ⟨_,hk,hrel,ho',he⟩
  cases a with
  | no =>
    obtain ⟨hw,hk⟩:=kX hr h
    rw [if_neg (by rw [hw];simp)]
    exact ⟨fun _ _=>trivial,fin undef s.H w hk ho (.refl _)⟩
  | dfr =>
    obtain ⟨hw,hk⟩:=ZP hr h
    rw [if_pos hw]
    refine ⟨fun _ _=>trivial,?_⟩
    rcases hd with rfl | hd
    · have hev:=hr.eval
      rw [←hev] at hk
      unfold QcQ at hk
      split at hk
      · rename_i f args ts heq
        split at hk
        · rename_i fn first cap hf
          have hrun:(o.semAt (YU none).round act.eval).run P w= .ok (.defer { target:= .fn fn cap,args:=first++args.map act.eval }) w:=by
            show (execOp act.eval o).run P w=_
            unfold execOp
            rw [heq]
            simp only [resolve,hf,Deferred.ofValue]
            rfl
          rw [hrun,Oper.uponIn_defer]
          obtain ⟨fr',hk,hrel⟩:=xT (v:=undef) hr hk s.H
          refine hn _ _ ⟨_,hk,⟨?_,?_,?_⟩,ho, .refl _⟩
          · have:=hrel.size
            cases hx:o.dst<;>rw [hx] at this<;>simpa [Act.put] using this
          · have:=hrel.at_
            cases hx:o.dst<;>rw [hx] at this<;>simpa [Act.put] using this
          · have:=hr.df
            cases hx:o.dst<;>simp [Act.put,this]
        · exact hk.elim
      · exact hk.elim
    · cases hd
  | sem acc =>
    obtain ⟨hw,hk⟩:=ZP hr h
    rw [if_pos hw]
    exact XH hk hr ho fin
  | eq v =>
    obtain ⟨hw,hk⟩:=ZP hr h
    rw [if_pos hw]
    exact XH hk hr ho fin
  | gen acc C =>
    obtain ⟨hw,hk⟩:=ZP hr h
    rw [if_pos hw]
    exact XH hk hr ho fin
  | specr ins C =>
    obtain ⟨hw,hk⟩:=ZP hr h
    rw [if_pos hw]
    exact XH hk hr ho fin
  | specw ins outs C =>
    obtain ⟨hw,hk⟩:=ZP hr h
    rw [if_pos hw]
    exact XH hk hr ho fin
  | callr ins C =>
    obtain ⟨hw,hk⟩:=ZP hr h
    rw [if_pos hw]
    exact XH hk hr ho fin
  | callw ins outs C =>
    obtain ⟨hw,hk⟩:=ZP hr h
    rw [if_pos hw]
    exact XH hk hr ho fin
  | calln ins outs C =>
    obtain ⟨hw,hk⟩:=ZP hr h
    rw [if_pos hw]
    exact XH hk hr ho fin
end Go.Sx
namespace Go.Sx
open Go.RowKit
def Wo:List zk->List Nat
  | []=> []
  | .rd i::l | .rv i _::l=>i::Wo l
  | _::l=>Wo l
def jC:List zk->List Nat
  | []=> []
  | .wr i::l | .ws i::l | .nw i::l=>i::jC l
  | _::l=>jC l
theorem X4 {P : Program} {α : Type} (m : Sem α) : ∀ (acc : List zk) (H : Hp) (K K' : α -> Hp -> List zk -> Prop), Q1 P m acc H K ->
    (∀a H' r,(∀i,i∉jC acc->H' i=H i)->K a H' r->K' a H' r)->Q1 P m acc H K' :=by
  induction m with
  | pure a=>exact fun acc H K K' h hk=>hk a H acc (fun _ _=>rfl) h
  | load m a k ih =>
    intro acc H K K' h hk
    match acc,h,hk with
    | .rd i :: acc, h, hk =>
      simp only [Q1] at h ⊢
      cases hs:H i with
      | blk b o =>
        rw [hs] at h
        cases o with
        | cells c t f =>
          obtain ⟨h1,h2,h3⟩:=h
          refine ⟨h1,h2,?_⟩
          cases hv:c[a.off]? with
          | none=>rw [hv] at h3;exact h3.elim
          | some v=>rw [hv] at h3;exact ih v acc H K K' h3 hk
        | _=>exact h.elim
      | _=>rw [hs] at h;exact h.elim
    | .rv i g :: acc, h, hk =>
      simp only [Q1] at h ⊢
      cases hs:H i with
      | blk b o =>
        rw [hs] at h
        cases o with
        | cells c t f =>
          obtain ⟨h1,h2,h3,h4⟩:=h
          exact ⟨h1,h2,h3,ih _ acc H K K' h4 hk⟩
        | _=>exact h.elim
      | _=>rw [hs] at h;exact h.elim
    | .wr _::_,h,_ | .ws _::_,h,_ | .nw _::_,h,_ | .ch::_,h,_ | [],h,_=>exact h.elim
  | store m a v k ih =>
    intro acc H K K' h hk
    have later: ∀ (i:Nat) (acc:List zk) (sl:Qe),(∀a H' r,(∀j,j∉i::jC acc->H' j=H j)->K a H' r->K' a H' r)->Q1 P k acc (JI H i sl) K->Q1 P k acc (JI H i sl) K' :=by
      intro i acc sl hk h
      refine ih acc _ K K' h (fun a H' r hH hka=>hk a H' r (fun j hj=> ?_) hka)
      rw [List.mem_cons,not_or] at hj
      exact (hH j hj.2).trans (QF _ _ hj.1)
    match acc,h,hk with
    | .wr i :: acc, h, hk =>
      simp only [Q1] at h ⊢
      cases hv:Yn v with
      | false=>rw [hv] at h;exact h.elim
      | true =>
        rw [hv] at h
        cases hs:H i with
        | blk b o =>
          rw [hs] at h
          cases o with
          | cells c t f =>
            obtain ⟨h1,h2,h3⟩:=h
            refine ⟨h1,h2,?_⟩
            cases hl:Nat.blt a.off c.size with
            | false=>rw [hl] at h3;exact h3.elim
            | true =>
              cases hf:Jf f a.off with
              | true=>rw [hl,hf] at h3;exact h3.elim
              | false=>rw [hl,hf] at h3;exact later i acc _ hk h3
          | _=>exact h.elim
        | _=>rw [hs] at h;exact h.elim
    | .ws i :: acc, h, hk =>
      simp only [Q1] at h ⊢
      cases hs:H i with
      | blk b o =>
        rw [hs] at h
        cases o with
        | cells c t f =>
          obtain ⟨h1,h2,h3,h4,h5,h6⟩:=h
          exact ⟨h1,h2,h3,h4,h5,later i acc _ hk h6⟩
        | _=>exact h.elim
      | _=>rw [hs] at h;exact h.elim
    | .rd _::_,h,_ | .rv _ _::_,h,_ | .nw _::_,h,_ | .ch::_,h,_ | [],h,_=>cases v<;>exact h.elim
  | new o k ih =>
    intro acc H K K' h hk
    match acc,h,hk with
    | .nw i :: acc, h, hk =>
      simp only [Q1] at h ⊢
      intro b
      refine ih b acc _ K K' (h b) (fun a H' r hH hka=>hk a H' r (fun j hj=> ?_) hka)
      simp only [jC] at hj
      rw [List.mem_cons,not_or] at hj
      exact (hH j hj.2).trans (QF _ _ hj.1)
    | .rd _::_,h,_ | .rv _ _::_,h,_ | .wr _::_,h,_ | .ws _::_,h,_ | .ch::_,h,_ | [],h,_=>exact h.elim
  | shape r k ih =>
    intro acc H K K' h hk
    match acc,h,hk with
    | .rd i :: acc, h, hk =>
      simp only [Q1] at h ⊢
      cases hs:H i with
      | blk b o=>rw [hs] at h;exact ⟨h.1,ih _ acc H K K' h.2 hk⟩
      | _=>rw [hs] at h;exact h.elim
    | .rv _ _::_,h,_ | .wr _::_,h,_ | .ws _::_,h,_ | .nw _::_,h,_ | .ch::_,h,_ | [],h,_=>exact h.elim
  | freeze a n k ih =>
    intro acc H K K' h hk
    match acc,h,hk with
    | .wr i :: acc, h, hk =>
      simp only [Q1] at h ⊢
      cases hs:H i with
      | blk b o =>
        rw [hs] at h
        refine ⟨h.1,ih acc _ K K' h.2 (fun a H' r hH hka=>hk a H' r (fun j hj=> ?_) hka)⟩
        simp only [jC] at hj
        rw [List.mem_cons,not_or] at hj
        exact (hH j hj.2).trans (QF _ _ hj.1)
      | _=>rw [hs] at h;exact h.elim
    | .rd _::_,h,_ | .rv _ _::_,h,_ | .ws _::_,h,_ | .nw _::_,h,_ | .ch::_,h,_ | [],h,_=>exact h.elim
  | frozen a k ih =>
    intro acc H K K' h hk
    match acc,h,hk with
    | .rd i :: acc, h, hk =>
      simp only [Q1] at h ⊢
      cases hs:H i with
      | blk b o=>rw [hs] at h;exact ⟨h.1,ih _ acc H K K' h.2 hk⟩
      | _=>rw [hs] at h;exact h.elim
    | .rv _ _::_,h,_ | .wr _::_,h,_ | .ws _::_,h,_ | .nw _::_,h,_ | .ch::_,h,_ | [],h,_=>exact h.elim
  | getObj r k ih =>
    intro acc H K K' h hk
    match acc,h,hk with
    | .rd i :: acc, h, hk =>
      simp only [Q1] at h ⊢
      cases hs:H i with
      | blk b o =>
        rw [hs] at h
        obtain ⟨h1,h2⟩:=h
        refine ⟨h1,?_⟩
        cases hc:XA o with
        | true=>rw [hc] at h2;exact h2.elim
        | false=>rw [hc] at h2;exact ih _ acc H K K' h2 hk
      | _=>rw [hs] at h;exact h.elim
    | .rv _ _::_,h,_ | .wr _::_,h,_ | .ws _::_,h,_ | .nw _::_,h,_ | .ch::_,h,_ | [],h,_=>exact h.elim
  | setObj r o k ih =>
    intro acc H K K' h hk
    match acc,h,hk with
    | .wr i :: acc, h, hk =>
      simp only [Q1] at h ⊢
      cases hs:H i with
      | blk b o' =>
        rw [hs] at h
        obtain ⟨h1,h2⟩:=h
        refine ⟨h1,?_⟩
        cases hc:XA o' with
        | true=>rw [hc] at h2;exact h2.elim
        | false =>
          rw [hc] at h2
          refine ih acc _ K K' h2 (fun a H' r hH hka=>hk a H' r (fun j hj=> ?_) hka)
          simp only [jC] at hj
          rw [List.mem_cons,not_or] at hj
          exact (hH j hj.2).trans (QF _ _ hj.1)
      | _=>rw [hs] at h;exact h.elim
    | .rd _::_,h,_ | .rv _ _::_,h,_ | .ws _::_,h,_ | .nw _::_,h,_ | .ch::_,h,_ | [],h,_=>exact h.elim
  | choose q k ih =>
    intro acc H K K' h hk
    match acc,h,hk with
    | .ch :: acc, h, hk =>
      simp only [Q1] at h ⊢
      exact fun t h1 h2=>ih t acc H K K' (h t h1 h2) hk
    | .rd _::_,h,_ | .rv _ _::_,h,_ | .wr _::_,h,_ | .ws _::_,h,_ | .nw _::_,h,_ | [],h,_=>exact h.elim
  | sys c k ih=>intro acc H K K' h;cases acc<;>exact h.elim
  | program k ih=>intro acc H K K' h hk;cases acc<;>exact ih P _ H K K' h hk
  | mark m k ih=>intro acc H K K' h hk;cases acc<;>exact ih _ H K K' h hk
  | halt x=>intro acc H K K' h;cases acc<;>exact h.elim
structure U8 (T:(Value->Hp->Prop)->Hp->Prop) (rd wr:List Nat):Prop where
  step: ∀K K' H,T K H->(∀v H',(∀i,i∉wr->H' i=H i)->K v H' ->K' v H')->T K' H
  set: ∀K H i sl,i∉rd->i∉wr->T K (JI H i sl)->T (fun v H' =>K v (JI H' i sl)) H
  all: ∀ (β:Type) (_:Nonempty β) (K:β->Value->Hp->Prop) H,(∀b,T (K b) H)->T (fun v H' => ∀b,K b v H') H
theorem Di {P : Program} {α : Type} (m : Sem α) : ∀ (acc : List zk) (H : Hp) (K : α -> Hp -> List zk -> Prop) (i : Nat) (sl : Qe), i ∉ Wo acc -> i ∉ jC acc ->
    Q1 P m acc (JI H i sl) K->Q1 P m acc H fun a H' r=>K a (JI H' i sl) r:=by
  induction m with
  | pure a=>exact fun acc H K i sl _ _ h=>h
  | load m a k ih =>
    intro acc H K i sl hr hw h
    match acc,h,hr,hw with
    | .rd j :: acc, h, hr, hw =>
      simp only [Wo,List.mem_cons,not_or] at hr
      simp only [Q1] at h ⊢
      rw [QF _ _ (Ne.symm hr.1)] at h
      cases hs:H j with
      | blk b o =>
        rw [hs] at h
        cases o with
        | cells c t f =>
          obtain ⟨h1,h2,h3⟩:=h
          refine ⟨h1,h2,?_⟩
          cases hv:c[a.off]? with
          | none=>rw [hv] at h3;exact h3.elim
          | some v=>rw [hv] at h3;exact ih v acc H K i sl hr.2 hw h3
        | _=>exact h.elim
      | _=>rw [hs] at h;exact h.elim
    | .rv j g :: acc, h, hr, hw =>
      simp only [Wo,List.mem_cons,not_or] at hr
      simp only [Q1] at h ⊢
      rw [QF _ _ (Ne.symm hr.1)] at h
      cases hs:H j with
      | blk b o =>
        rw [hs] at h
        cases o with
        | cells c t f=>exact ⟨h.1,h.2.1,h.2.2.1,ih _ acc H K i sl hr.2 hw h.2.2.2⟩
        | _=>exact h.elim
      | _=>rw [hs] at h;exact h.elim
    | .wr _::_,h,_,_ | .ws _::_,h,_,_ | .nw _::_,h,_,_ | .ch::_,h,_,_ | [],h,_,_=>exact h.elim
  | store m a v k ih =>
    intro acc H K i sl hr hw h
    match acc,h,hr,hw with
    | .wr j :: acc, h, hr, hw =>
      simp only [jC,List.mem_cons,not_or] at hw
      simp only [Q1] at h ⊢
      rw [QF _ _ (Ne.symm hw.1)] at h
      cases hv:Yn v with
      | false=>rw [hv] at h;exact h.elim
      | true =>
        rw [hv] at h
        cases hs:H j with
        | blk b o =>
          rw [hs] at h
          cases o with
          | cells c t f =>
            obtain ⟨h1,h2,h3⟩:=h
            refine ⟨h1,h2,?_⟩
            cases hl:Nat.blt a.off c.size with
            | false=>rw [hl] at h3;exact h3.elim
            | true =>
              cases hf:Jf f a.off with
              | true=>rw [hl,hf] at h3;exact h3.elim
              | false=>rw [hl,hf] at h3;simp only at h3;rw [K6 _ _ _ hw.1] at h3;exact ih acc _ K i sl hr hw.2 h3
          | _=>exact h.elim
        | _=>rw [hs] at h;exact h.elim
    | .ws j :: acc, h, hr, hw =>
      simp only [jC,List.mem_cons,not_or] at hw
      simp only [Q1] at h ⊢
      rw [QF _ _ (Ne.symm hw.1)] at h
      cases hs:H j with
      | blk b o =>
        rw [hs] at h
        cases o with
        | cells c t f =>
          obtain ⟨h1,h2,h3,h4,h5,h6⟩:=h
          rw [K6 _ _ _ hw.1] at h6
          exact ⟨h1,h2,h3,h4,h5,ih acc _ K i sl hr hw.2 h6⟩
        | _=>exact h.elim
      | _=>rw [hs] at h;exact h.elim
    | .rd _::_,h,_,_ | .rv _ _::_,h,_,_ | .nw _::_,h,_,_ | .ch::_,h,_,_ | [],h,_,_=>cases v<;>exact h.elim
  | new o k ih =>
    intro acc H K i sl hr hw h
    match acc,h,hr,hw with
    | .nw j :: acc, h, hr, hw =>
      simp only [jC,List.mem_cons,not_or] at hw
      simp only [Q1] at h ⊢
      intro b
      have:=h b
      rw [K6 _ _ _ hw.1] at this
      exact ih b acc _ K i sl hr hw.2 this
    | .rd _::_,h,_,_ | .rv _ _::_,h,_,_ | .wr _::_,h,_,_ | .ws _::_,h,_,_ | .ch::_,h,_,_ | [],h,_,_=>exact h.elim
  | shape r k ih =>
    intro acc H K i sl hr hw h
    match acc,h,hr,hw with
    | .rd j :: acc, h, hr, hw =>
      simp only [Wo,List.mem_cons,not_or] at hr
      simp only [Q1] at h ⊢
      rw [QF _ _ (Ne.symm hr.1)] at h
      cases hs:H j with
      | blk b o=>rw [hs] at h;exact ⟨h.1,ih _ acc H K i sl hr.2 hw h.2⟩
      | _=>rw [hs] at h;exact h.elim
    | .rv _ _::_,h,_,_ | .wr _::_,h,_,_ | .ws _::_,h,_,_ | .nw _::_,h,_,_ | .ch::_,h,_,_ | [],h,_,_=>exact h.elim
  | freeze a n k ih =>
    intro acc H K i sl hr hw h
    match acc,h,hr,hw with
    | .wr j :: acc, h, hr, hw =>
      simp only [jC,List.mem_cons,not_or] at hw
      simp only [Q1] at h ⊢
      rw [QF _ _ (Ne.symm hw.1)] at h
      cases hs:H j with
      | blk b o =>
        rw [hs] at h
        obtain ⟨h1,h2⟩:=h
        rw [K6 _ _ _ hw.1] at h2
        exact ⟨h1,ih acc _ K i sl hr hw.2 h2⟩
      | _=>rw [hs] at h;exact h.elim
    | .rd _::_,h,_,_ | .rv _ _::_,h,_,_ | .ws _::_,h,_,_ | .nw _::_,h,_,_ | .ch::_,h,_,_ | [],h,_,_=>exact h.elim
  | frozen a k ih =>
    intro acc H K i sl hr hw h
    match acc,h,hr,hw with
    | .rd j :: acc, h, hr, hw =>
      simp only [Wo,List.mem_cons,not_or] at hr
      simp only [Q1] at h ⊢
      rw [QF _ _ (Ne.symm hr.1)] at h
      cases hs:H j with
      | blk b o=>rw [hs] at h;exact ⟨h.1,ih _ acc H K i sl hr.2 hw h.2⟩
      | _=>rw [hs] at h;exact h.elim
    | .rv _ _::_,h,_,_ | .wr _::_,h,_,_ | .ws _::_,h,_,_ | .nw _::_,h,_,_ | .ch::_,h,_,_ | [],h,_,_=>exact h.elim
  | getObj r k ih =>
    intro acc H K i sl hr hw h
    match acc,h,hr,hw with
    | .rd j :: acc, h, hr, hw =>
      simp only [Wo,List.mem_cons,not_or] at hr
      simp only [Q1] at h ⊢
      rw [QF _ _ (Ne.symm hr.1)] at h
      cases hs:H j with
      | blk b o =>
        rw [hs] at h
        obtain ⟨h1,h2⟩:=h
        refine ⟨h1,?_⟩
        cases hc:XA o with
        | true=>rw [hc] at h2;exact h2.elim
        | false=>rw [hc] at h2;exact ih _ acc H K i sl hr.2 hw h2
      | _=>rw [hs] at h;exact h.elim
    | .rv _ _::_,h,_,_ | .wr _::_,h,_,_ | .ws _::_,h,_,_ | .nw _::_,h,_,_ | .ch::_,h,_,_ | [],h,_,_=>exact h.elim
  | setObj r o k ih =>
    intro acc H K i sl hr hw h
    match acc,h,hr,hw with
    | .wr j :: acc, h, hr, hw =>
      simp only [jC,List.mem_cons,not_or] at hw
      simp only [Q1] at h ⊢
      rw [QF _ _ (Ne.symm hw.1)] at h
      cases hs:H j with
      | blk b o' =>
        rw [hs] at h
        obtain ⟨h1,h2⟩:=h
        refine ⟨h1,?_⟩
        cases hc:XA o' with
        | true=>rw [hc] at h2;exact h2.elim
        | false =>
          rw [hc] at h2
          simp only at h2
          rw [K6 _ _ _ hw.1] at h2
          exact ih acc _ K i sl hr hw.2 h2
      | _=>rw [hs] at h;exact h.elim
    | .rd _::_,h,_,_ | .rv _ _::_,h,_,_ | .ws _::_,h,_,_ | .nw _::_,h,_,_ | .ch::_,h,_,_ | [],h,_,_=>exact h.elim
  | choose q k ih =>
    intro acc H K i sl hr hw h
    match acc,h,hr,hw with
    | .ch :: acc, h, hr, hw =>
      simp only [Q1] at h ⊢
      exact fun t h1 h2=>ih t acc H K i sl hr hw (h t h1 h2)
    | .rd _::_,h,_,_ | .rv _ _::_,h,_,_ | .wr _::_,h,_,_ | .ws _::_,h,_,_ | .nw _::_,h,_,_ | [],h,_,_=>exact h.elim
  | sys c k ih=>intro acc H K i sl hr hw h;cases acc<;>exact h.elim
  | program k ih=>intro acc H K i sl hr hw h;cases acc<;>exact ih P _ H K i sl hr hw h
  | mark m k ih=>intro acc H K i sl hr hw h;cases acc<;>exact ih _ H K i sl hr hw h
  | halt x=>intro acc H K i sl hr hw h;cases acc<;>exact h.elim
theorem FP {P : Program} {α : Type} (m : Sem α) : ∀ (acc : List zk) (H : Hp) (β : Type) (_ : Nonempty β) (K : β -> α -> Hp -> List zk -> Prop),
    (∀b,Q1 P m acc H (K b))->Q1 P m acc H fun a H' r=> ∀b,K b a H' r:=by
  induction m with
  | pure a=>exact fun acc H β _ K h=>h
  | load m a k ih =>
    intro acc H β hne K h
    obtain ⟨b0⟩:=hne
    match acc,h with
    | .rd i :: acc, h =>
      simp only [Q1] at h ⊢
      cases hs:H i with
      | blk b o =>
        rw [hs] at h
        cases o with
        | cells c t f =>
          refine ⟨(h b0).1,(h b0).2.1,?_⟩
          have h3:=fun x=>(h x).2.2
          cases hv:c[a.off]? with
          | none=>rw [hv] at h3;exact h3 b0
          | some v=>rw [hv] at h3;exact ih v acc H β ⟨b0⟩ K h3
        | _=>exact (h b0).elim
      | _=>rw [hs] at h;exact (h b0).elim
    | .rv i g :: acc, h =>
      simp only [Q1] at h ⊢
      cases hs:H i with
      | blk b o =>
        rw [hs] at h
        cases o with
        | cells c t f=>exact ⟨(h b0).1,(h b0).2.1,(h b0).2.2.1,ih _ acc H β ⟨b0⟩ K fun x=>(h x).2.2.2⟩
        | _=>exact (h b0).elim
      | _=>rw [hs] at h;exact (h b0).elim
    | .wr _::_,h | .ws _::_,h | .nw _::_,h | .ch::_,h | [],h=>exact (h b0).elim
  | store m a v k ih =>
    intro acc H β hne K h
    obtain ⟨b0⟩:=hne
    match acc,h with
    | .wr i :: acc, h =>
      simp only [Q1] at h ⊢
      cases hv:Yn v with
      | false=>rw [hv] at h;exact (h b0).elim
      | true =>
        rw [hv] at h
        cases hs:H i with
        | blk b o =>
          rw [hs] at h
          cases o with
          | cells c t f =>
            refine ⟨(h b0).1,(h b0).2.1,?_⟩
            have h3:=fun x=>(h x).2.2
            cases hl:Nat.blt a.off c.size with
            | false=>rw [hl] at h3;exact (h3 b0).elim
            | true =>
              cases hf:Jf f a.off with
              | true=>rw [hl,hf] at h3;exact (h3 b0).elim
              | false=>rw [hl,hf] at h3;exact ih acc _ β ⟨b0⟩ K h3
          | _=>exact (h b0).elim
        | _=>rw [hs] at h;exact (h b0).elim
    | .ws i :: acc, h =>
      simp only [Q1] at h ⊢
      cases hs:H i with
      | blk b o =>
        rw [hs] at h
        cases o with
        | cells c t f =>
          obtain ⟨h1,h2,h3,h4,h5,_⟩:=h b0
          exact ⟨h1,h2,h3,h4,h5,ih acc _ β ⟨b0⟩ K fun x=>(h x).2.2.2.2.2⟩
        | _=>exact (h b0).elim
      | _=>rw [hs] at h;exact (h b0).elim
    | .rd _::_,h | .rv _ _::_,h | .nw _::_,h | .ch::_,h | [],h=>cases v<;>exact (h b0).elim
  | new o k ih =>
    intro acc H β hne K h
    obtain ⟨b0⟩:=hne
    match acc,h with
    | .nw i::acc,h=>simp only [Q1] at h ⊢;exact fun b=>ih b acc _ β ⟨b0⟩ K fun x=>h x b
    | .rd _::_,h | .rv _ _::_,h | .wr _::_,h | .ws _::_,h | .ch::_,h | [],h=>exact (h b0).elim
  | shape r k ih =>
    intro acc H β hne K h
    obtain ⟨b0⟩:=hne
    match acc,h with
    | .rd i :: acc, h =>
      simp only [Q1] at h ⊢
      cases hs:H i with
      | blk b o=>rw [hs] at h;exact ⟨(h b0).1,ih _ acc H β ⟨b0⟩ K fun x=>(h x).2⟩
      | _=>rw [hs] at h;exact (h b0).elim
    | .rv _ _::_,h | .wr _::_,h | .ws _::_,h | .nw _::_,h | .ch::_,h | [],h=>exact (h b0).elim
  | freeze a n k ih =>
    intro acc H β hne K h
    obtain ⟨b0⟩:=hne
    match acc,h with
    | .wr i :: acc, h =>
      simp only [Q1] at h ⊢
      cases hs:H i with
      | blk b o=>rw [hs] at h;exact ⟨(h b0).1,ih acc _ β ⟨b0⟩ K fun x=>(h x).2⟩
      | _=>rw [hs] at h;exact (h b0).elim
    | .rd _::_,h | .rv _ _::_,h | .ws _::_,h | .nw _::_,h | .ch::_,h | [],h=>exact (h b0).elim
  | frozen a k ih =>
    intro acc H β hne K h
    obtain ⟨b0⟩:=hne
    match acc,h with
    | .rd i :: acc, h =>
      simp only [Q1] at h ⊢
      cases hs:H i with
      | blk b o=>rw [hs] at h;exact ⟨(h b0).1,ih _ acc H β ⟨b0⟩ K fun x=>(h x).2⟩
      | _=>rw [hs] at h;exact (h b0).elim
    | .rv _ _::_,h | .wr _::_,h | .ws _::_,h | .nw _::_,h | .ch::_,h | [],h=>exact (h b0).elim
  | getObj r k ih =>
    intro acc H β hne K h
    obtain ⟨b0⟩:=hne
    match acc,h with
    | .rd i :: acc, h =>
      simp only [Q1] at h ⊢
      cases hs:H i with
      | blk b o =>
        rw [hs] at h
        have h2:=fun x=>(h x).2
        refine ⟨(h b0).1,?_⟩
        cases hc:XA o with
        | true=>rw [hc] at h2;exact (h2 b0).elim
        | false=>rw [hc] at h2;exact ih _ acc H β ⟨b0⟩ K h2
      | _=>rw [hs] at h;exact (h b0).elim
    | .rv _ _::_,h | .wr _::_,h | .ws _::_,h | .nw _::_,h | .ch::_,h | [],h=>exact (h b0).elim
  | setObj r o k ih =>
    intro acc H β hne K h
    obtain ⟨b0⟩:=hne
    match acc,h with
    | .wr i :: acc, h =>
      simp only [Q1] at h ⊢
      cases hs:H i with
      | blk b o' =>
        rw [hs] at h
        have h2:=fun x=>(h x).2
        refine ⟨(h b0).1,?_⟩
        cases hc:XA o' with
        | true=>rw [hc] at h2;exact (h2 b0).elim
        | false=>rw [hc] at h2;exact ih acc _ β ⟨b0⟩ K h2
      | _=>rw [hs] at h;exact (h b0).elim
    | .rd _::_,h | .rv _ _::_,h | .ws _::_,h | .nw _::_,h | .ch::_,h | [],h=>exact (h b0).elim
  | choose q k ih =>
    intro acc H β hne K h
    obtain ⟨b0⟩:=hne
    match acc,h with
    | .ch::acc,h=>simp only [Q1] at h ⊢;exact fun t h1 h2=>ih t acc H β ⟨b0⟩ K fun x=>h x t h1 h2
    | .rd _::_,h | .rv _ _::_,h | .wr _::_,h | .ws _::_,h | .nw _::_,h | [],h=>exact (h b0).elim
  | sys c k ih=>intro acc H β hne K h;obtain ⟨b0⟩:=hne;cases acc<;>exact (h b0).elim
  | program k ih=>intro acc H β hne K h;cases acc<;>exact ih P _ H β hne K h
  | mark m k ih=>intro acc H β hne K h;cases acc<;>exact ih _ H β hne K h
  | halt x=>intro acc H β hne K h;obtain ⟨b0⟩:=hne;cases acc<;>exact (h b0).elim
theorem WI {P : Program} {α : Type} {T : (Value -> Hp -> Prop) -> Hp -> Prop} {rd wr : List Nat} (hT : U8 T rd wr) (m : Sem α) :
    ∀ (acc:List zk) (H:Hp) (K:α->Value->Hp->List zk->Prop),(∀x∈jC acc,x∉rd/\x∉wr)->(∀x∈wr,x∉Wo acc)->
    Q1 P m acc H (fun a H1 r=>T (fun v H2=>K a v H2 r) H1)->T (fun v H2=>Q1 P m acc H2 fun a H1 r=>K a v H1 r) H:=by
  have keep: ∀ {K K' :Value->Hp->Prop} {H:Hp},T K H->(∀v H',(∀i,i∉wr->H' i=H i)->K v H' ->K' v H')->T K' H:=fun h hk=>hT.step _ _ _ h hk
  induction m with
  | pure a=>exact fun acc H K _ _ h=>h
  | load m a k ih =>
    intro acc H K hw hr h
    match acc,h,hw,hr with
    | .rd i :: acc, h, hw, hr =>
      have hi:i∉wr:=fun hx=>(hr i hx) (by simp [Wo])
      simp only [Q1] at h
      cases hs:H i with
      | blk b o =>
        rw [hs] at h
        cases o with
        | cells c t f =>
          obtain ⟨h1,h2,h3⟩:=h
          cases hv:c[a.off]? with
          | none=>rw [hv] at h3;exact h3.elim
          | some v =>
            rw [hv] at h3
            refine keep (ih v acc H K hw (fun x hx hy=>hr x hx (by simp [Wo,hy])) h3) (fun v2 H2 hH h=> ?_)
            simp only [Q1,hH i hi,hs,hv]
            exact ⟨h1,h2,h⟩
        | _=>exact h.elim
      | _=>rw [hs] at h;exact h.elim
    | .rv i g :: acc, h, hw, hr =>
      have hi:i∉wr:=fun hx=>(hr i hx) (by simp [Wo])
      simp only [Q1] at h
      cases hs:H i with
      | blk b o =>
        rw [hs] at h
        cases o with
        | cells c t f =>
          obtain ⟨h1,h2,h3,h4⟩:=h
          refine keep (ih _ acc H K hw (fun x hx hy=>hr x hx (by simp [Wo,hy])) h4) (fun v2 H2 hH h=> ?_)
          simp only [Q1,hH i hi,hs]
          exact ⟨h1,h2,h3,h⟩
        | _=>exact h.elim
      | _=>rw [hs] at h;exact h.elim
    | .wr _::_,h,_,_ | .ws _::_,h,_,_ | .nw _::_,h,_,_ | .ch::_,h,_,_ | [],h,_,_=>exact h.elim
  | store m a v k ih =>
    intro acc H K hw hr h
    match acc,h,hw,hr with
    | .wr i :: acc, h, hw, hr =>
      have hi:=hw i (by simp [jC])
      simp only [Q1] at h
      cases hv:Yn v with
      | false=>rw [hv] at h;exact h.elim
      | true =>
        rw [hv] at h
        cases hs:H i with
        | blk b o =>
          rw [hs] at h
          cases o with
          | cells c t f =>
            obtain ⟨h1,h2,h3⟩:=h
            cases hl:Nat.blt a.off c.size with
            | false=>rw [hl] at h3;exact h3.elim
            | true =>
              cases hf:Jf f a.off with
              | true=>rw [hl,hf] at h3;exact h3.elim
              | false =>
                rw [hl,hf] at h3
                refine keep (hT.set _ _ _ _ hi.1 hi.2 (ih acc _ K (fun x hx=>hw x (by simp [jC,hx])) hr h3)) (fun v2 H2 hH h=> ?_)
                simp only [Q1,hH i hi.2,hs,hv,hl,hf]
                exact ⟨h1,h2,h⟩
          | _=>exact h.elim
        | _=>rw [hs] at h;exact h.elim
    | .ws i :: acc, h, hw, hr =>
      have hi:=hw i (by simp [jC])
      simp only [Q1] at h
      cases hs:H i with
      | blk b o =>
        rw [hs] at h
        cases o with
        | cells c t f =>
          obtain ⟨h1,h2,h3,h4,h5,h6⟩:=h
          refine keep (hT.set _ _ _ _ hi.1 hi.2 (ih acc _ K (fun x hx=>hw x (by simp [jC,hx])) hr h6)) (fun v2 H2 hH h=> ?_)
          simp only [Q1,hH i hi.2,hs]
          exact ⟨h1,h2,h3,h4,h5,h⟩
        | _=>exact h.elim
      | _=>rw [hs] at h;exact h.elim
    | .rd _::_,h,_,_ | .rv _ _::_,h,_,_ | .nw _::_,h,_,_ | .ch::_,h,_,_ | [],h,_,_=>cases v<;>exact h.elim
  | new o k ih =>
    intro acc H K hw hr h
    match acc,h,hw,hr with
    | .nw i :: acc, h, hw, hr =>
      have hi:=hw i (by simp [jC])
      simp only [Q1] at h
      refine keep (hT.all Nat ⟨0⟩ _ _ fun b=>hT.set _ _ _ _ hi.1 hi.2 (ih b acc _ K (fun x hx=>hw x (by simp [jC,hx])) hr (h b))) (fun v2 H2 hH h=> ?_)
      simp only [Q1]
      exact h
    | .rd _::_,h,_,_ | .rv _ _::_,h,_,_ | .wr _::_,h,_,_ | .ws _::_,h,_,_ | .ch::_,h,_,_ | [],h,_,_=>exact h.elim
  | shape r k ih =>
    intro acc H K hw hr h
    match acc,h,hw,hr with
    | .rd i :: acc, h, hw, hr =>
      have hi:i∉wr:=fun hx=>(hr i hx) (by simp [Wo])
      simp only [Q1] at h
      cases hs:H i with
      | blk b o =>
        rw [hs] at h
        obtain ⟨h1,h2⟩:=h
        refine keep (ih _ acc H K hw (fun x hx hy=>hr x hx (by simp [Wo,hy])) h2) (fun v2 H2 hH h=> ?_)
        simp only [Q1,hH i hi,hs]
        exact ⟨h1,h⟩
      | _=>rw [hs] at h;exact h.elim
    | .rv _ _::_,h,_,_ | .wr _::_,h,_,_ | .ws _::_,h,_,_ | .nw _::_,h,_,_ | .ch::_,h,_,_ | [],h,_,_=>exact h.elim
  | freeze a n k ih =>
    intro acc H K hw hr h
    match acc,h,hw,hr with
    | .wr i :: acc, h, hw, hr =>
      have hi:=hw i (by simp [jC])
      simp only [Q1] at h
      cases hs:H i with
      | blk b o =>
        rw [hs] at h
        obtain ⟨h1,h2⟩:=h
        refine keep (hT.set _ _ _ _ hi.1 hi.2 (ih acc _ K (fun x hx=>hw x (by simp [jC,hx])) hr h2)) (fun v2 H2 hH h=> ?_)
        simp only [Q1,hH i hi.2,hs]
        exact ⟨h1,h⟩
      | _=>rw [hs] at h;exact h.elim
    | .rd _::_,h,_,_ | .rv _ _::_,h,_,_ | .ws _::_,h,_,_ | .nw _::_,h,_,_ | .ch::_,h,_,_ | [],h,_,_=>exact h.elim
  | frozen a k ih =>
    intro acc H K hw hr h
    match acc,h,hw,hr with
    | .rd i :: acc, h, hw, hr =>
      have hi:i∉wr:=fun hx=>(hr i hx) (by simp [Wo])
      simp only [Q1] at h
      cases hs:H i with
      | blk b o =>
        rw [hs] at h
        obtain ⟨h1,h2⟩:=h
        refine keep (ih _ acc H K hw (fun x hx hy=>hr x hx (by simp [Wo,hy])) h2) (fun v2 H2 hH h=> ?_)
        simp only [Q1,hH i hi,hs]
        exact ⟨h1,h⟩
      | _=>rw [hs] at h;exact h.elim
    | .rv _ _::_,h,_,_ | .wr _::_,h,_,_ | .ws _::_,h,_,_ | .nw _::_,h,_,_ | .ch::_,h,_,_ | [],h,_,_=>exact h.elim
  | getObj r k ih =>
    intro acc H K hw hr h
    match acc,h,hw,hr with
    | .rd i :: acc, h, hw, hr =>
      have hi:i∉wr:=fun hx=>(hr i hx) (by simp [Wo])
      simp only [Q1] at h
      cases hs:H i with
      | blk b o =>
        rw [hs] at h
        obtain ⟨h1,h2⟩:=h
        cases hc:XA o with
        | true=>rw [hc] at h2;exact h2.elim
        | false =>
          rw [hc] at h2
          refine keep (ih _ acc H K hw (fun x hx hy=>hr x hx (by simp [Wo,hy])) h2) (fun v2 H2 hH h=> ?_)
          simp only [Q1,hH i hi,hs,hc]
          exact ⟨h1,h⟩
      | _=>rw [hs] at h;exact h.elim
    | .rv _ _::_,h,_,_ | .wr _::_,h,_,_ | .ws _::_,h,_,_ | .nw _::_,h,_,_ | .ch::_,h,_,_ | [],h,_,_=>exact h.elim
  | setObj r o k ih =>
    intro acc H K hw hr h
    match acc,h,hw,hr with
    | .wr i :: acc, h, hw, hr =>
      have hi:=hw i (by simp [jC])
      simp only [Q1] at h
      cases hs:H i with
      | blk b o' =>
        rw [hs] at h
        obtain ⟨h1,h2⟩:=h
        cases hc:XA o' with
        | true=>rw [hc] at h2;exact h2.elim
        | false =>
          rw [hc] at h2
          refine keep (hT.set _ _ _ _ hi.1 hi.2 (ih acc _ K (fun x hx=>hw x (by simp [jC,hx])) hr h2)) (fun v2 H2 hH h=> ?_)
          simp only [Q1,hH i hi.2,hs,hc]
          exact ⟨h1,h⟩
      | _=>rw [hs] at h;exact h.elim
    | .rd _::_,h,_,_ | .rv _ _::_,h,_,_ | .ws _::_,h,_,_ | .nw _::_,h,_,_ | .ch::_,h,_,_ | [],h,_,_=>exact h.elim
  | choose q k ih =>
    intro acc H K hw hr h
    match acc,h,hw,hr with
    | .ch :: acc, h, hw, hr =>
      simp only [Q1] at h
      let β:Type:= { t:Nat//(q.forced=true->t=0)/\(q.forced=false-> ∃u,t=q.cut u) }
      have hne:Nonempty β:=by
        cases hf:q.forced with
        | true=>exact ⟨⟨0,fun _=>rfl,fun e=>by rw [hf] at e;cases e⟩⟩
        | false=>exact ⟨⟨q.cut 0,fun e=>(by rw [hf] at e;cases e),fun _=>⟨0,rfl⟩⟩⟩
      refine keep (hT.all β hne (fun t v H2=>Q1 P (k t.1) acc H2 fun a H1 r=>K a v H1 r) H fun t=>ih t.1 acc H K hw hr (h t.1 t.2.1 t.2.2)) (fun v2 H2 hH h=> ?_)
      simp only [Q1]
      exact fun t h1 h2=>h ⟨t,h1,h2⟩
    | .rd _::_,h,_,_ | .rv _ _::_,h,_,_ | .wr _::_,h,_,_ | .ws _::_,h,_,_ | .nw _::_,h,_,_ | [],h,_,_=>exact h.elim
  | sys c k ih=>intro acc H K hw hr h;cases acc<;>exact h.elim
  | program k ih =>
    intro acc H K hw hr h
    have e: ∀ (H:Hp) (K:α->Hp->List zk->Prop),Q1 P (.program k) acc H K=Q1 P (k P) acc H K:=fun _ _=>by cases acc<;>rfl
    simp only [e] at h ⊢
    exact ih P acc H K hw hr h
  | mark m k ih =>
    intro acc H K hw hr h
    have e: ∀ (H:Hp) (K:α->Hp->List zk->Prop),Q1 P (.mark m k) acc H K=Q1 P k acc H K:=fun _ _=>by cases acc<;>rfl
    simp only [e] at h ⊢
    exact ih acc H K hw hr h
  | halt x=>intro acc H K hw hr h;cases acc<;>exact h.elim
end Go.Sx
namespace Go.Sx
open Go.RowKit
theorem Xt {α β:Type} {f g:α->β} {xs:Array α} (h: ∀x∈xs,f x=g x):xs.map f=xs.map g:=by
  apply Array.ext'
  simp only [Array.toList_map]
  exact List.map_congr_left fun x hx=>h x (Array.mem_toList_iff.1 hx)
theorem KW {ρ ρ' :Operand->Value} {c:Call} (t:TypeId) (h: ∀x∈c.operands,ρ x=ρ' x):resolve ρ c t=resolve ρ' c t:=by
  obtain ⟨callee,args,ats⟩:=c
  simp only [Call.operands] at h
  have ha:args.map ρ=args.map ρ' :=Xt fun x hx=>h x (Array.mem_append.2 (.inr hx))
  unfold resolve
  simp only [ha]
  cases callee with
  | value f=>simp only;rw [h f (Array.mem_append.2 (.inl (by simp)))]
  | invoke r m=>simp only;rw [h r (Array.mem_append.2 (.inl (by simp)))]
  | builtin b=>rfl
def vq:Op->Bool
  | .select .. =>true
  | _=>false
theorem Ha {ρ ρ' :Operand->Value} (o:Oper) (hs:vq o.op=false) (h: ∀x∈o.op.operands,ρ x=ρ' x):execOp ρ o=execOp ρ' o:=by
  unfold execOp
  cases ho:o.op with
  | call c=>rw [ho] at h;simp only;rw [KW _ h]
  | go c=>rw [ho] at h;simp only;rw [KW _ h]
  | defer c=>rw [ho] at h;simp only;rw [KW _ h]
  | build t parts =>
    rw [ho] at h
    have:(parts.map fun (i,x)=>(i,ρ x))=parts.map fun (i,x)=>(i,ρ' x):=Xt fun x hx=>by
      simp only [Op.operands] at h
      show (x.1,ρ x.2)=(x.1,ρ' x.2)
      rw [h x.2 (by simp;exact ⟨x.1,hx⟩)]
    simp only [this]
  | buildSlice t n parts =>
    rw [ho] at h
    have:(parts.map fun (i,x)=>(i,ρ x))=parts.map fun (i,x)=>(i,ρ' x):=Xt fun x hx=>by
      simp only [Op.operands] at h
      show (x.1,ρ x.2)=(x.1,ρ' x.2)
      rw [h x.2 (by simp;exact ⟨x.1,hx⟩)]
    simp only [this]
  | makeFunc fn first captured =>
    rw [ho] at h
    simp only [Op.operands] at h
    have h1:first.map ρ=first.map ρ' :=Xt fun x hx=>h x (Array.mem_append.2 (.inl hx))
    have h2:captured.map ρ=captured.map ρ' :=Xt fun x hx=>h x (Array.mem_append.2 (.inr hx))
    simp only [h1,h2]
  | makeMap t r =>
    rw [ho] at h
    simp only [Op.operands] at h
    cases r with
    | none=>rfl
    | some x=>simp only [Option.map_some];rw [h x (by simp)]
  | slice t x lo hi mx =>
    rw [ho] at h
    simp only [Op.operands] at h
    have h0:ρ x=ρ' x:=h x (by simp)
    have h1:lo.map ρ=lo.map ρ' :=by
      cases lo with
      | none=>rfl
      | some y=>simp only [Option.map_some];rw [h y (by simp)]
    have h2:hi.map ρ=hi.map ρ' :=by
      cases hi with
      | none=>rfl
      | some y=>simp only [Option.map_some];rw [h y (by simp)]
    have h3:mx.map ρ=mx.map ρ' :=by
      cases mx with
      | none=>rfl
      | some y=>simp only [Option.map_some];rw [h y (by simp)]
    simp only [h0,h1,h2,h3]
  | select cases blocking=>rw [ho] at hs;cases hs
  | _=>first | rfl | (rw [ho] at h;simp only [Op.operands] at h;simp_all)
theorem Gn {ρ ρ' :Operand->Value} (o:Op) (h: ∀x∈o.operands,ρ x=ρ' x):Xo ρ o=Xo ρ' o:=by
  unfold Xo
  cases o with
  | call c =>
    obtain ⟨callee,args,ats⟩:=c
    cases callee with
    | value f =>
      simp only [Op.operands,Call.operands] at h
      have ha:args.map ρ=args.map ρ' :=Xt fun x hx=>h x (Array.mem_append.2 (.inr hx))
      simp only [ha,h f (Array.mem_append.2 (.inl (by simp)))]
    | _=>rfl
  | _=>rfl
def rdS:KX->List Nat
  | .sem acc | .gen acc _=>Wo acc
  | .specr ins _ | .callr ins _=>ins
  | .specw ins _ _ | .callw ins _ _ | .calln ins _ _=>ins
  | _=> []
def wrS:KX->List Nat
  | .sem acc | .gen acc _=>jC acc
  | .specw ins outs _ | .callw ins outs _=>ins++outs
  | .calln _ outs _=>outs
  | _=> []
theorem Dj {H:Hp} {ins outs:List Nat} {ss:List Qe} {i:Nat} {sl:Qe} (ho:outs.Nodup) (h1:i∉ins) (h2:i∉outs):
    Ja (ZY (JI H i sl) ins) outs ss=JI (Ja (ZY H ins) outs ss) i sl:=by
  funext j
  by_cases e:j=i
  · subst e;rw [Zj,X8 _ _ _ _ h2,Jw _ _ _ h1,Zj]
  · rw [QF _ _ e]
    by_cases hj:j∈outs
    · obtain ⟨k,hk⟩:=List.getElem?_of_mem hj
      rw [qw outs ss _ k j ho hk,qw outs ss _ k j ho hk]
    · rw [X8 _ _ _ _ hj,X8 _ _ _ _ hj]
      by_cases hi:j∈ins
      · rw [zd _ _ _ hi,zd _ _ _ hi]
      · rw [Jw _ _ _ hi,Jw _ _ _ hi,QF _ _ e]
theorem Gl {H:Hp} {ins:List Nat} {i:Nat} {sl:Qe} (h:i∉ins):ins.map (JI H i sl)=ins.map H:=
  List.map_congr_left fun _ hx=>QF _ _ (fun e=>h (e▸hx))
theorem H8 {ρ ρ' :Operand->Value} (o:Op) (h: ∀x∈o.operands,ρ x=ρ' x):Zq ρ o=Zq ρ' o:=
  List.map_congr_left fun x hx=>h x (Array.mem_toList_iff.1 hx)
theorem ka {C:List Qe->Zi} {T:List Qe->(X:Type)->(X->Value)->(X->List Qe)->(X->Prop)->Prop} {ins:List Nat}:
    U8 (fun K H=>VW (XF ins) (GS (T (ins.map H)) (C (ins.map H)) (ins.map H) K H)) ins []:=by
  refine ⟨fun K K' H h hk=> ?_,fun K H i sl h1 _ h=> ?_,fun β ⟨b0⟩ K H h=> ?_⟩
  · obtain ⟨hn,h1,h2,h3⟩:=Ze.1 h
    exact Ze.2 ⟨hn,h1,h2,fun x hx=>hk _ _ (fun _ _=>rfl) (h3 x hx)⟩
  · rw [Gl (ins:=ins) h1] at h
    exact h
  · obtain ⟨hn,h1,h2,-⟩:=Ze.1 (h b0)
    exact Ze.2 ⟨hn,h1,h2,fun x hx b=>(Ze.1 (h b)).2.2.2 x hx⟩
theorem xN {C:List Qe->Zi} {T:List Qe->(X:Type)->(X->Value)->(X->List Qe)->(X->Prop)->Prop} {ins outs:List Nat}:
    U8 (fun K H=>VW (XF ins) (VW (XF outs) (GJ (T (ins.map H)) (C (ins.map H)) ins outs K H))) ins (ins++outs):=by
  refine ⟨fun K K' H h hk=> ?_,fun K H i sl h1 h2 h=> ?_,fun β ⟨b0⟩ K H h=> ?_⟩
  · obtain ⟨hn,h⟩:=Ze.1 h
    obtain ⟨hu,h1,h2,h3⟩:=Ze.1 h
    refine Ze.2 ⟨hn,Ze.2 ⟨hu,h1,h2,fun x hx=>hk _ _ (fun i hi=> ?_) (h3 x hx)⟩⟩
    simp only [List.mem_append,not_or] at hi
    rw [X8 _ _ _ _ hi.2,Jw _ _ _ hi.1]
  · obtain ⟨hn,h⟩:=Ze.1 h
    obtain ⟨hu,h3,h4,h5⟩:=Ze.1 h
    simp only [List.mem_append,not_or] at h2
    rw [Gl (ins:=ins) h1] at h3 h4 h5
    refine Ze.2 ⟨hn,Ze.2 ⟨hu,h3,h4,fun x hx=> ?_⟩⟩
    have:=h5 x hx
    rw [Dj (Xq.1 hu) h2.1 h2.2] at this
    exact this
  · obtain ⟨hn,h'⟩:=Ze.1 (h b0)
    obtain ⟨hu,h1,h2,-⟩:=Ze.1 h'
    exact Ze.2 ⟨hn,Ze.2 ⟨hu,h1,h2,fun x hx b=>(Ze.1 (Ze.1 (h b)).2).2.2.2 x hx⟩⟩
theorem Bh {C:List Qe->Zi} {T:List Qe->(X:Type)->(X->Value)->(X->List Qe)->(X->Prop)->Prop} {ins outs:List Nat}:
    U8 (fun K H=>VW (XF ins) (VW (XF (ins++outs)) (BP (T (ins.map H)) (C (ins.map H)) (ins.map H) outs K H))) ins outs:=by
  refine ⟨fun K K' H h hk=> ?_,fun K H i sl h1 h2 h=> ?_,fun β ⟨b0⟩ K H h=> ?_⟩
  · obtain ⟨hn,h⟩:=Ze.1 h
    obtain ⟨hu,h1,h2,h3⟩:=Ze.1 h
    exact Ze.2 ⟨hn,Ze.2 ⟨hu,h1,h2,fun x hx=>hk _ _ (fun i hi=>X8 _ _ _ _ hi) (h3 x hx)⟩⟩
  · obtain ⟨hn,h⟩:=Ze.1 h
    obtain ⟨hu,h3,h4,h5⟩:=Ze.1 h
    rw [Gl (ins:=ins) h1] at h3 h4 h5
    refine Ze.2 ⟨hn,Ze.2 ⟨hu,h3,h4,fun x hx=> ?_⟩⟩
    have:=h5 x hx
    have e:=Dj (H:=H) (ins:= []) (outs:=outs) (ss:=(C (ins.map H)).us x) (i:=i) (sl:=sl) (List.nodup_append.1 (Xq.1 hu)).2.1 (by simp) h2
    simp only [ZY] at e
    rw [e] at this
    exact this
  · obtain ⟨hn,h'⟩:=Ze.1 (h b0)
    obtain ⟨hu,h1,h2,-⟩:=Ze.1 h'
    exact Ze.2 ⟨hn,Ze.2 ⟨hu,h1,h2,fun x hx b=>(Ze.1 (Ze.1 (h b)).2).2.2.2 x hx⟩⟩
theorem v8 {P:Program} {ρ:Operand->Value} {o:Oper} (a:KX):U8 (Xh P ρ o a) (rdS a) (wrS a):=by
  cases a with
  | sem acc =>
    refine ⟨fun K K' H h hk=>X4 _ acc H _ _ h fun nx H' r hH hn=> ?_,fun K H i sl h1 h2 h=> ?_,fun β hne K H h=> ?_⟩
    · cases nx<;>first | exact hk _ _ hH hn | exact hn
    · refine X4 _ acc H _ _ (Di _ acc H _ i sl h1 h2 h) fun nx H' r _ hn=> ?_
      cases nx<;>exact hn
    · refine X4 _ acc H _ _ (FP _ acc H β hne _ h) fun nx H' r _ hn=> ?_
      obtain ⟨b0⟩:=hne
      cases nx<;>first | exact hn | exact hn b0
  | gen acc C =>
    refine ⟨fun K K' H h hk=>X4 _ acc H _ _ h fun nx H' r hH hn=> ?_,fun K H i sl h1 h2 h=> ?_,fun β hne K H h=> ?_⟩
    · cases nx<;>first | exact ⟨hn.1,fun x hx=>hk _ _ hH (hn.2 x hx)⟩ | exact hn
    · refine X4 _ acc H _ _ (Di _ acc H _ i sl h1 h2 h) fun nx H' r _ hn=> ?_
      cases nx<;>exact hn
    · refine X4 _ acc H _ _ (FP _ acc H β hne _ h) fun nx H' r _ hn=> ?_
      obtain ⟨b0⟩:=hne
      cases nx<;>first | exact ⟨(hn b0).1,fun x hx b=>(hn b).2 x hx⟩ | exact hn b0
  | eq v =>
    exact ⟨fun K K' H h hk=>⟨h.1,hk _ _ (fun _ _=>rfl) h.2⟩,fun K H i sl _ _ h=>h,fun β ⟨b0⟩ K H h=>⟨(h b0).1,fun b=>(h b).2⟩⟩
  | specr ins C=>exact ka (T:=KY P (execOp ρ o)) (C:=C (Zq ρ o.op))
  | specw ins outs C=>exact xN (T:=KY P (execOp ρ o)) (C:=C (Zq ρ o.op))
  | callr ins C =>
    unfold Xh
    simp only
    cases hc:Xo ρ o.op with
    | none=>exact ⟨fun K K' H h=>h.elim,fun K H i sl _ _ h=>h.elim,fun β ⟨b0⟩ K H h=>(h b0).elim⟩
    | some fa=>exact ka (T:=HS P fa.1 fa.2) (C:=C (Zq ρ o.op))
  | callw ins outs C =>
    unfold Xh
    simp only
    cases hc:Xo ρ o.op with
    | none=>exact ⟨fun K K' H h=>h.elim,fun K H i sl _ _ h=>h.elim,fun β ⟨b0⟩ K H h=>(h b0).elim⟩
    | some fa=>exact xN (T:=HS P fa.1 fa.2) (C:=C (Zq ρ o.op))
  | calln ins outs C =>
    unfold Xh
    simp only
    cases hc:Xo ρ o.op with
    | none=>exact ⟨fun K K' H h=>h.elim,fun K H i sl _ _ h=>h.elim,fun β ⟨b0⟩ K H h=>(h b0).elim⟩
    | some fa=>exact Bh (T:=HS P fa.1 fa.2) (C:=C (Zq ρ o.op))
  | dfr=>exact ⟨fun K K' H h=>h.elim,fun K H i sl _ _ h=>h.elim,fun β ⟨b0⟩ K H h=>(h b0).elim⟩
  | no=>exact ⟨fun K K' H h=>h.elim,fun K H i sl _ _ h=>h.elim,fun β ⟨b0⟩ K H h=>(h b0).elim⟩
theorem gH {P : Program} {ρ : Operand -> Value} {o : Oper} (a : KX) {T : (Value -> Hp -> Prop) -> Hp -> Prop} {rd wr : List Nat} (hT : U8 T rd wr)
    (hw: ∀x∈wrS a,x∉rd/\x∉wr) (hr: ∀x∈wr,x∉rdS a) (H:Hp) (K:Value->Value->Hp->Prop)
    (h:Xh P ρ o a (fun v1 H1=>T (fun v2 H2=>K v1 v2 H2) H1) H):T (fun v2 H2=>Xh P ρ o a (fun v1 H1=>K v1 v2 H1) H2) H:=by
  have same: ∀ {ins:List Nat} {H2:Hp},(∀i,i∉wr->H2 i=H i)->(∀x∈wr,x∉ins)->ins.map H2=ins.map H:=fun hH hx=>
    List.map_congr_left fun x hxi=>hH x fun hw=>hx x hw hxi
  have sets: ∀ (l:List Nat) (ss:List Qe) (H0:Hp) (K:Value->Hp->Prop),(∀x∈l,x∉rd/\x∉wr)->T K (Ja H0 l ss)->T (fun v H2=>K v (Ja H2 l ss)) H0:=by
    intro l
    induction l with
    | nil=>exact fun ss H0 K _ h=>h
    | cons x l ih =>
      intro ss H0 K hx h
      exact hT.set _ _ x _ (hx x (by simp)).1 (hx x (by simp)).2 (ih ss.tail _ K (fun y hy=>hx y (by simp [hy])) h)
  have clrs: ∀ (l:List Nat) (H0:Hp) (K:Value->Hp->Prop),(∀x∈l,x∉rd/\x∉wr)->T K (ZY H0 l)->T (fun v H2=>K v (ZY H2 l)) H0:=by
    intro l
    induction l with
    | nil=>exact fun H0 K _ h=>h
    | cons x l ih =>
      intro H0 K hx h
      exact hT.set _ _ x _ (hx x (by simp)).1 (hx x (by simp)).2 (ih _ K (fun y hy=>hx y (by simp [hy])) h)
  have readC: ∀ {S:List Qe->(X:Type)->(X->Value)->(X->List Qe)->(X->Prop)->Prop} {C:List Qe->Zi} {ins:List Nat},(∀x∈wr,x∉ins)->
      VW (XF ins) (GS (S (ins.map H)) (C (ins.map H)) (ins.map H) (fun v1 H1=>T (fun v2 H2=>K v1 v2 H2) H1) H)->
      T (fun v2 H2=>VW (XF ins) (GS (S (ins.map H2)) (C (ins.map H2)) (ins.map H2) (fun v1 H1=>K v1 v2 H1) H2)) H:=by
    intro S C ins hr h
    obtain ⟨hn,h1,⟨x0,hx0⟩,h3⟩:=Ze.1 h
    refine hT.step _ _ _ (hT.all { x:(C (ins.map H)).X//(C (ins.map H)).Φ x } ⟨⟨x0,hx0⟩⟩ (fun x v H' =>K ((C (ins.map H)).val x.1) v H') H fun x=>h3 x.1 x.2) fun v2 H2 hH hk=>Ze.2 ⟨hn,?_⟩
    rw [same (ins:=ins) hH hr]
    exact ⟨h1,⟨x0,hx0⟩,fun x hx=>hk ⟨x,hx⟩⟩
  have writeC: ∀ {S:List Qe->(X:Type)->(X->Value)->(X->List Qe)->(X->Prop)->Prop} {C:List Qe->Zi} {ins outs:List Nat},(∀x∈wr,x∉ins)->(∀x∈ins++outs,x∉rd/\x∉wr)->
      VW (XF ins) (VW (XF outs) (GJ (S (ins.map H)) (C (ins.map H)) ins outs (fun v1 H1=>T (fun v2 H2=>K v1 v2 H2) H1) H))->
      T (fun v2 H2=>VW (XF ins) (VW (XF outs) (GJ (S (ins.map H2)) (C (ins.map H2)) ins outs (fun v1 H1=>K v1 v2 H1) H2))) H:=by
    intro S C ins outs hr hw h
    obtain ⟨hn,h⟩:=Ze.1 h
    obtain ⟨hu,h1,⟨x0,hx0⟩,h3⟩:=Ze.1 h
    refine hT.step _ _ _ (hT.all { x:(C (ins.map H)).X//(C (ins.map H)).Φ x } ⟨⟨x0,hx0⟩⟩ (fun x v H2=>K ((C (ins.map H)).val x.1) v (Ja (ZY H2 ins) outs ((C (ins.map H)).us x.1))) H fun x=>
      clrs ins _ (fun v H2=>K ((C (ins.map H)).val x.1) v (Ja H2 outs ((C (ins.map H)).us x.1))) (fun y hy=>hw y (by simp [hy])) (sets outs _ _ _ (fun y hy=>hw y (by simp [hy])) (h3 x.1 x.2))) fun v2 H2 hH hk=>Ze.2 ⟨hn,Ze.2 ⟨hu,?_⟩⟩
    rw [same (ins:=ins) hH hr]
    exact ⟨h1,⟨x0,hx0⟩,fun x hx=>hk ⟨x,hx⟩⟩
  have newC: ∀ {S:List Qe->(X:Type)->(X->Value)->(X->List Qe)->(X->Prop)->Prop} {C:List Qe->Zi} {ins outs:List Nat},(∀x∈wr,x∉ins)->(∀x∈outs,x∉rd/\x∉wr)->
      VW (XF ins) (VW (XF (ins++outs)) (BP (S (ins.map H)) (C (ins.map H)) (ins.map H) outs (fun v1 H1=>T (fun v2 H2=>K v1 v2 H2) H1) H))->
      T (fun v2 H2=>VW (XF ins) (VW (XF (ins++outs)) (BP (S (ins.map H2)) (C (ins.map H2)) (ins.map H2) outs (fun v1 H1=>K v1 v2 H1) H2))) H:=by
    intro S C ins outs hr hw h
    obtain ⟨hn,h⟩:=Ze.1 h
    obtain ⟨hu,h1,⟨x0,hx0⟩,h3⟩:=Ze.1 h
    refine hT.step _ _ _ (hT.all { x:(C (ins.map H)).X//(C (ins.map H)).Φ x } ⟨⟨x0,hx0⟩⟩ (fun x v H2=>K ((C (ins.map H)).val x.1) v (Ja H2 outs ((C (ins.map H)).us x.1))) H fun x=>
      sets outs _ _ _ hw (h3 x.1 x.2)) fun v2 H2 hH hk=>Ze.2 ⟨hn,Ze.2 ⟨hu,?_⟩⟩
    rw [same (ins:=ins) hH hr]
    exact ⟨h1,⟨x0,hx0⟩,fun x hx=>hk ⟨x,hx⟩⟩
  cases a with
  | sem acc =>
    have h' :Q1 P (execOp ρ o) acc H (fun nx H1 _=>T (fun v2 H2=>(match nx with | .value v=>K v v2 H2 | .skip=>K undef v2 H2 | _=>False)) H1):=
      X4 _ acc H _ _ h fun nx H1 r _ hn=>by cases nx<;>first | exact hn | exact hn.elim
    exact WI hT _ acc H _ hw hr h'
  | eq v=>exact hT.step _ _ _ h.2 fun v2 H2 _ hk=>⟨h.1,hk⟩
  | gen acc C =>
    have h' :Q1 P (execOp ρ o) acc H (fun nx H1 _=>T (fun v2 H2=>(match nx with | .value u=>(∃x,(C (Zq ρ o.op)).Φ x/\u=(C (Zq ρ o.op)).val x)/\ ∀x,(C (Zq ρ o.op)).Φ x->K ((C (Zq ρ o.op)).val x) v2 H2 | _=>False)) H1):=by
      refine X4 _ acc H _ _ h fun nx H1 r _ hn=> ?_
      cases nx with
      | value u =>
        obtain ⟨hex,hn⟩:=hn
        obtain ⟨x0,hx0,hu⟩:=hex
        exact hT.step _ _ _ (hT.all { x:(C (Zq ρ o.op)).X//(C (Zq ρ o.op)).Φ x } ⟨⟨x0,hx0⟩⟩ (fun x v H=>K ((C (Zq ρ o.op)).val x.1) v H) H1 fun x=>hn x.1 x.2) fun v2 H2 _ hk=>⟨⟨x0,hx0,hu⟩,fun x hx=>hk ⟨x,hx⟩⟩
      | _=>exact hn.elim
    exact WI hT _ acc H _ hw hr h'
  | specr ins C=>exact readC (S:=KY P (execOp ρ o)) (C:=C (Zq ρ o.op)) hr h
  | specw ins outs C=>exact writeC (S:=KY P (execOp ρ o)) (C:=C (Zq ρ o.op)) hr hw h
  | callr ins C =>
    unfold Xh at h ⊢
    simp only at h ⊢
    cases hc:Xo ρ o.op with
    | none=>rw [hc] at h;exact h.elim
    | some fa=>rw [hc] at h;exact readC (S:=HS P fa.1 fa.2) (C:=C (Zq ρ o.op)) hr h
  | callw ins outs C =>
    unfold Xh at h ⊢
    simp only at h ⊢
    cases hc:Xo ρ o.op with
    | none=>rw [hc] at h;exact h.elim
    | some fa=>rw [hc] at h;exact writeC (S:=HS P fa.1 fa.2) (C:=C (Zq ρ o.op)) hr hw h
  | calln ins outs C =>
    unfold Xh at h ⊢
    simp only at h ⊢
    cases hc:Xo ρ o.op with
    | none=>rw [hc] at h;exact h.elim
    | some fa=>rw [hc] at h;exact newC (S:=HS P fa.1 fa.2) (C:=C (Zq ρ o.op)) hr hw h
  | dfr=>exact h.elim
  | no=>exact h.elim
end Go.Sx
namespace Go.Sx
open Go.RowKit
def rdT (ops : Array Oper) (o : Oper) : List Nat :=
  (match o.guard with
    | some (j,_)=>match (ops[j]?).bind (·.dst) with | some d=> [d] | none=> []
    | none=> [])++o.op.operands.toList.filterMap fun | .tmp t=>some t | _=>none
def wrT (o:Oper):List Nat:=match o.dst with | some d=> [d] | none=> []
def tW (P:Program) (ops:Array Oper) (o:Oper) (a:KX) (fr:Nat->Value) (K:Value->Hp->Prop) (H:Hp):Prop:=
  match a with
  | .no=>Ji ops o fr (K undef H)
  | a=>JJ ops o fr (Xh P (JF fr) o a K H)
def gO (n:Nat) (o:Oper) (s:St) (K:St->Prop):Value->Hp->Prop:=fun v H' =>Y4 n o.dst v s.fr fun fr' =>K ⟨fr',H',s.df⟩
theorem kn {P:Program} {n:Nat} {ops:Array Oper} {o:Oper} {a:KX} {s:St} {K:St->Prop} (h:Vw a=false):
    bZ P n ops o a s K=tW P ops o a s.fr (gO n o s K) s.H:=by
  cases a<;>first | rfl | cases h
theorem UI {ops:Array Oper} {o:Oper} {fr:Nat->Value}: ∃G:Prop,∀X,JJ ops o fr X↔G/\X:=by
  unfold JJ
  cases o.guard with
  | none=>exact ⟨True,fun X=>by simp⟩
  | some jb =>
    obtain ⟨j,b⟩:=jb
    simp only
    cases (ops[j]?).bind (·.dst) with
    | none=>exact ⟨False,fun X=>by simp⟩
    | some d =>
      simp only
      cases fr d with
      | bool c=>exact ⟨_,fun X=>Iff.rfl⟩
      | _=>exact ⟨False,fun X=>by simp⟩
theorem qN {ops:Array Oper} {o:Oper} {fr:Nat->Value}: ∃G:Prop,∀X,Ji ops o fr X↔G/\X:=by
  unfold Ji
  cases o.guard with
  | none=>exact ⟨False,fun X=>by simp⟩
  | some jb =>
    obtain ⟨j,b⟩:=jb
    simp only
    cases (ops[j]?).bind (·.dst) with
    | none=>exact ⟨False,fun X=>by simp⟩
    | some d =>
      simp only
      cases fr d with
      | bool c=>exact ⟨_,fun X=>Iff.rfl⟩
      | tuple c=>exact ⟨True,fun X=>by simp⟩
      | _=>exact ⟨False,fun X=>by simp⟩
theorem U8.and {T:(Value->Hp->Prop)->Hp->Prop} {rd wr:List Nat} (h:U8 T rd wr) (G:Prop):U8 (fun K H=>G/\T K H) rd wr:=
  ⟨fun K K' H hg hk => ⟨hg.1, h.step K K' H hg.2 hk⟩, fun K H i sl h1 h2 hg => ⟨hg.1, h.set K H i sl h1 h2 hg.2⟩,
   fun β ⟨b0⟩ K H hg=>⟨(hg b0).1,h.all β ⟨b0⟩ K H fun b=>(hg b).2⟩⟩
theorem U8.congr {T T' :(Value->Hp->Prop)->Hp->Prop} {rd wr:List Nat} (h:U8 T rd wr) (e: ∀K H,T K H↔T' K H):U8 T' rd wr:=by
  have:T=T' :=funext fun K=>funext fun H=>propext (e K H)
  exact this▸h
theorem km {P:Program} {ops:Array Oper} {o:Oper} {fr:Nat->Value} (a:KX):U8 (tW P ops o a fr) (rdS a) (wrS a):=by
  obtain ⟨G,hG⟩:=UI (ops:=ops) (o:=o) (fr:=fr)
  obtain ⟨U,hU⟩:=qN (ops:=ops) (o:=o) (fr:=fr)
  cases a with
  | no =>
    refine U8.congr (T:=fun K H=>U/\K undef H) ⟨fun K K' H h hk=>⟨h.1,hk _ _ (fun _ _=>rfl) h.2⟩,fun K H i sl _ _ h=>h,fun β ⟨b0⟩ K H h=>⟨(h b0).1,fun b=>(h b).2⟩⟩ (fun K H=>(hU _).symm)
  | _=>exact ((v8 _).and G).congr (fun K H=>(hG _).symm)
theorem QcT {P:Program} {ops:Array Oper} {o:Oper} {fr:Nat->Value} (a:KX) {T:(Value->Hp->Prop)->Hp->Prop} {rd wr:List Nat} (hT:U8 T rd wr)
    (hw: ∀x∈wrS a,x∉rd/\x∉wr) (hr: ∀x∈wr,x∉rdS a) (H:Hp) (K:Value->Value->Hp->Prop)
    (h:tW P ops o a fr (fun v1 H1=>T (fun v2 H2=>K v1 v2 H2) H1) H):T (fun v2 H2=>tW P ops o a fr (fun v1 H1=>K v1 v2 H1) H2) H:=by
  obtain ⟨G,hG⟩:=UI (ops:=ops) (o:=o) (fr:=fr)
  obtain ⟨U,hU⟩:=qN (ops:=ops) (o:=o) (fr:=fr)
  have core: ∀a,(∀x∈wrS a,x∉rd/\x∉wr)->(∀x∈wr,x∉rdS a)->JJ ops o fr (Xh P (JF fr) o a (fun v1 H1=>T (fun v2 H2=>K v1 v2 H2) H1) H)->
      T (fun v2 H2=>JJ ops o fr (Xh P (JF fr) o a (fun v1 H1=>K v1 v2 H1) H2)) H:=by
    intro a hw hr h
    obtain ⟨hg,h⟩:=(hG _).1 h
    exact hT.step _ _ _ (gH a hT hw hr H K h) fun v2 H2 _ h=>(hG _).2 ⟨hg,h⟩
  cases a with
  | no =>
    obtain ⟨hg,h⟩:=(hU _).1 h
    exact hT.step _ _ _ h fun v2 H2 _ h=>(hU _).2 ⟨hg,h⟩
  | _=>exact core _ hw hr h
theorem jO {ops:Array Oper} {o:Oper} {t:Nat} (h:Operand.tmp t∈o.op.operands):t∈rdT ops o:=by
  refine List.mem_append.2 (.inr (List.mem_filterMap.2 ⟨_,Array.mem_toList_iff.2 h,rfl⟩))
theorem BI {P:Program} {ops:Array Oper} {o:Oper} {a:KX} {fr fr' :Nat->Value} (hs:vq o.op=false) (h: ∀t∈rdT ops o,fr t=fr' t) (K:Value->Hp->Prop) (H:Hp):
    tW P ops o a fr K H=tW P ops o a fr' K H:=by
  have hev: ∀x∈o.op.operands,JF fr x=JF fr' x:=by
    intro x hx
    cases x with
    | tmp t=>exact h t (jO hx)
    | _=>rfl
  have hd: ∀j b d,o.guard=some (j,b)->(ops[j]?).bind (·.dst)=some d->fr d=fr' d:=by
    intro j b d hg hd
    refine h d (List.mem_append.2 (.inl ?_))
    rw [hg];simp only;rw [hd];simp
  have hg: ∀X,JJ ops o fr X=JJ ops o fr' X:=by
    intro X
    unfold JJ
    cases hg:o.guard with
    | none=>rfl
    | some jb =>
      obtain ⟨j,b⟩:=jb
      simp only
      cases hx:(ops[j]?).bind (·.dst) with
      | none=>rfl
      | some d=>simp only;rw [hd j b d hg hx]
  have hu: ∀X,Ji ops o fr X=Ji ops o fr' X:=by
    intro X
    unfold Ji
    cases hg:o.guard with
    | none=>rfl
    | some jb =>
      obtain ⟨j,b⟩:=jb
      simp only
      cases hx:(ops[j]?).bind (·.dst) with
      | none=>rfl
      | some d=>simp only;rw [hd j b d hg hx]
  have he:=Ha (ρ:=JF fr) (ρ' :=JF fr') o hs hev
  have hc:=Gn (ρ:=JF fr) (ρ' :=JF fr') o.op hev
  have hv:=H8 (ρ:=JF fr) (ρ' :=JF fr') o.op hev
  cases a with
  | no=>exact hu _
  | sem acc=>simp only [tW,hg,Xh,he]
  | eq v=>simp only [tW,hg,Xh,he,hv]
  | gen=>simp only [tW,hg,Xh,he];rw [hv]
  | specr=>simp only [tW,hg,Xh,he,hv]
  | specw=>simp only [tW,hg,Xh,he,hv]
  | callr=>simp only [tW,hg,Xh,hc,hv]
  | callw=>simp only [tW,hg,Xh,hc,hv]
  | calln=>simp only [tW,hg,Xh,hc,hv]
  | dfr=>simp only [tW,hg,Xh]
def Qb7 (n:Nat) (o:Oper):Bool:=match o.dst with | some d=>Nat.blt d n | none=>true
def dT (n : Nat) (ops : Array Oper) (o1 : Oper) (a1 : KX) (o2 : Oper) (a2 : KX) : Bool :=
  V8 (wrT o1) (rdT ops o2) && (V8 (wrT o2) (rdT ops o1) && (V8 (wrT o1) (wrT o2) && (V8 (wrS a1) (rdS a2) && (V8 (wrS a1) (wrS a2) && (V8 (wrS a2) (rdS a1) &&
    (!Vw a1 && (!Vw a2 && (!vq o1.op && (!vq o2.op && Qb7 n o2)))))))))
theorem wk {n d:Nat} {v:Value} {fr:Nat->Value} {K:(Nat->Value)->Prop} (h:Nat.blt d n=false):Y4 n (some d) v fr K=False:=by simp [Y4,h]
theorem JY {n d:Nat} {v:Value} {fr:Nat->Value} {K:(Nat->Value)->Prop} (h:Nat.blt d n=true):Y4 n (some d) v fr K=K (JI fr d v):=by simp [Y4,h]
theorem QbG {P : Program} {n : Nat} {ops : Array Oper} {o1 o2 : Oper} {a1 a2 : KX} {s : St} {K : St -> Prop} (hi : dT n ops o1 a1 o2 a2 = true)
    (h:bZ P n ops o1 a1 s (fun s1=>bZ P n ops o2 a2 s1 K)):bZ P n ops o2 a2 s (fun s2=>bZ P n ops o1 a1 s2 K):=by
  simp only [dT,Bool.and_eq_true,Bool.not_eq_true'] at hi
  obtain ⟨i1,i2,i3,i4,i5,i6,d1,d2,e1,e2,hok⟩:=hi
  rw [gG] at i1 i2 i3 i4 i5 i6
  have q1: ∀s,(fun s1:St=>bZ P n ops o2 a2 s1 s)=fun s1=>tW P ops o2 a2 s1.fr (gO n o2 s1 s) s1.H:=fun K=>funext fun s1=>kn d2
  have q2: ∀s,(fun s1:St=>bZ P n ops o1 a1 s1 s)=fun s1=>tW P ops o1 a1 s1.fr (gO n o1 s1 s) s1.H:=fun K=>funext fun s1=>kn d1
  rw [kn d1,q1] at h
  rw [kn d2,q2]
  let Z:Value->Value->Hp->Prop:=fun v1 v2 H=>Y4 n o1.dst v1 s.fr fun f1=>Y4 n o2.dst v2 f1 fun f2=>K ⟨f2,H,s.df⟩
  have keep1: ∀ (v1:Value) (t:Nat),t∈rdT ops o2-> ∀d,o1.dst=some d->JI s.fr d v1 t=s.fr t:=by
    intro v1 t ht d hd
    refine QF _ _ fun e=>i1 d (by simp [wrT,hd]) (e▸ht)
  have keep2: ∀ (v2:Value) (t:Nat),t∈rdT ops o1-> ∀d,o2.dst=some d->JI s.fr d v2 t=s.fr t:=by
    intro v2 t ht d hd
    refine QF _ _ fun e=>i2 d (by simp [wrT,hd]) (e▸ht)
  have g2:U8 (tW P ops o2 a2 s.fr) (rdS a2) (wrS a2):=km a2
  have h1:tW P ops o1 a1 s.fr (fun v1 H1=>tW P ops o2 a2 s.fr (fun v2 H2=>Z v1 v2 H2) H1) s.H:=by
    refine (km a1).step _ _ _ h fun v1 H1 _ hk=> ?_
    simp only [gO] at hk
    simp only [Z]
    cases hd:o1.dst with
    | none=>rw [hd] at hk;exact hk
    | some d =>
      rw [hd] at hk
      cases hb:Nat.blt d n with
      | false=>rw [wk hb] at hk;exact hk.elim
      | true =>
        rw [JY hb] at hk
        simp only [JY hb]
        rw [BI e2 (fr' :=s.fr) (fun t ht=>keep1 v1 t ht d hd)] at hk
        exact hk
  have h2:=QcT a1 g2 (fun x hx=>⟨i4 x hx,i5 x hx⟩) i6 s.H Z h1
  refine g2.step _ _ _ h2 fun v2 H2 _ hk=> ?_
  simp only [gO]
  cases hd:o2.dst with
  | none =>
    show tW P ops o1 a1 s.fr _ H2
    refine (km a1).step _ _ _ hk fun v1 H1 _ hz=> ?_
    simp only [Z,hd] at hz
    exact hz
  | some d =>
    have hb:Nat.blt d n=true:=by simpa [Qb7,hd] using hok
    rw [JY hb]
    show tW P ops o1 a1 (JI s.fr d v2) _ H2
    rw [BI e1 (fr' :=s.fr) (fun t ht=>keep2 v2 t ht d hd)]
    refine (km a1).step _ _ _ hk fun v1 H1 _ hz=> ?_
    simp only [Z,hd] at hz
    simp only [gO]
    cases hd1:o1.dst with
    | none =>
      rw [hd1] at hz
      simp only [Y4] at hz ⊢
      simpa [hb] using hz
    | some d1' =>
      rw [hd1] at hz
      cases hb1:Nat.blt d1' n with
      | false=>rw [wk hb1] at hz;exact hz.elim
      | true =>
        rw [JY hb1,JY hb] at hz
        rw [JY hb1]
        have hne:d1' ≠d:=fun e=>i3 d1' (by simp [wrT,hd1]) (by simp [wrT,hd,e])
        rw [K6 _ _ _ (Ne.symm hne)]
        exact hz
end Go.Sx
namespace Go.Sx
open Go.RowKit
def zb (P:Program) (n:Nat) (ops:Array Oper):List (Nat×KX)->St->(St->Prop)->Prop
  | [],s,K=>K s
  | (i,a)::l,s,K=>match ops[i]? with | some o=>bZ P n ops o a s fun s' =>zb P n ops l s' K | none=>False
theorem p7 {P:Program} {n:Nat} {ops:Array Oper} {o:Oper} {a:KX} {s:St} {K K' :St->Prop} (hk: ∀s,K s->K' s) (h:bZ P n ops o a s K):bZ P n ops o a s K' :=by
  have put: ∀ (d:Option Tmp) (v:Value) (fr:Nat->Value) (F:(Nat->Value)->St),Y4 n d v fr (fun f=>K (F f))->Y4 n d v fr (fun f=>K' (F f)):=by
    intro d v fr F h
    unfold Y4 at h ⊢
    cases d with
    | none=>exact hk _ h
    | some d=>simp only at h ⊢;split<;>simp_all
  by_cases hd:Vw a=false
  · rw [kn hd] at h ⊢
    exact (km a).step _ _ _ h fun v H' _ hp=>put _ _ _ _ hp
  · cases a<;>first | (exact absurd rfl hd) | skip
    obtain ⟨G,hG⟩:=UI (ops:=ops) (o:=o) (fr:=s.fr)
    obtain ⟨hg,h⟩:=(hG _).1 h
    refine (hG _).2 ⟨hg,?_⟩
    unfold QcQ at h ⊢
    split at h
    · split at h
      · exact put _ _ _ _ h
      · exact h.elim
    · exact h.elim
def xL (n:Nat) (ops:Array Oper) (x y:Nat×KX):Bool:=
  match ops[x.1]?,ops[y.1]? with
  | some o1,some o2=>dT n ops o1 x.2 o2 y.2
  | _,_=>false
theorem wc {P : Program} {n : Nat} {ops : Array Oper} {it : Nat × KX} {L2 : List (Nat × KX)} : ∀ {L1 : List (Nat × KX)} {s : St} {K : St -> Prop},
    (∀x∈L1,xL n ops x it=true)->zb P n ops (L1++it::L2) s K->zb P n ops (it::(L1++L2)) s K
  | [],_,_,_,h=>h
  | x :: L1, s, K, hi, h => by
    have hx:=hi x (by simp)
    obtain ⟨i,a⟩:=x
    obtain ⟨j,c⟩:=it
    unfold xL at hx
    simp only at hx
    cases ho1:ops[i]? with
    | none=>rw [ho1] at hx;cases hx
    | some o1 =>
      cases ho2:ops[j]? with
      | none=>rw [ho1,ho2] at hx;cases hx
      | some o2 =>
        rw [ho1,ho2] at hx
        simp only [List.cons_append,zb,ho1] at h
        have h2:=p7 (fun s hs=>wc (L1:=L1) (fun y hy=>hi y (by simp [hy])) hs) h
        simp only [zb,ho2] at h2
        have h3:=QbG hx h2
        simp only [List.cons_append,zb,ho1,ho2]
        exact h3
theorem WC {P : Program} {n : Nat} {r : Option Nat} {ops : Array Oper} {R : HP} {Q : Exit -> Act -> World -> Prop} : ∀ (l : List (Nat × KX)) {s : St} {K : St -> Prop} {act : Act} {w : World},
    (r=none∨ ∀x∈l,Vw x.2=false)->zb P n ops l s K->V4 n s act->ZC s.H R w->(∀a' w',WV n K R w a' w' ->Q .normal a' w')->
    wpOpsIn (YU r) 0 P ops Q (l.map (·.1)) act w
  | [],s,K,act,w,_,h,hr,ho,hq=>hq _ _ ⟨s,h,hr,ho, .refl _⟩
  | (i, a) :: l, s, K, act, w, hd, h, hr, ho, hq => by
    simp only [zb] at h
    simp only [List.map_cons,wpOpsIn]
    cases hop:ops[i]? with
    | none=>rw [hop] at h;exact h.elim
    | some o =>
      rw [hop] at h
      exact FN (hd.imp id fun h=>h (i,a) (by simp)) h hr ho fun a' w' ⟨s',hs,hr',ho',he⟩=>
        WC l (hd.imp id fun h x hx=>h x (by simp [hx])) hs hr' ho' fun a'' w'' ⟨s'',hs',hr'',ho'',he'⟩=>hq _ _ ⟨s'',hs',hr'',ho'',he.trans he'⟩
def ZL (i:Nat):List KX->List (Nat×KX)
  | []=> []
  | a::l=>(i,a)::ZL (i+1) l
theorem Y5: ∀ (asg:List KX) (i:Nat),(ZL i asg).map (·.1)=List.range' i asg.length
  | [],_=>rfl
  | a::l,i=>by simp [ZL,Y5 l (i+1),List.range'_succ]
def Dh:List KX->Nat->Bool
  | [],n=>Nat.beq n 0
  | _::l,n+1=>Dh l n
  | _::_,0=>false
theorem zm: ∀ {l:List KX} {n:Nat},Dh l n=true->l.length=n
  | [],n,h=>(Nat.eq_of_beq_eq_true h).symm
  | _::l,n+1,h=>by simp [zm (l:=l) (n:=n) h]
  | _::_,0,h=>by cases h
theorem HE {P:Program} {n:Nat} {r:Option Nat} {id:Nat} {ops:Array Oper} {asg:List KX} {s:St} {K:St->Prop} {act:Act} {w:World} {R:HP} {Q:Exit->Act->World->Prop}
    (hl:Dh asg ops.size=true) (hd:r=none∨asg.all (fun a=> !Vw a)=true) (h:zb P n ops (ZL 0 asg) s K) (hr:V4 n s act) (ho:ZC s.H R w)
    (hq: ∀a' w',WV n K R w a' w' ->Q .normal a' w'):(Code.region id ops false).wpIn (YU r) 0 P Q act w:=by
  refine wpIn_region ?_
  have e:List.range ops.size=(ZL 0 asg).map (·.1):=by rw [Y5,zm hl,List.range_eq_range']
  rw [e]
  refine WC _ (hd.imp _root_.id fun hd x hx=> ?_) h hr ho hq
  have mem: ∀ (asg:List KX) (i:Nat) x,x∈ZL i asg->x.2∈asg:=by
    intro asg
    induction asg with
    | nil=>intro i x hx;cases hx
    | cons a l ih =>
      intro i x hx
      rcases List.mem_cons.1 hx with rfl | hx
      · simp
      · exact List.mem_cons.2 (.inr (ih _ x hx))
  have:=List.all_eq_true.1 hd x.2 (mem asg 0 x hx)
  simpa using this
inductive Hm (ops:Array Oper):Nat->Nat->Prop where
  | direct {o:Oper} {e:Edge} {i:Nat} (ho:ops[i]? =some o) (he:e∈o.after) (hb:Region.binds .any e=true):Hm ops e.on i
  | trans {o:Oper} {e:Edge} {x i:Nat} (ho:ops[i]? =some o) (he:e∈o.after) (hb:Region.binds .any e=true) (h:Hm ops x e.on):Hm ops x i
def yv (o:Oper) (acc:List Nat):Nat:=
  o.after.toList.foldl (fun m e=>bif Region.binds .any e then m ||| 2^e.on ||| acc.getD e.on 0 else m) 0
theorem Dv {o : Oper} {acc : List Nat} {x : Nat} (h : (yv o acc).testBit x = true) : ∃ e ∈ o.after, Region.binds .any e = true /\ (x = e.on ∨ (acc.getD e.on 0).testBit x = true) := by
  have key: ∀ (l:List Edge) (m:Nat),(l.foldl (fun m e=>bif Region.binds .any e then m ||| 2^e.on ||| acc.getD e.on 0 else m) m).testBit x=true->
      m.testBit x=true∨ ∃e∈l,Region.binds .any e=true/\(x=e.on∨(acc.getD e.on 0).testBit x=true):=by
    intro l
    induction l with
    | nil=>exact fun m h=> .inl h
    | cons e l ih =>
      intro m h
      rcases ih _ h with h | ⟨e',he',h⟩
      · cases hb:Region.binds .any e with
        | false=>simp only [hb,cond_false] at h;exact .inl h
        | true =>
          simp only [hb,cond_true,Nat.testBit_or,Bool.or_eq_true] at h
          rcases h with (h | h) | h
          · exact .inl h
          · rw [Nat.testBit_two_pow] at h
            exact .inr ⟨e,by simp,hb, .inl (by simpa using (of_decide_eq_true h).symm)⟩
          · exact .inr ⟨e,by simp,hb, .inr h⟩
      · exact .inr ⟨e',by simp [he'],h⟩
  rcases key _ _ h with h | ⟨e,he,h⟩
  · simp at h
  · exact ⟨e,Array.mem_toList_iff.1 he,h⟩
def chk (n : Nat) (ops : Array Oper) : (i : Nat) -> (done : List (Nat × KX)) -> (masks : List Nat) -> List KX -> Bool
  | _,_,_,[]=>true
  | i, done, masks, a :: l =>
    match ops[i]? with
    | none=>false
    | some o =>
      o.after.toList.all (fun e=> !Region.binds .any e || Nat.blt e.on i) && ((done.all fun x=>(yv o masks).testBit x.1 || xL n ops x (i,a)) &&
        chk n ops (i+1) (done++ [(i,a)]) (masks++ [yv o masks]) l)
theorem WZ {n : Nat} {ops : Array Oper} : ∀ (l : List KX) (i : Nat) (done : List (Nat × KX)) (masks : List Nat),
    chk n ops i done masks l=true->masks.length=i->(∀y x,y<i->(masks.getD y 0).testBit x=true->Hm ops x y)->
    (∀it,it∈ZL i l-> ∃o,ops[it.1]? =some o/\ ∀e∈o.after,Region.binds .any e=true->e.on<it.1)/\
    (∀L1 it L2,ZL i l=L1++it::L2-> ∀x,x∈done++L1->Hm ops x.1 it.1∨xL n ops x it=true)
  | [],i,done,masks,_,_,_=>⟨fun it h=>(by cases h),fun L1 it L2 h=>(by simp [ZL] at h)⟩
  | a :: l, i, done, masks, h, hm, hp => by
    simp only [chk] at h
    cases ho:ops[i]? with
    | none=>rw [ho] at h;cases h
    | some o =>
      rw [ho] at h
      simp only [Bool.and_eq_true] at h
      obtain ⟨h1,h2,h3⟩:=h
      have hback: ∀e∈o.after,Region.binds .any e=true->e.on<i:=by
        intro e he hb
        have:=List.all_eq_true.1 h1 e (Array.mem_toList_iff.2 he)
        simp only [hb,Bool.not_true,Bool.false_or] at this
        simpa [Nat.blt_eq] using this
      have hmask: ∀x,(yv o masks).testBit x=true->Hm ops x i:=by
        intro x hx
        obtain ⟨e,he,hb,h⟩:=Dv hx
        rcases h with rfl | h
        · exact .direct ho he hb
        · exact .trans ho he hb (hp e.on x (hback e he hb) h)
      obtain ⟨r1,r2⟩:=WZ l (i+1) (done++ [(i,a)]) (masks++ [yv o masks]) h3 (by simp [hm]) (by
        intro y x hy hb
        by_cases e:y=i
        · subst e
          rw [List.getD_eq_getElem?_getD,List.getElem?_append_right (by omega)] at hb
          simp [hm] at hb
          exact hmask x hb
        · rw [List.getD_eq_getElem?_getD,List.getElem?_append_left (by omega),←List.getD_eq_getElem?_getD] at hb
          exact hp y x (by omega) hb)
      refine ⟨fun it hit=> ?_,fun L1 it L2 hL x hx=> ?_⟩
      · rcases List.mem_cons.1 hit with rfl | hit
        · exact ⟨o,ho,hback⟩
        · exact r1 it hit
      · cases L1 with
        | nil =>
          simp only [ZL,List.nil_append,List.cons.injEq] at hL
          obtain ⟨rfl,-⟩:=hL
          rw [List.append_nil] at hx
          have:=List.all_eq_true.1 h2 x hx
          rcases Bool.or_eq_true _ _▸this with h | h
          · exact .inl (hmask x.1 h)
          · exact .inr h
        | cons y L1 =>
          simp only [ZL,List.cons_append,List.cons.injEq] at hL
          obtain ⟨rfl,hL⟩:=hL
          exact r2 L1 it L2 hL x (by simp at hx ⊢;rcases hx with h | h | h<;>simp [h])
theorem Du {m:Region.Mode} {ops:Array Oper}: ∀ (fuel t:Nat) (listed:Array Bool) (acc:List Nat),
    Region.linearise.go m ops fuel t listed acc=acc.reverse++Region.linearise.go m ops fuel t listed []
  | 0,t,listed,acc=>by simp [Region.linearise.go]
  | fuel + 1, t, listed, acc => by
    simp only [Region.linearise.go]
    split
    · rename_i i _
      rw [Du fuel _ _ (i::acc),Du fuel _ _ [i]]
      simp
    · simp
theorem DV {P : Program} {n : Nat} {r : Option Nat} {ops : Array Oper} {R : HP} {Q : Exit -> Act -> World -> Prop} (fuel : Nat) : ∀ (t : Nat) (listed : Array Bool) (L : List (Nat × KX)) {s : St} {K : St -> Prop} {act : Act} {w : World},
    L.length=fuel->listed.size=ops.size->(∀i,i<ops.size->(listed.getD i true=false↔i∈L.map (·.1)))->
    (L.map (·.1)).Nodup->
    (∀it∈L,it.1<ops.size)->
    (∀i o e,ops[i]? =some o->listed.getD i true=true->e∈o.after->Region.binds .any e=true->listed.getD e.on false=true)->
    (∀it L2,L=it::L2-> ∀o e,ops[it.1]? =some o->e∈o.after->Region.binds .any e=true->listed.getD e.on false=true)->
    (∀L1 it L2,L=L1++it::L2-> ∀o e,ops[it.1]? =some o->e∈o.after->Region.binds .any e=true->listed.getD e.on false=true∨e.on∈L1.map (·.1))->
    (∀L1 it L2,L=L1++it::L2-> ∀x∈L1,Hm ops x.1 it.1∨xL n ops x it=true)->
    (r=none∨ ∀x∈L,Vw x.2=false)->zb P n ops L s K->V4 n s act->ZC s.H R w->(∀a' w',WV n K R w a' w' ->Q .normal a' w')->
    wpOpsIn (YU r) 0 P ops Q (Region.linearise.go .any ops fuel t listed []) act w:=by
  induction fuel with
  | zero =>
    intro t listed L s K act w hlen _ _ _ _ _ _ _ _ _ h hr ho hq
    cases L with
    | nil=>exact hq _ _ ⟨s,h,hr,ho, .refl _⟩
    | cons a l=>simp at hlen
  | succ fuel ih =>
    intro t listed L s K act w hlen hsz hin hnd hlt hdown hfirst hedge hpair hd h hr ho hq
    simp only [Region.linearise.go]
    generalize hrs:(List.range ops.size).filter (fun i=> !listed.getD i true && ((ops[i]?).map (·.after.all fun e=> !Region.binds .any e || listed.getD e.on false)).getD false)=rs
    have hmem: ∀i,i∈rs↔i<ops.size/\listed.getD i true=false/\ ∃o,ops[i]? =some o/\ ∀e∈o.after,Region.binds .any e=true->listed.getD e.on false=true:=by
      intro i
      rw [←hrs,List.mem_filter,List.mem_range]
      constructor
      · rintro ⟨h1,h2⟩
        simp only [Bool.and_eq_true,Bool.not_eq_true'] at h2
        refine ⟨h1,h2.1,?_⟩
        cases hop:ops[i]? with
        | none=>rw [hop] at h2;simp at h2
        | some o =>
          rw [hop] at h2
          refine ⟨o,rfl,fun e he hb=> ?_⟩
          have:=Array.all_eq_true'.1 h2.2 e he
          simpa [hb] using this
      · rintro ⟨h1,h2,o,hop,he⟩
        refine ⟨h1,?_⟩
        simp only [Bool.and_eq_true,Bool.not_eq_true']
        refine ⟨h2,?_⟩
        rw [hop]
        refine Array.all_eq_true'.2 fun e hea=> ?_
        cases hb:Region.binds .any e with
        | false=>rfl
        | true=>simp [he e hea hb]
    have hne:rs.length≠0:=by
      cases L with
      | nil=>simp at hlen
      | cons it L2 =>
        have hl:=hlt it (by simp)
        have:it.1∈rs:=(hmem it.1).2 ⟨hl,(hin it.1 hl).2 (by simp),ops[it.1],by simp [hl],fun e he hb=>hfirst it L2 rfl _ e (by simp [hl]) he hb⟩
        intro h0
        rw [List.length_eq_zero_iff] at h0
        rw [h0] at this
        cases this
    have hidx:t%rs.length<rs.length:=Nat.mod_lt _ (Nat.pos_of_ne_zero hne)
    rw [List.getElem?_eq_getElem hidx]
    generalize hi:rs[t%rs.length]=i
    have hi' :i∈rs:=hi▸List.getElem_mem hidx
    obtain ⟨hil,hil2,o,hop,hready⟩:=(hmem i).1 hi'
    simp only
    rw [Du]
    simp only [List.reverse_cons,List.reverse_nil,List.nil_append,List.singleton_append]
    have hiL:=(hin i hil).1 hil2
    obtain ⟨it,hit,rfl⟩:=List.mem_map.1 hiL
    obtain ⟨L1,L2,rfl⟩:=List.append_of_mem hit
    have hnoprec: ∀x∈L1,¬Hm ops x.1 it.1:=by
      have closed: ∀ {a b:Nat},Hm ops a b->(listed.getD b true=true∨b=it.1)->listed.getD a false=true:=by
        intro a b hp
        induction hp with
        | direct ho' he hb =>
          rintro (hl | rfl)
          · exact hdown _ _ _ ho' hl he hb
          · rw [hop] at ho';cases ho';exact hready _ he hb
        | @trans o' e x i ho' he hb _ ihp =>
          intro hl
          have h1:listed.getD e.on false=true:=by
            rcases hl with hl | rfl
            · exact hdown _ _ _ ho' hl he hb
            · rw [hop] at ho';cases ho';exact hready _ he hb
          refine ihp (.inl ?_)
          simp only [Array.getD_eq_getD_getElem?] at h1 ⊢
          cases hx:listed[e.on]? with
          | none=>rw [hx] at h1;simp at h1
          | some b=>rw [hx] at h1;simpa using h1
      intro x hx hp
      have hxl:=hlt x (by simp [hx])
      have h1:=closed hp (.inr rfl)
      have h2:=(hin x.1 hxl).2 (by simp;exact .inl ⟨x.2,hx⟩)
      simp only [Array.getD_eq_getD_getElem?] at h1 h2
      cases hx' :listed[x.1]? with
      | none=>rw [hx'] at h1;simp at h1
      | some b=>rw [hx'] at h1 h2;simp at h1 h2;rw [h1] at h2;cases h2
    have hfront:=wc (fun x hx=>(hpair L1 it L2 rfl x hx).resolve_left (hnoprec x hx)) h
    obtain ⟨i,a⟩:=it
    simp only [zb] at hfront
    simp only [wpOpsIn]
    rw [hop] at hfront ⊢
    refine FN (hd.imp id fun h=>h (i,a) (by simp)) hfront hr ho fun a' w' ⟨s',hs,hr',ho',he⟩=> ?_
    have hget: ∀j,(listed.setIfInBounds i true).getD j true=if j=i then true else listed.getD j true:=by
      intro j
      simp only [Array.getD_eq_getD_getElem?,Array.getElem?_setIfInBounds]
      by_cases e:j=i
      · subst e;simp;split<;>rfl
      · simp [e,Ne.symm e]
    have hgetf: ∀j,listed.getD j false=true∨j=i->(listed.setIfInBounds i true).getD j false=true:=by
      intro j hj
      simp only [Array.getD_eq_getD_getElem?,Array.getElem?_setIfInBounds] at hj ⊢
      by_cases e:j=i
      · subst e;simp [hsz];simp at hil;simp [hil]
      · rcases hj with hj | hj
        · simp [Ne.symm e];simpa using hj
        · exact absurd hj e
    rw [List.map_append,List.map_cons] at hnd
    have hnd' :((L1++L2).map (·.1)).Nodup:=by
      rw [List.map_append]
      exact List.Nodup.sublist (List.Sublist.append_left (List.sublist_cons_self _ _) _) hnd
    have hni:i∉(L1++L2).map (·.1):=by
      rw [List.map_append,List.mem_append]
      rw [List.nodup_append] at hnd
      obtain ⟨_,h2,h3⟩:=hnd
      rw [List.nodup_cons] at h2
      rintro (h | h)
      · exact h3 i h i (by simp) rfl
      · exact h2.1 h
    have hsub: ∀M1 y M2,L1++L2=M1++y::M2-> ∃N1 N2,L1++(i,a)::L2=N1++y::N2/\(∀x∈M1,x∈N1)/\(∀x∈N1,x∈M1∨x=(i,a)):=by
      intro M1 y M2 hM
      rcases List.append_eq_append_iff.1 hM with ⟨asg,h1,h2⟩ | ⟨bs,h1,h2⟩
      ·
        subst h1
        refine ⟨L1++(i,a)::asg,M2,by rw [h2];simp,fun x hx=> ?_,fun x hx=> ?_⟩
        · rw [List.mem_append] at hx ⊢;rcases hx with h | h<;>simp [h]
        · rw [List.mem_append,List.mem_cons] at hx;rw [List.mem_append];rcases hx with h | h | h<;>simp [h]
      ·
        subst h1
        cases bs with
        | nil =>
          simp only [List.nil_append] at h2
          subst h2
          exact ⟨M1++ [(i,a)],M2,by simp,fun x hx=>by simp [hx],fun x hx=>by simp at hx;rcases hx with h | h<;>simp [h]⟩
        | cons b bs =>
          simp only [List.cons_append,List.cons.injEq] at h2
          obtain ⟨rfl,rfl⟩:=h2
          exact ⟨M1,bs++(i,a)::L2,by simp,fun x hx=>hx,fun x hx=> .inl hx⟩
    have hstep:=ih (t/rs.length) (listed.setIfInBounds i true) (L1++L2) (s:=s') (K:=K) (act:=a') (w:=w') (by simp at hlen ⊢;omega) (by simp [hsz])
      (fun j hj=>by
        rw [hget]
        by_cases e:j=i
        · subst e;simp only [if_true];exact ⟨fun h=>(by cases h),fun h=>absurd h hni⟩
        · rw [if_neg e,hin j hj];simp [e])
      hnd' (fun it hit=>hlt it (by simp at hit ⊢;rcases hit with h | h<;>simp [h]))
      (fun j o' e ho' hl hea hb=>by
        rw [hget] at hl
        by_cases ej:j=i
        · subst ej;rw [hop] at ho';cases ho';exact hgetf _ (.inl (hready e hea hb))
        · rw [if_neg ej] at hl;exact hgetf _ (.inl (hdown j o' e ho' hl hea hb)))
      (fun y M2 hM o' e ho' hea hb=>by
        obtain ⟨N1,N2,hN,_,hN2⟩:=hsub [] y M2 hM
        rcases hedge N1 y N2 hN o' e ho' hea hb with h | h
        · exact hgetf _ (.inl h)
        · obtain ⟨x,hx,hxe⟩:=List.mem_map.1 h
          rcases hN2 x hx with h | rfl
          · cases h
          · exact hgetf _ (.inr hxe.symm))
      (fun M1 y M2 hM o' e ho' hea hb=>by
        obtain ⟨N1,N2,hN,hN1,hN2⟩:=hsub M1 y M2 hM
        rcases hedge N1 y N2 hN o' e ho' hea hb with h | h
        · exact .inl (hgetf _ (.inl h))
        · obtain ⟨x,hx,hxe⟩:=List.mem_map.1 h
          rcases hN2 x hx with h | rfl
          · exact .inr (List.mem_map.2 ⟨x,h,hxe⟩)
          · exact .inl (hgetf _ (.inr hxe.symm)))
      (fun M1 y M2 hM x hx=>by
        obtain ⟨N1,N2,hN,hN1,_⟩:=hsub M1 y M2 hM
        exact hpair N1 y N2 hN x (hN1 x hx))
      (hd.imp id fun h x hx=>h x (by simp at hx ⊢;rcases hx with h | h<;>simp [h])) hs hr' ho' (fun a'' w'' ⟨s'',hs',hr'',ho'',he'⟩=>hq _ _ ⟨s'',hs',hr'',ho'',he.trans he'⟩)
    exact hstep
def bE (n:Nat) (ops:Array Oper) (asg:List KX):Bool:=Dh asg ops.size && chk n ops 0 [] [] asg
theorem qB {P : Program} {n : Nat} {r : Option Nat} {id : Nat} {ops : Array Oper} {asg : List KX} {s : St} {K : St -> Prop} {act : Act} {w : World} {R : HP} {Q : Exit -> Act -> World -> Prop}
    (hP:P.follows .mixedOrders=true) (hc:bE n ops asg=true) (hd:r=none∨asg.all (fun a=> !Vw a)=true) (h:zb P n ops (ZL 0 asg) s K) (hr:V4 n s act) (ho:ZC s.H R w)
    (hq: ∀a' w',WV n K R w a' w' ->Q .normal a' w'):(Code.region id ops true).wpIn (YU r) 0 P Q act w:=by
  refine wpIn_region_draw fun t=> ?_
  simp only [bE,Bool.and_eq_true] at hc
  have hlen:=zm hc.1
  rw [hP]
  simp only [Region.schedule,Bool.true_or,if_true,Region.linearise]
  obtain ⟨c1,c2⟩:=WZ asg 0 [] [] hc.2 rfl (fun y x hy=>by omega)
  have hidx:=Y5 asg 0
  have hzlen:(ZL 0 asg).length=ops.size:=by rw [←List.length_map (f:=(·.1)),hidx];simp [hlen]
  have hmemlt: ∀it∈ZL 0 asg,it.1<ops.size:=by
    intro it hit
    have:it.1∈(ZL 0 asg).map (·.1):=List.mem_map.2 ⟨it,hit,rfl⟩
    rw [hidx,List.mem_range'_1] at this
    omega
  have hahead: ∀L1 it L2,ZL 0 asg=L1++it::L2-> ∀j,j<it.1->j∈L1.map (·.1):=by
    intro L1 it L2 hL j hj
    have h1:(L1.map (·.1))++it.1::L2.map (·.1)=List.range' 0 asg.length:=by rw [←hidx,hL];simp
    have hsort:((L1.map (·.1))++it.1::L2.map (·.1)).Pairwise (· < ·):=by rw [h1];exact List.pairwise_lt_range'
    have hin:it.1∈List.range' 0 asg.length:=by rw [←h1];simp
    have hj' :j∈(L1.map (·.1))++it.1::L2.map (·.1):=by
      rw [h1,List.mem_range'_1]
      rw [List.mem_range'_1] at hin
      omega
    rcases List.mem_append.1 hj' with h | h
    · exact h
    · rcases List.mem_cons.1 h with h | h
      · omega
      · have:=(List.pairwise_cons.1 (List.pairwise_append.1 hsort).2.1).1 j h
        omega
  have hw0:ZC s.H R { w with drawn:=w.drawn+1 }:=ho.same fun _ _ h=>h
  refine DV ops.size t (Array.replicate ops.size false) (ZL 0 asg) hzlen (by simp) ?_ (by rw [hidx];exact List.nodup_range') hmemlt ?_ ?_ ?_ (fun L1 it L2 hL x hx=>c2 L1 it L2 hL x (by simpa using hx)) ?_ h hr hw0 ?_
  · intro i hi
    rw [hidx,List.mem_range'_1]
    simp [Array.getD_eq_getD_getElem?,hi,hlen]
  · intro i o e hop hl
    have hi:i<ops.size:=by
      rcases Nat.lt_or_ge i ops.size with h | h
      · exact h
      · simp [Array.getElem?_eq_none h] at hop
    simp [Array.getD_eq_getD_getElem?,hi] at hl
  · intro it L2 hL o e hop hea hb
    obtain ⟨o',ho',hb'⟩:=c1 it (by rw [hL];simp)
    rw [hop] at ho'
    cases ho'
    have:=hahead [] it L2 hL e.on (hb' e hea hb)
    cases this
  · intro L1 it L2 hL o e hop hea hb
    obtain ⟨o',ho',hb'⟩:=c1 it (by rw [hL];simp)
    rw [hop] at ho'
    cases ho'
    exact .inr (hahead L1 it L2 hL e.on (hb' e hea hb))
  · refine hd.imp _root_.id fun hd x hx=> ?_
    have mem: ∀ (asg:List KX) (i:Nat) x,x∈ZL i asg->x.2∈asg:=by
      intro asg
      induction asg with
      | nil=>intro i x hx;cases hx
      | cons a l ih =>
        intro i x hx
        rcases List.mem_cons.1 hx with rfl | hx
        · simp
        · exact List.mem_cons.2 (.inr (ih _ x hx))
    have:=List.all_eq_true.1 hd x.2 (mem asg 0 x hx)
    simpa using this
  · rintro a' w' ⟨s',hs,hr',ho',he⟩
    exact hq _ _ ⟨s',hs,hr',ho',Kw.trans (b:= { w with drawn:=w.drawn+1 }) ⟨rfl,rfl,rfl,Nat.le_refl _,by first | exact Nat.le_refl _ | exact Nat.le_succ _ | simp⟩ he⟩
end Go.Sx
namespace Go.Sx
open Go.RowKit
inductive Zn:Type 1 where
  | done
  | reg (asg:List KX) (k:Zn)
  | condT (k:Zn)
  | condF (k:Zn)
  | cond (k1 k2:Zn)
  | caseP (b:St->Bool) (k1 k2:Zn)
  | cut (X:Type) (live:X->List (Nat×Value)) (heap:X->List (Nat×Qe)) (Φ:X->Prop) (k:X->Zn)
  | join (X:Type) (live:X->List (Nat×Value)) (heap:X->List (Nat×Qe)) (Φ:X->Prop) (k1:Zn) (k2:X->Zn)
  | inv (X:Type) (live:X->List (Nat×Value)) (heap:X->List (Nat×Qe)) (Φ:X->Prop) (μ:X->Nat) (kb:X->Zn)
  | sinv (l:Nat) (X:Type) (live:X->List (Nat×Value)) (heap:X->List (Nat×Qe)) (Φ:X->Prop) (μ:X->Nat) (k0:Zn) (k1:X->Zn)
  | ghost (ids:List Nat) (φ:List Qe->Prop) (k:Zn)
  | rf (ts ins outs:List Nat) (C:(Nat->Value)->List Qe->Zi) (k:Zn)
  | rfx (id:Nat) (ts ins outs:List Nat) (C:(Nat->Value)->List Qe->Zi) (k:Zn)
def qU {α:Type _}:List (Nat×α)->Nat->Option α
  | [],_=>none
  | (i,v)::l,j=>bif Nat.beq j i then some v else qU l j
def DR (live:List (Nat×Value)) (heap:List (Nat×Qe)) (junk:Nat->Value) (df:List Deferred):St where
  fr:=fun i=>match qU live i with | some v=>v | none=>junk i
  H:=fun i=>match qU heap i with | some s=>s | none=> .free
  df:=df
def dL (l:List (Nat×Value)) (fr:Nat->Value) (Y:Prop):Prop:=
  match l with
  | []=>Y
  | (i,v)::l=>fr i=v/\dL l fr Y
def dX (l:List (Nat×Qe)) (H:Hp) (Y:Prop):Prop:=
  match l with
  | []=>Y
  | (i,s)::l=>H i=s/\dX l H Y
def dfW (a b:List Deferred) (Y:Prop):Prop:=
  match a with
  | []=>(match b with | []=>Y | _=>False)
  | x::l=>x::l=b/\Y
def hF (live:List (Nat×Value)) (heap:List (Nat×Qe)) (df:List Deferred) (s:St) (X:Prop):Prop:=dL live s.fr (dX heap s.H (dfW s.df df X))
def Qb2 (r:Option Nat) (asg:List KX):Bool:=match r with | none=>true | some _=>asg.all (fun a=> !Vw a)
abbrev US (D:Nat):Deferred:= { target:= .collected D,args:= #[] }
def vO (P : Program) (n : Nat) (g : Operand) (ps : Array Tmp) (asg b : Code) (fr : Nat -> Value) (Hs : List Qe) (X : Type) (us : X -> List Qe) (Φ : X -> Prop) : Prop :=
  ∀ (R : HP) (w : World) (act : Act), act.tmps.size = n -> (∀ i, act.tmps.getD i undef = fr i) -> ZC (QK Hs) R w ->
    (Code.rangeFunc g ps asg b).wpIn (YU none) 0 P (fun e a' w' =>e= .normal/\a'.tmps=act.tmps/\ ∃D x,a'.defers=US D::act.defers/\Φ x/\ZC (QK (.blk D (.deferred (some []))::us x)) R w' /\Kw w w') act w
theorem vO.use {P:Program} {n:Nat} {g:Operand} {ps:Array Tmp} {asg b:Code} {fr:Nat->Value} {H:Hp} {ins outs:List Nat} {X:Type} {us:X->List Qe} {Φ:X->Prop} {R:HP} {w:World} {act:Act}
    (h:vO P n g ps asg b fr (ins.map H) X us Φ) (hz:act.tmps.size=n) (ht: ∀i,act.tmps.getD i undef=fr i) (hi:ins.Nodup) (ho:outs.Nodup) (hw:ZC H R w):
    (Code.rangeFunc g ps asg b).wpIn (YU none) 0 P (fun e a' w' =>e= .normal/\a'.tmps=act.tmps/\ ∃D x,a'.defers=US D::act.defers/\Φ x/\ZC (Ja (ZY H ins) outs (.blk D (.deferred (some []))::us x)) R w' /\Kw w w') act w:=
  wpIn_mono (h _ w act hz ht (J2 hi hw)) fun _ _ _ ⟨h1,h2,D,x,h3,h4,h5,h6⟩=>⟨h1,h2,D,x,h3,h4,Va ho h5,h6⟩
def gJ (P : Program) (n : Nat) (g : Operand) (ps : Array Tmp) (asg b : Code) (id : Nat) (fr : Nat -> Value) (Hs : List Qe) (X : Type) (us : X -> List Qe) (Φ : X -> Prop) : Prop :=
  ∀ (R : HP) (w : World) (act : Act), act.tmps.size = n -> (∀ i, act.tmps.getD i undef = fr i) -> ZC (QK Hs) R w ->
    (Code.rangeFunc g ps asg b).wpIn (YU none) 0 P (fun e a' w' =>(e= .normal∨e= .exit id)/\a'.tmps=act.tmps/\ ∃D x,a'.defers=US D::act.defers/\Φ x/\ZC (QK (.blk D (.deferred (some []))::us x)) R w' /\Kw w w') act w
theorem gJ.use {P:Program} {n:Nat} {g:Operand} {ps:Array Tmp} {asg b:Code} {id:Nat} {fr:Nat->Value} {H:Hp} {ins outs:List Nat} {X:Type} {us:X->List Qe} {Φ:X->Prop} {R:HP} {w:World} {act:Act}
    (h:gJ P n g ps asg b id fr (ins.map H) X us Φ) (hz:act.tmps.size=n) (ht: ∀i,act.tmps.getD i undef=fr i) (hi:ins.Nodup) (ho:outs.Nodup) (hw:ZC H R w):
    (Code.rangeFunc g ps asg b).wpIn (YU none) 0 P (fun e a' w' =>(e= .normal∨e= .exit id)/\a'.tmps=act.tmps/\ ∃D x,a'.defers=US D::act.defers/\Φ x/\ZC (Ja (ZY H ins) outs (.blk D (.deferred (some []))::us x)) R w' /\Kw w w') act w:=
  wpIn_mono (h _ w act hz ht (J2 hi hw)) fun _ _ _ ⟨h1,h2,D,x,h3,h4,h5,h6⟩=>⟨h1,h2,D,x,h3,h4,Va ho h5,h6⟩
def W7 (ts:List Nat) (fr' fr:Nat->Value) (Y:Prop):Prop:=
  match ts with
  | []=>Y
  | t::ts=>fr' t=fr t->W7 ts fr' fr Y
theorem Y7: ∀ {ts:List Nat} {fr:Nat->Value} {Y:Prop},W7 ts fr fr Y->Y
  | [],_,_,h=>h
  | _::_,_,_,h=>Y7 (h rfl)
def Qq (P : Program) (n : Nat) (r : Option Nat) : Nat -> Option Code -> Code -> Zn -> St -> (Exit -> St -> Zn -> Prop) -> Prop
  | 0,_,_,_,_,_=>False
  | f + 1, some body, c, k, s, K => Qq P n r f none c k s fun e s' k' =>
      match e with
      | .goto l=>match findLabel body l with | some rest=>Qq P n r f (some body) rest k' s' K | none=>K (.goto l) s' k'
      | e=>K e s' k'
  | f + 1, none, c, .cut _ live heap Φ k, s, K =>
      (∃x,Φ x/\hF (live x) (heap x) s.df s True)/\ ∀x (junk:Nat->Value),Φ x->Qq P n r f none c (k x) (DR (live x) (heap x) junk s.df) K
  | f+1,none,c, .caseP b k1 k2,s,K=>(b s=true->Qq P n r f none c k1 s K)/\(b s=false->Qq P n r f none c k2 s K)
  | f+1,none,c, .ghost ids φ k,s,K=>VW (XF ids) ((∀ (R:HP) (w:World),ZC (QK (ids.map s.H)) R w->φ (ids.map s.H))/\(φ (ids.map s.H)->Qq P n r f none c k s K))
  | _+1,none, .skip,k,s,K=>K .normal s k
  | _+1,none, .label _,k,s,K=>K .normal s k
  | _+1,none, .ret,k,s,K=>K .ret s k
  | _+1,none, .exit id,k,s,K=>K (.exit id) s k
  | _+1,none, .goto l,k,s,K=>K (.goto l) s k
  | f + 1, none, .seq x y, .join _ live heap Φ k1 k2, s, K =>
      Qq P n r f none x k1 s (fun e s' k' =>match e with | .normal=> ∃x,Φ x/\hF (live x) (heap x) s.df s' True | e=>K e s' k')/\
      ∀x (junk:Nat->Value),Φ x->Qq P n r f none y (k2 x) (DR (live x) (heap x) junk s.df) K
  | f+1,none, .seq x y,k,s,K=>Qq P n r f none x k s fun e s' k' =>match e with | .normal=>Qq P n r f none y k' s' K | e=>K e s' k'
  | _ + 1, none, .region _ ops draw, .reg asg k', s, K =>
      VW (bif draw then bE n ops asg else Dh asg ops.size) (VW (Qb2 r asg) (zb P n ops (ZL 0 asg) s fun s' =>K .normal s' k'))
  | f + 1, none, .cond c x y, k, s, K =>
      match JF s.fr c with
      | .bool b =>
        match k with
        | .condT k' =>b=true/\Qq P n r f none x k' s K
        | .condF k' =>b=false/\Qq P n r f none y k' s K
        | .cond k1 k2=>(b=true->Qq P n r f none x k1 s K)/\(b=false->Qq P n r f none y k2 s K)
        | _=>False
      | _=>False
  | f + 1, none, .block id c, k, s, K => Qq P n r f none c k s fun e s' k' =>
      match e with
      | .exit id' =>match Nat.beq id' id with | true=>K .normal s' k' | false=>K (.exit id') s' k'
      | e=>K e s' k'
  | f + 1, none, .loop c, .inv _ live heap Φ μ kb, s, K =>
      (∃x,Φ x/\hF (live x) (heap x) s.df s True)/\ ∀x (junk:Nat->Value),Φ x->
        Qq P n r f none c (kb x) (DR (live x) (heap x) junk s.df) fun e s' k' =>
          match e with
          | .normal=> ∃y,Φ y/\μ y<μ x/\hF (live y) (heap y) s.df s' True
          | e=>K e s' k'
  | f+1,none, .loop c,k,s,K=>Qq P n r f none c k s fun e s' k' =>match e with | .normal=>Qq P n r f none (.loop c) k' s' K | e=>K e s' k'
  | f + 1, none, .scope body, .sinv l _ live heap Φ μ k0 k1, s, K =>
      match r,findLabel body l with
      | none, some rest =>
        Qq P n r f none body k0 s (fun e s' k' =>
          match e with
          | .goto l' =>match Nat.beq l' l with | true=> ∃x,Φ x/\hF (live x) (heap x) s.df s' True | false=>False
          | e=>K e s' k')/\
        ∀ x (junk : Nat -> Value), Φ x -> Qq P n r f none rest (k1 x) (DR (live x) (heap x) junk s.df) fun e s' k' =>
          match e with
          | .goto l' =>match Nat.beq l' l with | true=> ∃y,Φ y/\μ y<μ x/\hF (live y) (heap y) s.df s' True | false=>False
          | e=>K e s' k'
      | _,_=>False
  | f+1,none, .scope body,k,s,K=>match r with | none=>Qq P n r f (some body) body k s K | some _=>False
  | _ + 1, none, .rangeFunc g ps asg b, .rf ts ins outs C k, s, K =>
      match r with
      | none=>VW (XF ins) (VW (XF outs) ((∀fr' :Nat->Value,W7 ts fr' s.fr (vO P n g ps asg b fr' (ins.map s.H) (C s.fr (ins.map s.H)).X (C s.fr (ins.map s.H)).us (C s.fr (ins.map s.H)).Φ))/\(∃x,(C s.fr (ins.map s.H)).Φ x)/\
          ∀D x,(C s.fr (ins.map s.H)).Φ x->K .normal ⟨s.fr,Ja (ZY s.H ins) outs (.blk D (.deferred (some []))::(C s.fr (ins.map s.H)).us x),US D::s.df⟩ k))
      | some _=>False
  | _ + 1, none, .rangeFunc g ps asg b, .rfx id ts ins outs C k, s, K =>
      match r with
      | none=>VW (XF ins) (VW (XF outs) ((∀fr' :Nat->Value,W7 ts fr' s.fr (gJ P n g ps asg b id fr' (ins.map s.H) (C s.fr (ins.map s.H)).X (C s.fr (ins.map s.H)).us (C s.fr (ins.map s.H)).Φ))/\(∃x,(C s.fr (ins.map s.H)).Φ x)/\
          ∀ D x, (C s.fr (ins.map s.H)).Φ x -> K .normal ⟨s.fr, Ja (ZY s.H ins) outs (.blk D (.deferred (some [])) :: (C s.fr (ins.map s.H)).us x), US D :: s.df⟩ k /\
            K (.exit id) ⟨s.fr,Ja (ZY s.H ins) outs (.blk D (.deferred (some []))::(C s.fr (ins.map s.H)).us x),US D::s.df⟩ k))
      | some _=>False
  | _+1,none,_,_,_,_=>False
theorem xd {H : Hp} {R : HP} {w : World} {ids : List Nat} (hn : ids.Nodup) (h : ZC H R w) : ZC (QK (ids.map H)) R w := by
  obtain ⟨p,q,hs,hq,hp,hqw,hd,hdq⟩:=h
  refine ⟨Wx ids p,q,fun k=> ?_,hq,fun k=> ?_,hqw,fun k l hkl=> ?_,fun k=> ?_⟩
  · unfold QK
    cases hk:ids[k]? with
    | none=>rw [List.getD_eq_getElem?_getD,List.getElem?_map,hk,Xa hk];exact fun _=>rfl
    | some i=>rw [List.getD_eq_getElem?_getD,List.getElem?_map,hk,Xb hk];exact hs i
  · cases hk:ids[k]? with
    | none=>rw [Xa hk];intro b o h;cases h
    | some i=>rw [Xb hk];exact hp i
  · cases hk:ids[k]? with
    | none=>rw [Xa hk];exact fun _=> .inl rfl
    | some i =>
      cases hl:ids[l]? with
      | none=>rw [Xa hl];exact fun _=> .inr rfl
      | some j =>
        rw [Xb hk,Xb hl]
        refine hd i j (fun e=>hkl ?_)
        subst e
        obtain ⟨hk1,hk2⟩:=List.getElem?_eq_some_iff.1 hk
        obtain ⟨hl1,hl2⟩:=List.getElem?_eq_some_iff.1 hl
        exact (List.getElem_inj hn).1 (hk2.trans hl2.symm)
  · cases hk:ids[k]? with
    | none=>rw [Xa hk];exact fun _=> .inl rfl
    | some i=>rw [Xb hk];exact hdq i
def Jx (n:Nat) (K:Exit->St->Prop) (R:HP) (w:World) (e:Exit) (a' :Act) (w' :World):Prop:=
  ∃s',K e s' /\V4 n s' a' /\ZC s'.H R w' /\Kw w w'
theorem Jx.ext {n:Nat} {K:Exit->St->Prop} {R:HP} {w w1:World} {e:Exit} {a' :Act} {w' :World} (h:Jx n K R w1 e a' w') (hx:Kw w w1):Jx n K R w e a' w' :=
  let ⟨s',k,r,o,x⟩:=h;⟨s',k,r,o,hx.trans x⟩
def bC (P:Program) (body c:Code) (Q:Exit->Act->World->Prop) (a:Act) (w:World):Prop:=
  ∀ (b:Frame) (k:List Item) (cs:List Frame),∃e a' w',Q e a' w' /\Arrives P (lone (b.at a (.code c:: .inScope body::k)) cs w) b k cs e a' w'
def xS (P:Program) (body:Code) (Q:Exit->Act->World->Prop):Exit->Act->World->Prop
  | .goto l,a,w=>match findLabel body l with | some rest=>bC P body rest Q a w | none=>Q (.goto l) a w
  | e,a,w=>Q e a w
theorem HZ {P:Program} {body c:Code} {Q:Exit->Act->World->Prop} {a:Act} {w:World} (h:c.wp P (xS P body Q) a w):bC P body c Q a w:=by
  intro b k cs
  obtain ⟨e,a₁,w₁,hq,harr⟩:=h b (.inScope body::k) cs
  cases e with
  | normal=>exact ⟨.normal,a₁,w₁,hq,Steps.trans harr (.one step_inScope)⟩
  | exit id=>exact ⟨.exit id,a₁,w₁,hq,fun k' hk=>harr k' (by simp [exitTo,hk])⟩
  | goto l =>
    simp only [xS] at hq
    cases hf:findLabel body l with
    | none=>rw [hf] at hq;exact ⟨.goto l,a₁,w₁,hq,fun k' hk=>harr k' (by simp [gotoIn,hf,hk])⟩
    | some rest =>
      rw [hf] at hq
      obtain ⟨e₂,a₂,w₂,hq₂,harr₂⟩:=hq b k cs
      exact ⟨e₂,a₂,w₂,hq₂, .of_steps (harr _ (by simp [gotoIn,hf])) harr₂⟩
  | ret=>exact ⟨_,a₁,w₁,hq,harr⟩
  | panic ch=>exact ⟨_,a₁,w₁,hq,harr⟩
  | outgrown=>exact ⟨_,a₁,w₁,hq,harr⟩
theorem je {P:Program} {body:Code} {Q:Exit->Act->World->Prop} {a:Act} {w:World} (h:bC P body body Q a w):(Code.scope body).wp P Q a w:=by
  intro b k cs
  obtain ⟨e,a₁,w₁,hq,harr⟩:=h b k cs
  exact ⟨e,a₁,w₁,hq, .of_steps (.one step_scope) harr⟩
theorem y9: ∀ (l:List (Nat×Value)) {fr:Nat->Value} {X:Prop},dL l fr X->X/\ ∀i v,qU l i=some v->fr i=v
  | [],_,_,h=>⟨h,fun _ _ h=>by cases h⟩
  | (i, v) :: l, fr, X, h => by
    obtain ⟨hx,hl⟩:=y9 l h.2
    refine ⟨hx,fun j u hj=> ?_⟩
    simp only [qU] at hj
    cases hb:Nat.beq j i with
    | true=>rw [hb] at hj;simp at hj;rw [Nat.eq_of_beq_eq_true hb,←hj];exact h.1
    | false=>rw [hb] at hj;exact hl j u hj
theorem yF: ∀ (l:List (Nat×Qe)) {H:Hp} {X:Prop},dX l H X->X/\ ∀i v,qU l i=some v->H i=v
  | [],_,_,h=>⟨h,fun _ _ h=>by cases h⟩
  | (i, v) :: l, H, X, h => by
    obtain ⟨hx,hl⟩:=yF l h.2
    refine ⟨hx,fun j u hj=> ?_⟩
    simp only [qU] at hj
    cases hb:Nat.beq j i with
    | true=>rw [hb] at hj;simp at hj;rw [Nat.eq_of_beq_eq_true hb,←hj];exact h.1
    | false=>rw [hb] at hj;exact hl j u hj
theorem ZC.weaken {H H' :Hp} {R:HP} {w:World} (h:ZC H R w) (hh: ∀i,H' i=H i∨H' i= .free):ZC H' R w:=by
  classical
  obtain ⟨p,q,hs,hq,hp,hqw,hd,hdq⟩:=h
  refine ⟨fun i=>if H' i=H i then p i else fun _=>none,q,fun i=> ?_,hq,fun i=> ?_,hqw,fun i j hij=> ?_,fun i=> ?_⟩
  · by_cases e:H' i=H i
    · simp only [e,if_true];exact hs i
    · simp only [e,if_false];rw [(hh i).resolve_left e];exact fun _=>rfl
  · by_cases e:H' i=H i
    · simp only [e,if_true];exact hp i
    · simp only [e,if_false];intro b o h;cases h
  · by_cases e:H' i=H i
    · by_cases e' :H' j=H j
      · simp only [e,e',if_true];exact hd i j hij
      · simp only [e',if_false];exact fun _=> .inr rfl
    · simp only [e,if_false];exact fun _=> .inl rfl
  · by_cases e:H' i=H i
    · simp only [e,if_true];exact hdq i
    · simp only [e,if_false];exact fun _=> .inl rfl
theorem Ym {n:Nat} {live:List (Nat×Value)} {heap:List (Nat×Qe)} {df:List Deferred} {s:St} {a:Act} {R:HP} {w:World} (h:hF live heap df s True) (hr:V4 n s a) (ho:ZC s.H R w):
    ∃junk,V4 n (DR live heap junk df) a/\ZC (DR live heap junk df).H R w:=by
  obtain ⟨h1,hl⟩:=y9 live h
  obtain ⟨h2,hh⟩:=yF heap h1
  have hdf:s.df=df:=by
    cases hs:s.df with
    | nil =>
      rw [hs] at h2
      cases df with
      | nil=>rfl
      | cons x l=>exact h2.elim
    | cons x l=>rw [hs] at h2;exact h2.1
  refine ⟨s.fr,⟨hr.size,fun i=> ?_,by rw [hr.df,hdf];rfl⟩,ho.weaken fun i=> ?_⟩
  · rw [hr.at_ i]
    simp only [DR]
    cases hx:qU live i with
    | none=>rfl
    | some v=>exact hl i v hx
  · simp only [DR]
    cases hx:qU heap i with
    | none=>exact .inr rfl
    | some v=>exact .inl (hh i v hx).symm
def By (r : Option Nat) (P : Program) (c : Code) (Q : Exit -> Act -> World -> Prop) (a : Act) (w : World) : Prop :=
  ∀ (b : Frame) (k : List Item) (cs : List Frame), b.roundOf = (YU r).round -> (YU r).fn b.fn -> (YU r).room (cs.length + 1 + 0) ->
    ∃e a' w',Q e a' w' /\ArrivesIn (Machine.fenced P (YU r)) P (lone (b.atR a (.code c:: .inLoop c::k)) cs w) b k cs e a' w'
theorem yy {r:Option Nat} {P:Program} {c:Code} {Q:Exit->Act->World->Prop} {a:Act} {w:World} (h:c.wpIn (YU r) 0 P (Exit.then (By r P c Q) Q) a w):By r P c Q a w:=by
  intro b k cs hro hb hroom
  obtain ⟨e,a₁,w₁,hq,harr⟩:=h b (.inLoop c::k) cs hro hb hroom
  cases e with
  | normal =>
    obtain ⟨e₂,a₂,w₂,hq₂,harr₂⟩:=hq b k cs hro hb hroom
    have s1:StepsIn (Machine.fenced P (YU r)) P (lone (b.atR a₁ (.inLoop c::k)) cs w₁) (lone (b.atR a₁ (.code c:: .inLoop c::k)) cs w₁):= .one (fenced_calm hb hroom rfl) stepR_inLoop
    exact ⟨e₂,a₂,w₂,hq₂, .of_steps (StepsIn.trans harr s1) harr₂⟩
  | exit id=>exact ⟨_,a₁,w₁,hq, .pass (x:= .inLoop c) rfl (by simp) harr⟩
  | goto l=>exact ⟨_,a₁,w₁,hq, .pass (x:= .inLoop c) rfl (by simp) harr⟩
  | ret=>exact ⟨_,a₁,w₁,hq, .pass (x:= .inLoop c) rfl (by simp) harr⟩
  | panic ch=>exact ⟨_,a₁,w₁,hq, .pass (x:= .inLoop c) rfl (by simp) harr⟩
  | outgrown=>exact ⟨_,a₁,w₁,hq, .pass (x:= .inLoop c) rfl (by simp) harr⟩
theorem Hx {r:Option Nat} {P:Program} {c:Code} {Q:Exit->Act->World->Prop} {a:Act} {w:World} (h:By r P c Q a w):(Code.loop c).wpIn (YU r) 0 P Q a w:=by
  intro b k cs hro hb hroom
  obtain ⟨e,a₁,w₁,hq,harr⟩:=h b k cs hro hb hroom
  exact ⟨e,a₁,w₁,hq, .of_steps (.one (fenced_calm hb hroom rfl) stepR_loop) harr⟩
theorem kY {P : Program} {n : Nat} {r : Option Nat} (hP : P.follows .mixedOrders = true) (f : Nat) :
    (∀ (c:Code) (k:Zn) (s:St) (K:Exit->St->Zn->Prop) (R:HP) (act:Act) (w:World),Qq P n r f none c k s K->V4 n s act->ZC s.H R w->
      c.wpIn (YU r) 0 P (Jx n (fun e s' => ∃k',K e s' k') R w) act w)/\
    (∀ (body c:Code) (k:Zn) (s:St) (K:Exit->St->Zn->Prop) (R:HP) (act:Act) (w:World),r=none->Qq P n r f (some body) c k s K->V4 n s act->ZC s.H R w->
      bC P body c (Jx n (fun e s' => ∃k',K e s' k') R w) act w)/\
    (∀ (c:Code) (k:Zn) (s:St) (K:Exit->St->Zn->Prop) (R:HP) (act:Act) (w:World),Qq P n r f none (.loop c) k s K->V4 n s act->ZC s.H R w->
      By r P c (Jx n (fun e s' => ∃k',K e s' k') R w) act w):=by
  induction f with
  | zero=>exact ⟨fun c k s K R act w h=>h.elim,fun body c k s K R act w _ h=>h.elim,fun c k s K R act w h=>h.elim⟩
  | succ f ih =>
    obtain ⟨ih1,ih2,ih3⟩:=ih
    have hloop: ∀ (c:Code) (k:Zn) (s:St) (K:Exit->St->Zn->Prop) (R:HP) (act:Act) (w:World),Qq P n r (f+1) none (.loop c) k s K->V4 n s act->ZC s.H R w->
        By r P c (Jx n (fun e s' => ∃k',K e s' k') R w) act w:=by
      intro c k s K R act w h hr ho
      have go:Qq P n r f none c k s (fun e s' k' =>match e with | .normal=>Qq P n r f none (.loop c) k' s' K | e=>K e s' k')->By r P c (Jx n (fun e s' => ∃k',K e s' k') R w) act w:=by
        intro h
        refine yy (wpIn_mono (ih1 _ _ _ _ R act w h hr ho) ?_)
        rintro e a' w' ⟨s',⟨k',hk⟩,hr',ho',he⟩
        cases e with
        | normal =>
          intro b k0 cs hro hb hroom
          obtain ⟨e₂,a₂,w₂,hq₂,harr₂⟩:=ih3 _ _ _ _ R a' w' hk hr' ho' b k0 cs hro hb hroom
          exact ⟨e₂,a₂,w₂,hq₂.ext he,harr₂⟩
        | _=>exact ⟨s',⟨k',hk⟩,hr',ho',he⟩
      cases k with
      | cut X live heap Φ k' =>
        obtain ⟨⟨x,hx,hat⟩,h⟩:=h
        obtain ⟨junk,hr',ho'⟩:=Ym hat hr ho
        exact ih3 _ _ _ _ R act w (h x junk hx) hr' ho'
      | ghost ids φ k' =>
        obtain ⟨hi,h1,h2⟩:=Ze.1 h
        exact ih3 _ _ _ _ R act w (h2 (h1 R w (xd (Xq.1 hi) ho))) hr ho
      | caseP b k1 k2 =>
        cases hb:b s with
        | true=>exact ih3 _ _ _ _ R act w (h.1 hb) hr ho
        | false=>exact ih3 _ _ _ _ R act w (h.2 hb) hr ho
      | inv X live heap Φ μ kb =>
        obtain ⟨⟨x,hx,hat⟩,h⟩:=h
        obtain ⟨junk,hr',ho'⟩:=Ym hat hr ho
        have key: ∀ (m:Nat) (x:X) (junk:Nat->Value) (act:Act) (w1:World),μ x=m->Φ x->V4 n (DR (live x) (heap x) junk s.df) act->ZC (DR (live x) (heap x) junk s.df).H R w1->Kw w w1->
            By r P c (Jx n (fun e s' => ∃k',K e s' k') R w) act w1:=by
          intro m
          induction m using Nat.strongRecOn with
          | _ m ihm =>
            intro x junk act w1 hm hx hr ho hext
            refine yy (wpIn_mono (ih1 _ _ _ _ R act w1 (h x junk hx) hr ho) ?_)
            rintro e a' w' ⟨s',⟨k',hk⟩,hr',ho',he⟩
            cases e with
            | normal =>
              obtain ⟨y,hy,hlt,hat⟩:=hk
              obtain ⟨junk',hr'',ho''⟩:=Ym hat hr' ho'
              exact ihm (μ y) (hm▸hlt) y junk' a' w' rfl hy hr'' ho'' (hext.trans he)
            | _=>exact ⟨s',⟨k',hk⟩,hr',ho',hext.trans he⟩
        exact key _ x junk act w rfl hx hr' ho' (.refl _)
      | _=>exact go h
    refine ⟨fun c k s K R act w h hr ho=> ?_,fun body c k s K R act w hn h hr ho=> ?_,hloop⟩
    · have hcut : ∀ {X : Type} {live : X -> List (Nat × Value)} {heap : X -> List (Nat × Qe)} {Φ : X -> Prop} {k' : X -> Zn}, k = .cut X live heap Φ k' -> c.wpIn (YU r) 0 P (Jx n (fun e s' => ∃ k', K e s' k') R w) act w := by
        intro X live heap Φ k' hk
        subst hk
        have h:(∃x,Φ x/\hF (live x) (heap x) s.df s True)/\ ∀x (junk:Nat->Value),Φ x->Qq P n r f none c (k' x) (DR (live x) (heap x) junk s.df) K:=by cases c<;>exact h
        obtain ⟨⟨x,hx,hat⟩,h⟩:=h
        obtain ⟨junk,hr',ho'⟩:=Ym hat hr ho
        exact ih1 _ _ _ _ R act w (h x junk hx) hr' ho'
      have hghost: ∀ {ids:List Nat} {φ:List Qe->Prop} {k' :Zn},k= .ghost ids φ k' ->c.wpIn (YU r) 0 P (Jx n (fun e s' => ∃k',K e s' k') R w) act w:=by
        intro ids φ k' hk
        subst hk
        have h:VW (XF ids) ((∀ (R:HP) (w:World),ZC (QK (ids.map s.H)) R w->φ (ids.map s.H))/\(φ (ids.map s.H)->Qq P n r f none c k' s K)):=by cases c<;>exact h
        obtain ⟨hi,h1,h2⟩:=Ze.1 h
        exact ih1 _ _ _ _ R act w (h2 (h1 R w (xd (Xq.1 hi) ho))) hr ho
      have hcase: ∀ {b:St->Bool} {k1 k2:Zn},k= .caseP b k1 k2->c.wpIn (YU r) 0 P (Jx n (fun e s' => ∃k',K e s' k') R w) act w:=by
        intro b k1 k2 hk
        subst hk
        have h:(b s=true->Qq P n r f none c k1 s K)/\(b s=false->Qq P n r f none c k2 s K):=by cases c<;>exact h
        cases hb:b s with
        | true=>exact ih1 _ _ _ _ R act w (h.1 hb) hr ho
        | false=>exact ih1 _ _ _ _ R act w (h.2 hb) hr ho
      cases c with
      | skip=>cases k<;>first | exact hcut rfl | exact hcase rfl | exact hghost rfl | exact wpIn_skip ⟨s,⟨_,h⟩,hr,ho, .refl _⟩
      | label l=>cases k<;>first | exact hcut rfl | exact hcase rfl | exact hghost rfl | exact wpIn_label ⟨s,⟨_,h⟩,hr,ho, .refl _⟩
      | ret=>cases k<;>first | exact hcut rfl | exact hcase rfl | exact hghost rfl | exact wpIn_ret ⟨s,⟨_,h⟩,hr,ho, .refl _⟩
      | exit id=>cases k<;>first | exact hcut rfl | exact hcase rfl | exact hghost rfl | exact wpIn_exit ⟨s,⟨_,h⟩,hr,ho, .refl _⟩
      | goto l=>cases k<;>first | exact hcut rfl | exact hcase rfl | exact hghost rfl | exact wpIn_goto ⟨s,⟨_,h⟩,hr,ho, .refl _⟩
      | seq x y =>
        have go: ∀k,Qq P n r f none x k s (fun e s' k' =>match e with | .normal=>Qq P n r f none y k' s' K | e=>K e s' k')->(Code.seq x y).wpIn (YU r) 0 P (Jx n (fun e s' => ∃k',K e s' k') R w) act w:=by
          intro k h
          refine wpIn_seq (wpIn_mono (ih1 _ _ _ _ R act w h hr ho) ?_)
          rintro e a' w' ⟨s',⟨k',hk⟩,hr',ho',he⟩
          cases e with
          | normal=>exact wpIn_mono (ih1 _ _ _ _ R a' w' hk hr' ho') fun e a w hp=>hp.ext he
          | _=>exact ⟨s',⟨k',hk⟩,hr',ho',he⟩
        cases k with
        | cut=>exact hcut rfl
        | caseP=>exact hcase rfl
        | ghost=>exact hghost rfl
        | join X live heap Φ k1 k2 =>
          obtain ⟨h1,h2⟩:=h
          refine wpIn_seq (wpIn_mono (ih1 _ _ _ _ R act w h1 hr ho) ?_)
          rintro e a' w' ⟨s',⟨k',hk⟩,hr',ho',he⟩
          cases e with
          | normal =>
            obtain ⟨x,hx,hat⟩:=hk
            obtain ⟨junk,hr'',ho''⟩:=Ym hat hr' ho'
            exact wpIn_mono (ih1 _ _ _ _ R a' w' (h2 x junk hx) hr'' ho'') fun e a w hp=>hp.ext he
          | _=>exact ⟨s',⟨k',hk⟩,hr',ho',he⟩
        | _=>exact go _ h
      | region id ops draw =>
        cases k with
        | cut=>exact hcut rfl
        | caseP=>exact hcase rfl
        | ghost=>exact hghost rfl
        | reg asg k' =>
          obtain ⟨hc,h⟩:=Ze.1 h
          obtain ⟨hd,hsq⟩:=Ze.1 h
          have hd' :r=none∨asg.all (fun a=> !Vw a)=true:=by
            unfold Qb2 at hd
            cases r with
            | none=>exact .inl rfl
            | some _=>exact .inr hd
          have fin: ∀a' w',WV n (fun s' =>K .normal s' k') R w a' w' ->Jx n (fun e s' => ∃k',K e s' k') R w .normal a' w' :=fun a' w' ⟨s',hk,x⟩=>⟨s',⟨_,hk⟩,x⟩
          cases draw with
          | true=>exact qB hP hc hd' hsq hr ho fin
          | false=>exact HE hc hd' hsq hr ho fin
        | _=>exact h.elim
      | cond cd x y =>
        have hev:=hr.eval
        have go:(match (generalizing:=false) JF s.fr cd with
            | .bool b =>
              match k with
              | .condT k' =>b=true/\Qq P n r f none x k' s K
              | .condF k' =>b=false/\Qq P n r f none y k' s K
              | .cond k1 k2=>(b=true->Qq P n r f none x k1 s K)/\(b=false->Qq P n r f none y k2 s K)
              | _=>False
            | _=>False)->(Code.cond cd x y).wpIn (YU r) 0 P (Jx n (fun e s' => ∃k',K e s' k') R w) act w:=by
          intro h
          rw [←hev] at h
          cases hb:act.eval cd<;>rw [hb] at h<;>try exact h.elim
          rename_i b
          cases k with
          | condT k' =>
            obtain ⟨rfl,h⟩:=h
            exact wpIn_cond hb (ih1 _ _ _ _ R act w h hr ho)
          | condF k' =>
            obtain ⟨rfl,h⟩:=h
            exact wpIn_cond hb (ih1 _ _ _ _ R act w h hr ho)
          | cond k1 k2 =>
            refine wpIn_cond hb ?_
            cases b with
            | true=>exact ih1 _ _ _ _ R act w (h.1 rfl) hr ho
            | false=>exact ih1 _ _ _ _ R act w (h.2 rfl) hr ho
          | _=>exact h.elim
        cases k with
        | cut=>exact hcut rfl
        | caseP=>exact hcase rfl
        | ghost=>exact hghost rfl
        | _=>exact go h
      | block id c =>
        have go:Qq P n r f none c k s (fun e s' k' =>match e with
              | .exit id' =>match Nat.beq id' id with | true=>K .normal s' k' | false=>K (.exit id') s' k'
              | e=>K e s' k')->(Code.block id c).wpIn (YU r) 0 P (Jx n (fun e s' => ∃k',K e s' k') R w) act w:=by
          intro h
          refine wpIn_block (wpIn_mono (ih1 _ _ _ _ R act w h hr ho) ?_)
          rintro e a' w' ⟨s',⟨k',hk⟩,hr',ho',he⟩
          cases e with
          | exit id' =>
            simp only [Exit.inBlock]
            cases hb:Nat.beq id' id with
            | true=>rw [if_pos (Nat.eq_of_beq_eq_true hb)];simp only [hb] at hk;exact ⟨s',⟨k',hk⟩,hr',ho',he⟩
            | false=>rw [if_neg (Nat.ne_of_beq_eq_false hb)];simp only [hb] at hk;exact ⟨s',⟨k',hk⟩,hr',ho',he⟩
          | _=>exact ⟨s',⟨k',hk⟩,hr',ho',he⟩
        cases k with
        | cut=>exact hcut rfl
        | caseP=>exact hcase rfl
        | ghost=>exact hghost rfl
        | _=>exact go h
      | loop c=>exact Hx (hloop c k s K R act w h hr ho)
      | scope body =>
        have back: ∀ {Q:Exit->Act->World->Prop} {act:Act} {w:World} {c:Code},r=none->(c.wpIn (YU r) 0 P Q act w↔c.wp P Q act w):=by
          intro Q act w c hn
          subst hn
          exact wpIn_wide
        have go: ∀k,(match (generalizing:=false) r with | none=>Qq P n r f (some body) body k s K | some _=>False)->(Code.scope body).wpIn (YU r) 0 P (Jx n (fun e s' => ∃k',K e s' k') R w) act w:=by
          intro k h
          cases hn:r with
          | some l=>rw [hn] at h;exact h.elim
          | none =>
            have h' :Qq P n r f (some body) body k s K:=by rw [hn] at h ⊢;exact h
            rw [←hn]
            exact (back hn).2 (je (ih2 _ _ _ _ _ R act w hn h' hr ho))
        cases k with
        | cut=>exact hcut rfl
        | caseP=>exact hcase rfl
        | ghost=>exact hghost rfl
        | sinv l X live heap Φ μ k0 k1 =>
          have h:(match (generalizing:=false) r,findLabel body l with
            | none, some rest =>
              Qq P n r f none body k0 s (fun e s' k' =>
                match e with
                | .goto l' =>match Nat.beq l' l with | true=> ∃x,Φ x/\hF (live x) (heap x) s.df s' True | false=>False
                | e=>K e s' k')/\
              ∀ x (junk : Nat -> Value), Φ x -> Qq P n r f none rest (k1 x) (DR (live x) (heap x) junk s.df) fun e s' k' =>
                match e with
                | .goto l' =>match Nat.beq l' l with | true=> ∃y,Φ y/\μ y<μ x/\hF (live y) (heap y) s.df s' True | false=>False
                | e=>K e s' k'
            | _,_=>False):=h
          cases hn:r with
          | some l=>rw [hn] at h;exact h.elim
          | none =>
            cases hf:findLabel body l with
            | none=>rw [hn,hf] at h;exact h.elim
            | some rest =>
              have h' :Qq P n r f none body k0 s (fun e s' k' =>
                  match e with
                  | .goto l' =>match Nat.beq l' l with | true=> ∃x,Φ x/\hF (live x) (heap x) s.df s' True | false=>False
                  | e=>K e s' k')/\
                ∀ x (junk : Nat -> Value), Φ x -> Qq P n r f none rest (k1 x) (DR (live x) (heap x) junk s.df) fun e s' k' =>
                  match e with
                  | .goto l' =>match Nat.beq l' l with | true=> ∃y,Φ y/\μ y<μ x/\hF (live y) (heap y) s.df s' True | false=>False
                  | e=>K e s' k' :=by rw [hn,hf] at h;rw [hn];exact h
              rw [←hn]
              obtain ⟨h1,h2⟩:=h'
              have key: ∀ (m:Nat) (x:X) (junk:Nat->Value) (act:Act) (w1:World),μ x=m->Φ x->V4 n (DR (live x) (heap x) junk s.df) act->ZC (DR (live x) (heap x) junk s.df).H R w1->Kw w w1->
                  bC P body rest (Jx n (fun e s' => ∃k',K e s' k') R w) act w1:=by
                intro m
                induction m using Nat.strongRecOn with
                | _ m ihm =>
                  intro x junk act w1 hm hx hr ho hext
                  refine HZ ((back hn).1 (wpIn_mono (ih1 _ _ _ _ R act w1 (h2 x junk hx) hr ho) ?_))
                  rintro e a' w' ⟨s',⟨k',hk⟩,hr',ho',he⟩
                  cases e with
                  | goto l' =>
                    cases hb:Nat.beq l' l with
                    | false=>simp only [hb] at hk
                    | true =>
                      simp only [hb] at hk
                      obtain rfl:=Nat.eq_of_beq_eq_true hb
                      simp only [xS,hf]
                      obtain ⟨y,hy,hlt,hat⟩:=hk
                      obtain ⟨junk',hr'',ho''⟩:=Ym hat hr' ho'
                      exact ihm (μ y) (hm▸hlt) y junk' a' w' rfl hy hr'' ho'' (hext.trans he)
                  | _=>exact ⟨s',⟨k',hk⟩,hr',ho',hext.trans he⟩
              refine (back hn).2 (je (HZ ((back hn).1 (wpIn_mono (ih1 _ _ _ _ R act w h1 hr ho) ?_))))
              rintro e a' w' ⟨s',⟨k',hk⟩,hr',ho',he⟩
              cases e with
              | goto l' =>
                cases hb:Nat.beq l' l with
                | false=>simp only [hb] at hk
                | true =>
                  simp only [hb] at hk
                  obtain rfl:=Nat.eq_of_beq_eq_true hb
                  simp only [xS,hf]
                  obtain ⟨x,hx,hat⟩:=hk
                  obtain ⟨junk',hr'',ho''⟩:=Ym hat hr' ho'
                  exact key _ x junk' a' w' rfl hx hr'' ho'' he
              | _=>exact ⟨s',⟨k',hk⟩,hr',ho',he⟩
        | _=>exact go _ h
      | rangeFunc g ps asg b =>
        cases k with
        | rf ts ins outs C k' =>
          cases r with
          | some l=>exact h.elim
          | none =>
            obtain ⟨hi,h⟩:=Ze.1 h
            obtain ⟨hu,h,_,hk⟩:=Ze.1 h
            refine wpIn_mono ((Y7 (h s.fr)).use hr.size hr.at_ (Xq.1 hi) (Xq.1 hu) ho) ?_
            rintro e a' w' ⟨rfl,ht,D,x,hd,hx,ho',hext⟩
            exact ⟨_,⟨k',hk D x hx⟩,⟨by rw [ht];exact hr.size,fun i=>by rw [ht];exact hr.at_ i,by rw [hd,hr.df]⟩,ho',hext⟩
        | rfx id ts ins outs C k' =>
          cases r with
          | some l=>exact h.elim
          | none =>
            obtain ⟨hi,h⟩:=Ze.1 h
            obtain ⟨hu,h,_,hk⟩:=Ze.1 h
            refine wpIn_mono ((Y7 (h s.fr)).use hr.size hr.at_ (Xq.1 hi) (Xq.1 hu) ho) ?_
            rintro e a' w' ⟨he,ht,D,x,hd,hx,ho',hext⟩
            rcases he with rfl | rfl
            · exact ⟨_,⟨k',(hk D x hx).1⟩,⟨by rw [ht];exact hr.size,fun i=>by rw [ht];exact hr.at_ i,by rw [hd,hr.df]⟩,ho',hext⟩
            · exact ⟨_,⟨k',(hk D x hx).2⟩,⟨by rw [ht];exact hr.size,fun i=>by rw [ht];exact hr.at_ i,by rw [hd,hr.df]⟩,ho',hext⟩
        | _=>first | exact hcut rfl | exact hcase rfl | exact hghost rfl | exact h.elim
      | refuse why=>cases k<;>first | exact hcut rfl | exact hcase rfl | exact hghost rfl | exact h.elim
    · have h:Qq P n r f none c k s (fun e s' k' =>
          match e with
          | .goto l=>match findLabel body l with | some rest=>Qq P n r f (some body) rest k' s' K | none=>K (.goto l) s' k'
          | e=>K e s' k'):=h
      have hh:=ih1 _ _ _ _ R act w h hr ho
      subst hn
      refine HZ (wpIn_wide.1 (wpIn_mono hh ?_))
      rintro e a' w' ⟨s',⟨k',hk⟩,hr',ho',he⟩
      cases e with
      | goto l =>
        simp only [xS]
        cases hf:findLabel body l with
        | none=>simp only [hf] at hk;exact ⟨s',⟨k',hk⟩,hr',ho',he⟩
        | some rest =>
          simp only [hf] at hk
          intro b k0 cs
          obtain ⟨e₂,a₂,w₂,hq₂,harr₂⟩:=ih2 _ _ _ _ _ R a' w' rfl hk hr' ho' b k0 cs
          exact ⟨e₂,a₂,w₂,hq₂.ext he,harr₂⟩
      | _=>exact ⟨s',⟨k',hk⟩,hr',ho',he⟩
end Go.Sx
namespace Go.Sx
open Go.RowKit
def jK (P : Program) {α : Type} : Sem α -> List zk -> Hp -> (α -> Prop) -> Prop
  | .pure a,_,_,K=>K a
  | .load _ a k, .rd i :: acc, H, K =>
    match H i with
    | .blk b (.cells c _ _)=>a.block=b/\a.spot=none/\(match c[a.off]? with | some v=>jK P (k v) acc H K | none=>False)
    | _=>False
  | .load _ a k, .rv i f :: acc, H, K =>
    match H i with
    | .blk b (.cells c _ _)=>a.block=b/\a.spot=none/\c[a.off]? =some (f a c)/\jK P (k (f a c)) acc H K
    | _=>False
  | .program k,acc,H,K=>jK P (k P) acc H K
  | .mark _ k,acc,H,K=>jK P k acc H K
  | _,_,_,_=>False
theorem yh {P : Program} {α : Type} (m : Sem α) : ∀ (acc : List zk) (H : Hp) (K : α -> Prop) (R : HP) (w : World), jK P m acc H K -> ZC H R w -> ∃ a, m.run P w = .ok a w /\ K a := by
  induction m with
  | pure a=>intro acc H K R w h _;cases acc<;>exact ⟨a,rfl,h⟩
  | load m a k ih =>
    intro acc H K R w h ho
    match acc,h with
    | .rd i :: acc, h =>
      simp only [jK] at h
      cases hs:H i with
      | blk b o =>
        rw [hs] at h
        cases o with
        | cells c t f =>
          obtain ⟨hb,hsp,h⟩:=h
          have hc:=ZR (w:=w) (a:=a) (by rw [hb];exact ho.block hs) hsp
          cases hv:c[a.off]? with
          | none=>rw [hv] at h;exact h.elim
          | some v =>
            rw [hv] at h
            obtain ⟨x,hr,hk⟩:=ih v acc H K R w h ho
            exact ⟨x,by simp only [Sem.run,hc,hv];exact hr,hk⟩
        | _=>exact h.elim
      | _=>rw [hs] at h;exact h.elim
    | .rv i g :: acc, h =>
      simp only [jK] at h
      cases hs:H i with
      | blk b o =>
        rw [hs] at h
        cases o with
        | cells c t f =>
          obtain ⟨hb,hsp,hv,h⟩:=h
          have hc:=ZR (w:=w) (a:=a) (by rw [hb];exact ho.block hs) hsp
          obtain ⟨x,hr,hk⟩:=ih _ acc H K R w h ho
          exact ⟨x,by simp only [Sem.run,hc,hv];exact hr,hk⟩
        | _=>exact h.elim
      | _=>rw [hs] at h;exact h.elim
    | .wr _::_,h | .ws _::_,h | .nw _::_,h | .ch::_,h | [],h=>exact h.elim
  | program k ih =>
    intro acc H K R w h ho
    have h' :jK P (k P) acc H K:=by cases acc<;>exact h
    obtain ⟨x,hr,hk⟩:=ih P acc H K R w h' ho
    exact ⟨x,by simp only [Sem.run];exact hr,hk⟩
  | mark m k ih =>
    intro acc H K R w h ho
    have h' :jK P k acc H K:=by cases acc<;>exact h
    obtain ⟨x,hr,hk⟩:=ih acc H K R w h' ho
    exact ⟨x,by simp only [Sem.run];exact hr,hk⟩
  | _=>intro acc H K R w h ho;cases acc<;>exact h.elim
def bB (fn : Func) (fr : Nat -> Value) : Sem Value := do
  let vs←fn.results.mapM fun
    | .tmp t=>pure (fr t)
    | .cell a t=>do loadVar t (←asAddr (fr a))
  pure (if h:vs.size=1 then vs[0] else .tuple vs)
theorem vf {n:Nat} {fn:Func} {s:St} {a:Act} (h:V4 n s a):results fn a.tmps=bB fn s.fr:=by
  have:s.fr=fun i=>a.tmps.getD i undef:=funext fun i=>(h.at_ i).symm
  rw [this]
  rfl
def Bp (outs:List Nat) (ss:List Qe) (H:Hp) (Y:Prop):Prop:=
  match ss with
  | []=>Y
  | s::ss=>match outs with | i::outs=>H i=s/\Bp outs ss H Y | []=>False
theorem xM: ∀ {outs:List Nat} {ss:List Qe} {H:Hp} {Y:Prop},Bp outs ss H Y->Y/\ ∀k,QK ss k= .free∨QK ss k=QK (outs.map H) k
  | _, [], _, _, h => by
    unfold Bp at h
    exact ⟨h,fun k=> .inl (by simp [QK])⟩
  | [],_::_,_,_,h=>h.elim
  | i :: outs, s :: ss, H, Y, h => by
    obtain ⟨h1,h2⟩:=h
    obtain ⟨hy,hk⟩:=xM h2
    refine ⟨hy,fun k=> ?_⟩
    cases k with
    | zero=>exact .inr (by simp [QK,h1])
    | succ k=>simpa [QK] using hk k
def QS (P:Program) (fn:Func) (acc:List zk) (outs:List Nat) {X:Type} (val:X->Value) (us:X->List Qe) (Φ:X->Prop) (e:Exit) (s:St) (_:Zn):Prop:=
  match e with
  | .normal | .ret=>jK P (bB fn s.fr) acc s.H fun v=> ∃x,Φ x/\v=val x/\Bp outs (us x) s.H (dfW s.df [] True)
  | _=>False
def Qg (fn:Func):Code:=fn.body.getD .skip
def QQ (args:Array Value) (Hs:List Qe):St:= { fr:=fun i=>args.getD i undef,H:=QK Hs,df:= [] }
theorem FI {args:Array Value} {Hs:List Qe} {n:Nat} (h:args.size<=n):V4 n (QQ args Hs) { tmps:=args++Array.replicate (n - args.size) undef,defers:= [] }:=by
  refine ⟨by simp;omega,fun i=> ?_,rfl⟩
  simp only [QQ,Array.getD_eq_getD_getElem?,Array.getElem?_append]
  split
  · rfl
  · rename_i hlt
    rw [Array.getElem?_eq_none (xs:=args) (by omega)]
    simp only [Array.getElem?_replicate]
    split<;>rfl
theorem Xm {P : Program} {f : FuncId} {fn : Func} {c : Code} (hf : P.funcs[f]? = some fn) (hb : fn.body = some c) (hname : (fn.name == "runtime.NumGoroutine") = false) : qQ P f := by
  intro args w
  have hs:fn.body.isNone=false:=by rw [hb];rfl
  unfold callFunc
  simp only [Sem.run_bind,program,Sem.run,Result.andThen_ok,hf,hname,hs,Bool.false_eq_true,if_false]
  rfl
theorem Qo {P:Program} {f:FuncId} {fn:Func} {c:Code} {n:Nat} {args:Array Value} {Hs:List Qe} {X:Type} {val:X->Value} {us:X->List Qe} {Φ:X->Prop}
    (hP : P.follows .mixedOrders = true) (hf : P.funcs[f]? = some fn) (hb : fn.body = some c) (hn : fn.ntmps = n) (hname : (fn.name == "runtime.NumGoroutine") = false)
    (fuel:Nat) (k:Zn) (acc:List zk) (outs:List Nat) (hsz:Nat.ble args.size n=true) (ho:XF outs=true)
    (h:Qq P n none fuel none c k (QQ args Hs) (QS P fn acc outs val us Φ)):Qs P f args Hs X val us Φ:=by
  refine ⟨Xm hf hb hname,fun R w hw=> ?_⟩
  subst hn
  have go:CallsIn Fence.wide 0 P f args w fun e w' => ∃x,Φ x/\e= .returned (val x)/\ZC (QK (us x)) R w' /\Kw w w' := ?_
  · exact callsIn_wide.1 go
  refine callsIn_of_wp hf hb trivial ?_
  have hc:=(kY hP fuel).1 c k (QQ args Hs) _ R _ w h (FI (Nat.le_of_ble_eq_true hsz)) hw
  refine wpIn_mono hc ?_
  have fin: ∀ (a' :Act) (w' :World) (s' :St),V4 fn.ntmps s' a' ->ZC s'.H R w' ->Kw w w' ->(jK P (bB fn s'.fr) acc s'.H fun v=> ∃x,Φ x/\v=val x/\Bp outs (us x) s'.H (dfW s'.df [] True))->
      a'.defers= []/\ ∃v,(results fn a'.tmps).run P w' = .ok v w' /\ ∃x,Φ x/\Ending.returned v= .returned (val x)/\ZC (QK (us x)) R w' /\Kw w w' :=by
    intro a' w' s' hr ho' he hs
    obtain ⟨v,hrun,x,hx,rfl,hout⟩:=yh _ acc s'.H _ R w' hs ho'
    obtain ⟨hd,hk⟩:=xM hout
    refine ⟨?_,val x,by rw [vf hr];exact hrun,x,hx,rfl,(xd (Xq.1 ho) ho').weaken fun k=>(hk k).symm,he⟩
    rw [hr.df]
    cases hdf:s'.df with
    | nil=>rfl
    | cons y l=>rw [hdf] at hd;exact absurd hd.1 (by simp)
  rintro e a' w' ⟨s',⟨k',hk⟩,hr,ho',he⟩
  cases e with
  | normal=>exact fin a' w' s' hr ho' he hk
  | ret=>exact fin a' w' s' hr ho' he hk
  | exit id=>exact hk.elim
  | goto l=>exact hk.elim
  | panic ch=>exact hk.elim
  | outgrown=>exact hk.elim
def Z2 (w:World):Qe:= .par [] (.wld w) (fun h=> ∀i:Nat,h i=w.heap[i]?)
theorem Qa8 (w:World):ZC (QK [Z2 w]) (fun _=>True) w:=by
  refine ⟨fun i=>match i with | 0=>(fun b=>w.heap[b]?) | _+1=>fun _=>none,fun _=>none,fun i=> ?_,trivial,fun i b o h=> ?_,fun b o h=>(by cases h),fun i j hij=> ?_,fun i b=> .inr rfl⟩
  · cases i with
    | zero=>exact fun _=>rfl
    | succ i=>exact fun _=>rfl
  · cases i with
    | zero=>exact h
    | succ i=>cases h
  · cases i with
    | zero =>
      cases j with
      | zero=>exact absurd rfl hij
      | succ j=>exact fun _=> .inr rfl
    | succ i=>exact fun _=> .inl rfl
theorem Qs.below {P:Program} {f:FuncId} {args:Array Value} {w:World} {X:Type} {val:X->Value} {Φ:X->Prop} (h:Qs P f args [Z2 w] X val (fun _=> [Z2 w]) Φ):
    Calls P f args w fun e w' => ∃x,Φ x/\e= .returned (val x)/\Below w.heap.size w w' :=by
  refine (h.calls _ w (Qa8 w)).mono ?_
  rintro e w' ⟨x,hx,he,⟨p,q,hs,_,hp,_⟩,hext⟩
  refine ⟨x,hx,he,hext.os,hext.tape,hext.output,hext.size,fun i hi=> ?_⟩
  have h0:=hs 0
  simp only [QK,Z2,List.getD_cons_zero,Qe.sat] at h0
  have:=hp 0 i w.heap[i] (by rw [h0 i];simp [hi])
  rw [this];simp [hi]
end Go.Sx
namespace Go.Sx
open Go.RowKit
def Qh:Nat->Nat->Prop->Prop
  | 0,_,X=>X
  | n+1,b,X=>b=b/\(none:Option Nat)=none/\Qh n b X
theorem Qa (n b:Nat) {X:Prop} (h:X):Qh n b X:=by
  induction n with
  | zero=>exact h
  | succ n ih=>exact ⟨rfl,rfl,ih⟩
def ZH (n i:Nat):List zk:=List.replicate n (.rd i)
def Z9 (n i:Nat):List zk:=List.replicate n (.wr i)
def Q0 (P:Program) (f:FuncId) (args:Array Value) (Hs:List Qe) (X:Type) (val:X->Value) (us:X->List Qe) (Φ:X->Prop) (K:X->Prop):Prop:=
  Qs P f args Hs X val us Φ/\(∃x,Φ x)/\ ∀x,Φ x->K x
theorem Qw {P:Program} {f:FuncId} {args:Array Value} {Hs:List Qe} {X:Type} {val:X->Value} {us:X->List Qe} {Φ:X->Prop} {K:X->Prop} (h:Qs P f args Hs X val us Φ) (w: ∃x,Φ x) (k: ∀x,Φ x->K x):Q0 P f args Hs X val us Φ K:=⟨h,w,k⟩
def Q4 (P:Program) (f:FuncId) (args:Array Value) (Hs:List Qe) (X:Type) (val:X->Value) (Φ:X->Prop) (K:X->Prop):Prop:=
  Qs P f args Hs X val (fun _=>Hs) Φ/\(∃x,Φ x)/\ ∀x,Φ x->K x
theorem QA {P:Program} {f:FuncId} {args:Array Value} {Hs:List Qe} {X:Type} {val:X->Value} {Φ:X->Prop} {K:X->Prop} (h:Qs P f args Hs X val (fun _=>Hs) Φ) (w: ∃x,Φ x) (k: ∀x,Φ x->K x):Q4 P f args Hs X val Φ K:=⟨h,w,k⟩
def XD (P:Program) (m:Sem Next) (Hs:List Qe) (X:Type) (val:X->Value) (us:X->List Qe) (Φ:X->Prop) (K:X->Prop):Prop:=
  KY P m Hs X val us Φ/\(∃x,Φ x)/\ ∀x,Φ x->K x
theorem QJ {P:Program} {m:Sem Next} {Hs:List Qe} {X:Type} {val:X->Value} {us:X->List Qe} {Φ:X->Prop} {K:X->Prop} (h:KY P m Hs X val us Φ) (w: ∃x,Φ x) (k: ∀x,Φ x->K x):XD P m Hs X val us Φ K:=⟨h,w,k⟩
def XC (P:Program) (m:Sem Next) (Hs:List Qe) (X:Type) (val:X->Value) (Φ:X->Prop) (K:X->Prop):Prop:=
  KY P m Hs X val (fun _=>Hs) Φ/\(∃x,Φ x)/\ ∀x,Φ x->K x
theorem Q8 {P:Program} {m:Sem Next} {Hs:List Qe} {X:Type} {val:X->Value} {Φ:X->Prop} {K:X->Prop} (h:KY P m Hs X val (fun _=>Hs) Φ) (w: ∃x,Φ x) (k: ∀x,Φ x->K x):XC P m Hs X val Φ K:=⟨h,w,k⟩
abbrev uu (n:Int):Value:= .int .u64 n
abbrev ii (n:Int):Value:= .int .i64 n
abbrev gE (a b:Value) (R:Prop):Prop:=(∃_:Unit,True/\a=b)/\ ∀_:Unit,True->R
theorem Qv {a b:Value} {R:Prop} (h:a=b) (r:R):gE a b R:=⟨⟨(),trivial,h⟩,fun _ _=>r⟩
abbrev pp (b o:Nat):Value:= .pointer (some ⟨b,o,none⟩)
abbrev bk (b:Nat) (cs:Array Value) (t:TypeId):Qe:= .blk b (.cells cs t (0,0))
abbrev S0:KX:= .sem []
abbrev vS (m:Sem Value):Sem Next:=do pure (.value (←m))
abbrev K1 (m:Sem Unit):Sem Next:=do m;pure .skip
abbrev l2 (a b:Int):Int:=a+18446744073709551616*b
abbrev l3 (a b c:Int):Int:=a+18446744073709551616*b+340282366920938463463374607431768211456*c
abbrev l4 (a b c d:Int):Int:=a+18446744073709551616*b+340282366920938463463374607431768211456*c+6277101735386680763835789423207666416102355444464034512896*d
abbrev l5 (a b c d e:Int):Int:=a+18446744073709551616*b+340282366920938463463374607431768211456*c+6277101735386680763835789423207666416102355444464034512896*d+115792089237316195423570985008687907853269984665640564039457584007913129639936*e
abbrev SF (X:Type):Type:=Array Value->List Qe->(X->Value)->(X->List Qe)->(X->Prop)->Prop
end Go.Sx
namespace Go.Sx
theorem Z8 (n:Int):IntKind.u64.wrap n=n%18446744073709551616:=by simp [IntKind.wrap,IntKind.bits,IntKind.signed]
theorem QU (n:Int) (h1: -9223372036854775808<=n) (h2:n<=9223372036854775807):IntKind.i64.wrap n=n:=by
  simp [IntKind.wrap,IntKind.bits,IntKind.signed];omega
def VR (b:Bool):Int:=bif b then 1 else 0
theorem qu {b:Bool} (h:b=true):VR b=1:=by rw [h];rfl
theorem WO {b:Bool} (h:b=false):VR b=0:=by rw [h];rfl
def yj (c:Int):Int:=if c=0 then 0 else 1
def W (n:Int):Prop:=0<=n/\n<18446744073709551616
theorem dt (n:Int):W (IntKind.u64.wrap n):=by rw [Z8];unfold W;omega
theorem Xc {c:Int} (h0:0<=c) (h1:c<=1):yj c=c:=by unfold yj;split<;>omega
def Q7 (op:BinOp) (t:TypeId) (x y:Value):Sem Next:=do pure (.value (←(do eqGuard op t (.const x) (.const y) x y;binOp op t x y)))
theorem XT {P:Program} {t:TypeId} {k k' :IntKind} {a s:Int} (h:0<=s):Qk P (Q7 .shl t (.int k a) (.int k' s)) (.int k (k.wrap (a*2^min s.toNat k.bits))):=by
  intro w
  have: ¬s<0:=by omega
  simp [Q7,eqGuard,binOp,Op.shift,this]
theorem X0 {P:Program} {t:TypeId} {k k' :IntKind} {a s:Int} (h:0<=s):Qk P (Q7 .shr t (.int k a) (.int k' s)) (.int k (a.fdiv (2^min s.toNat k.bits))):=by
  intro w
  have: ¬s<0:=by omega
  simp [Q7,eqGuard,binOp,Op.shift,this]
theorem Qd4 {P:Program} {t:TypeId} {k:IntKind} {a b:Int} (h:b≠0):Qk P (Q7 .quo t (.int k a) (.int k b)) (.int k (k.wrap (a.tdiv b))):=by
  intro w
  simp [Q7,eqGuard,binOp,Op.intDiv,h]
theorem Qd7 {P:Program} {t:TypeId} {k:IntKind} {a b:Int} (h:b≠0):Qk P (Q7 .rem t (.int k a) (.int k b)) (.int k (a.tmod b)):=by
  intro w
  simp [Q7,eqGuard,binOp,Op.intDiv,h]
theorem Qk.to {P:Program} {m:Sem Next} {v v' :Value} (h:Qk P m v) (e:v=v'):Qk P m v' :=e▸h
end Go.Sx
namespace Go.Sx
structure XB (a b c s o:Int):Prop where
  eq:s+o*18446744073709551616=a+b+yj c
  s:W s
  o0:0<=o
  o1:o<=1
structure KM (a b c s o:Int):Prop where
  eq:s - o*18446744073709551616=a - b - yj c
  s:W s
  o0:0<=o
  o1:o<=1
structure H3 (a b h l:Int):Prop where
  eq:h*18446744073709551616+l=a*b
  h:W h
  l:W l
theorem pX (x y:Bool):IntKind.u64.wrap (((BitVec.ofInt 64 (VR x) ||| BitVec.ofInt 64 (VR y):BitVec 64).toNat:Nat):Int)=VR (x || y):=by
  cases x<;>cases y<;>decide
theorem BH {a b c s o : Int} (ha : W a) (hb : W b)
    (h:((c !=0)=true/\s=IntKind.u64.wrap (IntKind.u64.wrap (a+b)+1)/\o=IntKind.u64.wrap (((BitVec.ofInt 64 (VR (decide (IntKind.u64.wrap (a+b)<a))) ||| BitVec.ofInt 64 (VR (IntKind.u64.wrap (IntKind.u64.wrap (a+b)+1)==0)):BitVec 64).toNat:Nat):Int))∨
      ((c !=0)=false/\s=IntKind.u64.wrap (a+b)/\o=VR (decide (IntKind.u64.wrap (a+b)<a)))):XB a b c s o:=by
  unfold W at ha hb
  rcases h with ⟨hc,rfl,rfl⟩ | ⟨hc,rfl,rfl⟩
  · have hc' :yj c=1:=by simp [yj];simpa using hc
    rw [pX]
    simp only [Z8]
    have e:VR (decide ((a+b)%18446744073709551616<a) || ((a+b)%18446744073709551616+1)%18446744073709551616==0)=(a+b+1)/18446744073709551616:=by
      by_cases h1:(a+b)%18446744073709551616<a
      · rw [qu (by simp [h1])];omega
      · by_cases h2:((a+b)%18446744073709551616+1)%18446744073709551616=0
        · rw [qu (by rw [h2];simp)];omega
        · rw [WO (by rw [decide_eq_false h1,Bool.false_or,beq_eq_false_iff_ne];exact h2)];omega
    rw [e]
    exact ⟨by rw [hc'];omega,⟨by omega,by omega⟩,by omega,by omega⟩
  · have hc' :yj c=0:=by simp [yj];simpa using hc
    simp only [Z8]
    have e:VR (decide ((a+b)%18446744073709551616<a))=(a+b)/18446744073709551616:=by
      unfold VR
      by_cases h1:(a+b)%18446744073709551616<a
      · simp [h1];omega
      · simp [h1];omega
    rw [e]
    exact ⟨by rw [hc'];omega,⟨by omega,by omega⟩,by omega,by omega⟩
theorem vj {a b c s o : Int} (ha : W a) (hb : W b)
    (h:((c !=0)=true/\s=IntKind.u64.wrap (IntKind.u64.wrap (a - b) - 1)/\o=IntKind.u64.wrap (((BitVec.ofInt 64 (VR (decide (a<b))) ||| BitVec.ofInt 64 (VR (IntKind.u64.wrap (a - b)==0)):BitVec 64).toNat:Nat):Int))∨
      ((c !=0)=false/\s=IntKind.u64.wrap (a - b)/\o=VR (decide (a<b)))):KM a b c s o:=by
  unfold W at ha hb
  rcases h with ⟨hc,rfl,rfl⟩ | ⟨hc,rfl,rfl⟩
  · have hc' :yj c=1:=by simp [yj];simpa using hc
    rw [pX]
    simp only [Z8]
    have e:VR (decide (a<b) || (a - b)%18446744073709551616==0)=if a<b+1 then 1 else 0:=by
      by_cases h1:a<b
      · rw [qu (by simp [h1])];omega
      · by_cases h2:(a - b)%18446744073709551616=0
        · rw [qu (by rw [h2];simp)];omega
        · rw [WO (by rw [decide_eq_false h1,Bool.false_or,beq_eq_false_iff_ne];exact h2)];omega
    rw [e]
    split
    · exact ⟨by rw [hc'];omega,⟨by omega,by omega⟩,by omega,by omega⟩
    · exact ⟨by rw [hc'];omega,⟨by omega,by omega⟩,by omega,by omega⟩
  · have hc' :yj c=0:=by simp [yj];simpa using hc
    simp only [Z8]
    unfold VR
    by_cases h1:a<b
    · simp only [h1,decide_true,cond_true];exact ⟨by rw [hc'];omega,⟨by omega,by omega⟩,by omega,by omega⟩
    · simp only [h1,decide_false,cond_false];exact ⟨by rw [hc'];omega,⟨by omega,by omega⟩,by omega,by omega⟩
def XG (x:Nat):Nat:=if x=0 then 0 else Nat.log2 x+1
theorem gh {x:Nat} (h:x≠0):XG x=XG (x/2)+1:=by
  unfold XG
  rw [if_neg h]
  by_cases h2:x/2=0
  · have:x=1:=by omega
    subst this;decide
  · rw [if_neg h2,Nat.log2_def,if_pos (by omega)]
theorem va {x:Nat} (h:x<18446744073709551616):XG x<=64:=by
  unfold XG
  split
  · omega
  · rename_i h0
    have:=(Nat.log2_lt h0 (k:=64)).2 (by simpa using h)
    omega
theorem dw {a b:Int} (ha:0<=a):Int.tdiv a b=a/b:=Int.tdiv_eq_ediv_of_nonneg ha
theorem Jd {a b:Int} (ha:0<=a):Int.tmod a b=a%b:=Int.tmod_eq_emod_of_nonneg ha
theorem dG {x0:Nat} {x:Nat×Nat} (hx0:x0<18446744073709551616) (h:x.2+XG x.1=XG x0/\x.1<18446744073709551616) (hc:(((x.1:Nat):Int) !=0)=true):
    ∃y:Nat×Nat,(y.2+XG y.1=XG x0/\y.1<18446744073709551616)/\y.1<x.1/\Value.int .u64 (Int.fdiv ((x.1:Nat):Int) (2^1))= .int .u64 ((y.1:Nat):Int)/\Value.int .i64 (IntKind.i64.wrap (((x.2:Nat):Int)+1))= .int .i64 ((y.2:Nat):Int)/\True:=by
  obtain ⟨n,m⟩:=x
  simp only at h hc ⊢
  have h0:n≠0:=by simpa using hc
  have hb:=gh h0
  have hl:=va hx0
  refine ⟨(n/2,m+1),⟨by simp only;omega,by simp only;omega⟩,by simp only;omega,?_,?_,trivial⟩
  · rw [Int.fdiv_eq_ediv_of_nonneg _ (by decide)];simp
  · rw [QU _ (by omega) (by omega)];simp
theorem QbH {x0:Nat} {x:Nat×Nat} (h:x.2+XG x.1=XG x0/\x.1<18446744073709551616) (hc:(((x.1:Nat):Int) !=0)=false):
    Value.int .i64 ((x.2:Nat):Int)= .int .i64 ((XG x0:Nat):Int):=by
  have h0:x.1=0:=by simpa using hc
  rw [h0] at h
  have:XG 0=0:=rfl
  rw [←h.1,this];simp
end Go.Sx
namespace Go.Sx
def one (v:Value):List Value->Zi:=fun _=>⟨Unit,fun _=>v,fun _=> [],fun _=>True⟩
def Z3:List Value->Value
  | [.int k a, .int _ s]=> .int k (k.wrap (a*2^min s.toNat k.bits))
  | _=>undef
def ZX:List Value->Value
  | [.int k a, .int _ s]=> .int k (a.fdiv (2^min s.toNat k.bits))
  | _=>undef
theorem Qbo {a b c:Int} (ha:W a) (hb:W b): ∃x:Int×Int,(fun J=>XB a b c J.1 J.2) x:=by
  unfold W at ha hb
  have:yj c=0∨yj c=1:=by unfold yj;split<;>simp
  exact ⟨((a+b+yj c)%18446744073709551616,(a+b+yj c)/18446744073709551616),⟨by simp only;omega,⟨by simp only;omega,by simp only;omega⟩,by simp only;omega,by simp only;omega⟩⟩
theorem Qa7 {a b c:Int} (ha:W a) (hb:W b): ∃x:Int×Int,(fun J=>KM a b c J.1 J.2) x:=by
  unfold W at ha hb
  have:yj c=0∨yj c=1:=by unfold yj;split<;>simp
  exact ⟨((a - b - yj c)%18446744073709551616,-((a - b - yj c)/18446744073709551616)),⟨by simp only;omega,⟨by simp only;omega,by simp only;omega⟩,by simp only;omega,by simp only;omega⟩⟩
theorem QaU {a b:Int} (ha:W a) (hb:W b): ∃x:Int×Int,(fun J=>H3 a b J.1 J.2) x:=by
  have h1:0<=a*b:=Int.mul_nonneg ha.1 hb.1
  have h2:a*b<=18446744073709551615*18446744073709551615:=Int.mul_le_mul (by have:=ha.2;omega) (by have:=hb.2;omega) hb.1 (by decide)
  exact ⟨((a*b)/18446744073709551616,(a*b)%18446744073709551616),⟨by simp only;omega,⟨by simp only;omega,by simp only;omega⟩,⟨by simp only;omega,by simp only;omega⟩⟩⟩
end Go.Sx
namespace Go.Sx
theorem JZ {a b m n:Int} (ha0:0<=a) (ha:a<=m) (hb0:0<=b) (hb:b<=n):0<=a*b/\a*b<=m*n:=by
  refine ⟨Int.mul_nonneg ha0 hb0,?_⟩
  exact Int.mul_le_mul ha hb hb0 (by omega)
theorem Kx {a c:Int} (ha:W a) (hc:0<c):IntKind.u64.wrap (Int.tdiv a c)=a/c:=by
  have h1:0<=a/c:=Int.ediv_nonneg ha.1 (by omega)
  have h2:a/c<=a:=Int.ediv_le_self c ha.1
  have h3:=ha.2
  rw [Z8,dw ha.1];omega
theorem QL {a:Int} (h:W a):IntKind.u64.wrap a=a:=by
  obtain ⟨h1,h2⟩:=h
  rw [Z8];omega
theorem Qa2 {a b:Int} (ha:W a) (hb:W b):H3 a b
    (IntKind.u64.wrap ((IntKind.u64.wrap ((IntKind.u64.wrap ((IntKind.u64.wrap (Int.tdiv a 4294967296))*(IntKind.u64.wrap (Int.tdiv b 4294967296))))+(IntKind.u64.wrap (Int.tdiv (IntKind.u64.wrap ((IntKind.u64.wrap ((IntKind.u64.wrap (Int.tdiv a 4294967296))*(Int.tmod b 4294967296)))+(IntKind.u64.wrap (Int.tdiv (IntKind.u64.wrap ((Int.tmod a 4294967296)*(Int.tmod b 4294967296))) 4294967296)))) 4294967296))))+(IntKind.u64.wrap (Int.tdiv (IntKind.u64.wrap ((IntKind.u64.wrap ((Int.tmod a 4294967296)*(IntKind.u64.wrap (Int.tdiv b 4294967296))))+(Int.tmod (IntKind.u64.wrap ((IntKind.u64.wrap ((IntKind.u64.wrap (Int.tdiv a 4294967296))*(Int.tmod b 4294967296)))+(IntKind.u64.wrap (Int.tdiv (IntKind.u64.wrap ((Int.tmod a 4294967296)*(Int.tmod b 4294967296))) 4294967296)))) 4294967296))) 4294967296))))
    (IntKind.u64.wrap (a*b)):=by
  rw [Kx ha (by decide),Kx hb (by decide),Jd ha.1,Jd hb.1]
  obtain ⟨a1,ea1⟩: ∃x,x=a/4294967296:=⟨_,rfl⟩
  obtain ⟨a0,ea0⟩: ∃x,x=a%4294967296:=⟨_,rfl⟩
  obtain ⟨b1,eb1⟩: ∃x,x=b/4294967296:=⟨_,rfl⟩
  obtain ⟨b0,eb0⟩: ∃x,x=b%4294967296:=⟨_,rfl⟩
  rw [←ea1,←ea0,←eb1,←eb0]
  unfold W at ha hb
  have ha' :a=a1*4294967296+a0:=by omega
  have hb' :b=b1*4294967296+b0:=by omega
  have hp:=JZ (a:=a1) (b:=b1) (m:=4294967295) (n:=4294967295) (by omega) (by omega) (by omega) (by omega)
  have hq:=JZ (a:=a1) (b:=b0) (m:=4294967295) (n:=4294967295) (by omega) (by omega) (by omega) (by omega)
  have hr:=JZ (a:=a0) (b:=b1) (m:=4294967295) (n:=4294967295) (by omega) (by omega) (by omega) (by omega)
  have hs:=JZ (a:=a0) (b:=b0) (m:=4294967295) (n:=4294967295) (by omega) (by omega) (by omega) (by omega)
  have hab:a*b=a1*b1*18446744073709551616+(a1*b0+a0*b1)*4294967296+a0*b0:=by
    rw [ha',hb']
    simp only [Int.add_mul,Int.mul_add]
    have e1:a1*4294967296*(b1*4294967296)=a1*b1*18446744073709551616:=by
      rw [Int.mul_assoc,←Int.mul_assoc 4294967296 b1,Int.mul_comm 4294967296 b1,Int.mul_assoc b1,←Int.mul_assoc];rfl
    have e2:a1*4294967296*b0=a1*b0*4294967296:=by rw [Int.mul_assoc,Int.mul_comm 4294967296 b0,←Int.mul_assoc]
    have e3:a0*(b1*4294967296)=a0*b1*4294967296:=by rw [←Int.mul_assoc]
    rw [e1,e2,e3];omega
  generalize a1*b1=p at *
  generalize a1*b0=q at *
  generalize a0*b1=r at *
  generalize a0*b0=s at *
  have w1:IntKind.u64.wrap s=s:=QL ⟨by omega,by omega⟩
  have w2:IntKind.u64.wrap q=q:=QL ⟨by omega,by omega⟩
  have w3:IntKind.u64.wrap r=r:=QL ⟨by omega,by omega⟩
  have w4:IntKind.u64.wrap p=p:=QL ⟨by omega,by omega⟩
  rw [w1,w2,w3,w4,Kx (a:=s) ⟨by omega,by omega⟩ (by decide)]
  have w5:IntKind.u64.wrap (q+s/4294967296)=q+s/4294967296:=QL ⟨by omega,by omega⟩
  rw [w5,Kx (a:=q+s/4294967296) ⟨by omega,by omega⟩ (by decide),Jd (by omega)]
  have w6:IntKind.u64.wrap (r+(q+s/4294967296)%4294967296)=r+(q+s/4294967296)%4294967296:=QL ⟨by omega,by omega⟩
  rw [w6,Kx (a:=r+(q+s/4294967296)%4294967296) ⟨by omega,by omega⟩ (by decide)]
  have w7:IntKind.u64.wrap (p+(q+s/4294967296)/4294967296)=p+(q+s/4294967296)/4294967296:=QL ⟨by omega,by omega⟩
  rw [w7,QL ⟨by omega,by omega⟩,Z8,hab]
  exact ⟨by omega,⟨by omega,by omega⟩,⟨by omega,by omega⟩⟩
structure k7 (hi below y q r:Int):Prop where
  eq:q*y+r=hi*4294967296+below
  r0:0<=r
  r1:r<y
  q0:0<=q
  q1:q<4294967296
structure Yc (hi below y:Int):Prop where
  hi0:0<=hi
  hi1:hi<y
  b0:0<=below
  b1:below<4294967296
  y0:9223372036854775808<=y
  y1:y<18446744073709551616
structure Y6 (hi below y q l:Int):Prop where
  eq:q*(y/4294967296)+l=hi
  l0:0<=l
  l1:l<4294967296
  q0:0<=q
  q1:q<18446744073709551616
  up:hi*4294967296+below<q*y+y
theorem xn {q y:Int}:q*y=q*(y/4294967296)*4294967296+q*(y%4294967296):=by
  have h:y=y/4294967296*4294967296+y%4294967296:=by omega
  calc q*y=q*(y/4294967296*4294967296+y%4294967296):=by rw [←h]
    _=_:=by rw [Int.mul_add,←Int.mul_assoc]
theorem vG {hi below y:Int} (h:Yc hi below y):Y6 hi below y (hi/(y/4294967296)) (hi%(y/4294967296)):=by
  obtain ⟨h1,h2,h3,h4,h5,h6⟩:=h
  have hy1:2147483648<=y/4294967296:=by omega
  have hy2:y/4294967296<4294967296:=by omega
  have e:hi/(y/4294967296)*(y/4294967296)+hi%(y/4294967296)=hi:=by rw [Int.mul_comm];exact Int.mul_ediv_add_emod _ _
  have l0:0<=hi%(y/4294967296):=Int.emod_nonneg _ (by omega)
  have l1:hi%(y/4294967296)<y/4294967296:=Int.emod_lt_of_pos _ (by omega)
  have q0:0<=hi/(y/4294967296):=Int.ediv_nonneg h1 (by omega)
  have q1:hi/(y/4294967296)<=hi:=Int.ediv_le_self _ h1
  refine ⟨e,l0,by omega,q0,by omega,?_⟩
  have hm:=xn (q:=hi/(y/4294967296)) (y:=y)
  have hn:0<=hi/(y/4294967296)*(y%4294967296):=Int.mul_nonneg q0 (by omega)
  rw [hm]
  generalize hi/(y/4294967296)*(y/4294967296)=A at *
  generalize hi/(y/4294967296)*(y%4294967296)=B at *
  omega
theorem Fw {hi below y q l:Int} (h:Yc hi below y) (j:Y6 hi below y q l) (hq:q<4294967296):
    (IntKind.u64.wrap (q*(y%4294967296))>IntKind.u64.wrap (IntKind.u64.wrap (l*4294967296)+below))↔q*(y%4294967296)>l*4294967296+below:=by
  obtain ⟨h1,h2,h3,h4,h5,h6⟩:=h
  obtain ⟨j1,j2,j3,j4,j5,j6⟩:=j
  have hB:=JZ (a:=q) (b:=y%4294967296) (m:=4294967295) (n:=4294967295) j4 (by omega) (by omega) (by omega)
  rw [QL (a:=q*(y%4294967296)) ⟨by omega,by omega⟩,QL (a:=l*4294967296) ⟨by omega,by omega⟩,QL ⟨by omega,by omega⟩]
theorem GD {hi below y q l:Int} (h:Yc hi below y) (j:Y6 hi below y q l) (hc:4294967296<=q∨(q<4294967296/\q*(y%4294967296)>l*4294967296+below)):hi*4294967296+below<q*y:=by
  obtain ⟨h1,h2,h3,h4,h5,h6⟩:=h
  obtain ⟨j1,j2,j3,j4,j5,j6⟩:=j
  rcases hc with hc | ⟨_,hc⟩
  · have:4294967296*y<=q*y:=Int.mul_le_mul_of_nonneg_right hc (by omega)
    omega
  · rw [xn (q:=q) (y:=y)]
    generalize q*(y/4294967296)=A at *
    generalize q*(y%4294967296)=B at *
    omega
theorem pK {hi below y q l:Int} (h:Yc hi below y) (j:Y6 hi below y q l) (hc:4294967296<=q∨(q<4294967296/\q*(y%4294967296)>l*4294967296+below))
    (hl:IntKind.u64.wrap (l+y/4294967296)<4294967296):Y6 hi below y (IntKind.u64.wrap (q - 1)) (IntKind.u64.wrap (l+y/4294967296))/\(IntKind.u64.wrap (q - 1)).toNat<q.toNat:=by
  have hlt:=GD h j hc
  obtain ⟨h1,h2,h3,h4,h5,h6⟩:=h
  obtain ⟨j1,j2,j3,j4,j5,j6⟩:=j
  have q1:1<=q:=by
    rcases Int.lt_or_le q 1 with h | h
    · have:q=0:=by omega
      subst this;omega
    · exact h
  rw [QL (a:=q - 1) ⟨by omega,by omega⟩]
  rw [QL (a:=l+y/4294967296) ⟨by omega,by omega⟩] at hl ⊢
  refine ⟨⟨?_,by omega,hl,by omega,by omega,?_⟩,by omega⟩
  · rw [Int.sub_mul];omega
  · rw [Int.sub_mul];omega
theorem vc {hi below y q:Int} (h:Yc hi below y) (q0:0<=q) (q1:q<4294967296) (lo:q*y<=hi*4294967296+below) (up:hi*4294967296+below<q*y+y):
    k7 hi below y q (IntKind.u64.wrap (IntKind.u64.wrap (IntKind.u64.wrap (hi*4294967296)+below) - IntKind.u64.wrap (q*y))):=by
  obtain ⟨h1,h2,h3,h4,h5,h6⟩:=h
  have e:IntKind.u64.wrap (IntKind.u64.wrap (IntKind.u64.wrap (hi*4294967296)+below) - IntKind.u64.wrap (q*y))=hi*4294967296+below - q*y:=by
    simp only [Z8]
    generalize q*y=Y at *
    omega
  rw [e]
  exact ⟨by omega,by omega,by omega,q0,q1⟩
theorem ZZ {hi below y q l:Int} (h:Yc hi below y) (j:Y6 hi below y q l) (hc:4294967296<=q∨(q<4294967296/\q*(y%4294967296)>l*4294967296+below))
    (hl: ¬IntKind.u64.wrap (l+y/4294967296)<4294967296):
    k7 hi below y (IntKind.u64.wrap (q - 1)) (IntKind.u64.wrap (IntKind.u64.wrap (IntKind.u64.wrap (hi*4294967296)+below) - IntKind.u64.wrap (IntKind.u64.wrap (q - 1)*y))):=by
  have hlt:=GD h j hc
  have h' :=h
  obtain ⟨h1,h2,h3,h4,h5,h6⟩:=h
  obtain ⟨j1,j2,j3,j4,j5,j6⟩:=j
  have q1:1<=q:=by
    rcases Int.lt_or_le q 1 with h | h
    · have:q=0:=by omega
      subst this;omega
    · exact h
  rw [QL (a:=q - 1) ⟨by omega,by omega⟩]
  rw [QL (a:=l+y/4294967296) ⟨by omega,by omega⟩] at hl
  have hq:q - 1<4294967296:=by
    rcases Int.lt_or_le (q - 1) 4294967296 with h | h
    · exact h
    · have:4294967296*(y/4294967296)<=(q - 1)*(y/4294967296):=Int.mul_le_mul_of_nonneg_right h (by omega)
      rw [Int.sub_mul] at this
      omega
  have hB:=JZ (a:=q - 1) (b:=y%4294967296) (m:=4294967295) (n:=4294967295) (by omega) (by omega) (by omega) (by omega)
  refine vc h' (by omega) hq ?_ (by rw [Int.sub_mul];omega)
  rw [xn (q:=q - 1) (y:=y),Int.sub_mul q 1 (y/4294967296)]
  generalize q*(y/4294967296)=A at *
  generalize (q - 1)*(y%4294967296)=B at *
  omega
theorem J0 {hi below y q l:Int} (h:Yc hi below y) (j:Y6 hi below y q l) (hq:q<4294967296) (hc: ¬q*(y%4294967296)>l*4294967296+below):
    k7 hi below y q (IntKind.u64.wrap (IntKind.u64.wrap (IntKind.u64.wrap (hi*4294967296)+below) - IntKind.u64.wrap (q*y))):=by
  have h' :=h
  obtain ⟨h1,h2,h3,h4,h5,h6⟩:=h
  obtain ⟨j1,j2,j3,j4,j5,j6⟩:=j
  refine vc h' j4 hq ?_ j6
  rw [xn (q:=q) (y:=y)]
  generalize q*(y/4294967296)=A at *
  generalize q*(y%4294967296)=B at *
  omega
end Go.Sx
namespace Go.Sx
theorem Yc.Wy {hi below y:Int} (h:Yc hi below y):W y:=⟨by have:=h.y0;omega,h.y1⟩
theorem Yc.Wh {hi below y:Int} (h:Yc hi below y):W hi:=⟨h.hi0,by have:=h.hi1;have:=h.y1;omega⟩
theorem Yc.y1pos {hi below y:Int} (h:Yc hi below y):0<y/4294967296:=by have:=h.y0;omega
theorem Xr {q:Int} (h:decide (q≥4294967296)=true):4294967296<=q:=by simpa using h
theorem QR {q:Int} (h:decide (q≥4294967296)=false):q<4294967296:=by simpa using h
theorem ZG {a b:Int} (h:decide (a<b)=false): ¬a<b:=by simpa using h
theorem KR {hi below y q l:Int} (h:Yc hi below y) (j:Y6 hi below y q l) (hq:q<4294967296)
    (hc:decide (IntKind.u64.wrap (q*(y%4294967296))>IntKind.u64.wrap (IntKind.u64.wrap (l*4294967296)+below))=true):q*(y%4294967296)>l*4294967296+below:=
  (Fw h j hq).1 (of_decide_eq_true hc)
theorem Jv {hi below y q l:Int} (h:Yc hi below y) (j:Y6 hi below y q l) (hq:q<4294967296)
    (hc:decide (IntKind.u64.wrap (q*(y%4294967296))>IntKind.u64.wrap (IntKind.u64.wrap (l*4294967296)+below))=false): ¬q*(y%4294967296)>l*4294967296+below:=
  fun h' =>of_decide_eq_false hc ((Fw h j hq).2 h')
theorem VF {hi below y q l:Int} (h:Yc hi below y) (j:Y6 hi below y q l) (hc:4294967296<=q∨(q<4294967296/\q*(y%4294967296)>l*4294967296+below))
    (hl:decide (IntKind.u64.wrap (l+y/4294967296)<4294967296)=true):Y6 hi below y (IntKind.u64.wrap (q - 1)) (IntKind.u64.wrap (l+y/4294967296))/\(IntKind.u64.wrap (q - 1)).toNat<q.toNat:=
  pK h j hc (of_decide_eq_true hl)
end Go.Sx
namespace Go.Sx
theorem W9 (k:Nat) (hk:k<=64) {a b:Int} (ha:0<=a) (hb:0<=b) (hb' :b<2^k) (h:a*2^k<18446744073709551616):
    IntKind.u64.wrap (((BitVec.ofInt 64 (a*2^k) ||| BitVec.ofInt 64 b:BitVec 64).toNat:Nat):Int)=a*2^k+b:=by
  obtain ⟨a,rfl⟩:=Int.eq_ofNat_of_zero_le ha
  obtain ⟨b,rfl⟩:=Int.eq_ofNat_of_zero_le hb
  have e2:((a:Int)*2^k)=((a*2^k:Nat):Int):=by simp
  rw [e2] at h ⊢
  have hb2:b<2^k:=by
    have:((b:Nat):Int)<((2^k:Nat):Int):=by simpa using hb'
    exact Int.ofNat_lt.1 this
  have h2:a*2^k<2^64:=by omega
  have hle:2^k<=2^64:=Nat.pow_le_pow_right (by decide) hk
  have hor:a*2^k ||| b=a*2^k+b:=by
    have:=Nat.shiftLeft_add_eq_or_of_lt hb2 a
    rw [Nat.shiftLeft_eq] at this
    exact this.symm
  have hsum:a*2^k+b<2^64:=by
    rw [←hor];exact Nat.or_lt_two_pow h2 (by omega)
  simp only [BitVec.toNat_or,BitVec.ofInt_natCast,BitVec.toNat_ofNat]
  rw [Nat.mod_eq_of_lt h2,Nat.mod_eq_of_lt (by omega:b<2^64),hor,Z8]
  omega
def QO (y:Int):Nat:=64 - XG y.toNat
theorem Xf {y:Int} (h0:0<y) (h1:y<18446744073709551616):
    9223372036854775808<=y*2^QO y/\y*2^QO y<18446744073709551616/\QO y<=63/\(2:Int)^QO y*2^(64 - QO y)=18446744073709551616/\((QO y:Nat):Int)=64 - (XG y.toNat:Nat):=by
  obtain ⟨n,rfl⟩:=Int.eq_ofNat_of_zero_le (Int.le_of_lt h0)
  have hn:n≠0:=by omega
  have hle:=va (x:=n) (by omega)
  unfold QO
  rw [Int.toNat_natCast]
  have hb:XG n=Nat.log2 n+1:=by unfold XG;rw [if_neg hn]
  have l1:=Nat.log2_self_le hn
  have l2:=Nat.lt_log2_self (n:=n)
  obtain ⟨m,hm⟩: ∃m,m=Nat.log2 n:=⟨_,rfl⟩
  rw [←hm] at hb l1 l2
  rw [hb] at hle ⊢
  obtain ⟨k,hk⟩: ∃k,k=64 - (m+1):=⟨_,rfl⟩
  rw [←hk]
  have e1:2^m*2^k=9223372036854775808:=by rw [←Nat.pow_add,show m+k=63 from by omega]
  have e2:2^(m+1)*2^k=18446744073709551616:=by rw [←Nat.pow_add,show m+1+k=64 from by omega]
  have a1:2^m*2^k<=n*2^k:=Nat.mul_le_mul_right _ l1
  have a2:n*2^k<2^(m+1)*2^k:=(Nat.mul_lt_mul_right (Nat.two_pow_pos k)).2 l2
  have c:((n:Int)*2^k)=((n*2^k:Nat):Int):=by simp
  have e3:(2:Int)^k*2^(64 - k)=((2^k*2^(64 - k):Nat):Int):=by simp
  have e4:2^k*2^(64 - k)=18446744073709551616:=by rw [←Nat.pow_add,show k+(64 - k)=64 from by omega]
  rw [c,e3,e4]
  refine ⟨by omega,by omega,by omega,by rfl,by omega⟩
structure jY (hi lo y q r e:Int):Prop where
  zero:y=0->q=0/\r=0/\e=3
  over:y≠0->y<=hi->q=0/\r=0/\e=2
  ok:hi<y->e=0/\q*y+r=hi*18446744073709551616+lo/\0<=r/\r<y/\0<=q/\q<18446744073709551616
structure xx (hi lo y:Int):Prop where
  hi:W hi
  lo:W lo
  y:W y
section
variable {hi lo y:Int} (h:xx hi lo y) (hlt:hi<y)
include h hlt
theorem xx.ypos:0<y:=by have:=h.hi.1;omega
theorem Qdw:IntKind.i64.wrap (64 - ((XG y.toNat:Nat):Int))=((QO y:Nat):Int):=by
  obtain ⟨_,_,h3,_,h5⟩:=Xf (xx.ypos h hlt) h.y.2
  rw [QU _ (by omega) (by omega),h5]
theorem QdG:IntKind.u64.wrap (y*2^min (Int.toNat ((QO y:Nat):Int)) 64)=y*2^QO y:=by
  obtain ⟨h1,h2,h3,_,_⟩:=Xf (xx.ypos h hlt) h.y.2
  rw [Int.toNat_natCast,Nat.min_eq_left (by omega)]
  exact QL ⟨by omega,h2⟩
omit h hlt in
theorem XE (k:Nat):(0:Int)<2^k:=by
  have:=Nat.two_pow_pos k
  have e:((2^k:Nat):Int)=(2:Int)^k:=by simp
  omega
theorem QcU:IntKind.u64.wrap (hi*2^min (Int.toNat ((QO y:Nat):Int)) 64)=hi*2^QO y:=by
  obtain ⟨h1,h2,h3,_,_⟩:=Xf (xx.ypos h hlt) h.y.2
  rw [Int.toNat_natCast,Nat.min_eq_left (by omega)]
  have hp:=XE (QO y)
  have a1:hi*2^QO y<=y*2^QO y:=Int.mul_le_mul_of_nonneg_right (by omega) (by omega)
  exact QL ⟨Int.mul_nonneg h.hi.1 (by omega),by omega⟩
theorem Qdi:IntKind.i64.wrap (64 - ((QO y:Nat):Int))=((64 - QO y:Nat):Int):=by
  obtain ⟨_,_,h3,_,_⟩:=Xf (xx.ypos h hlt) h.y.2
  rw [QU _ (by omega) (by omega)];omega
omit h hlt in
theorem Qbf:Int.fdiv lo (2^min (Int.toNat ((64 - QO y:Nat):Int)) 64)=lo/2^(64 - QO y):=by
  rw [Int.toNat_natCast,Nat.min_eq_left (by omega)]
  exact Int.fdiv_eq_ediv_of_nonneg _ (by have:=XE (64 - QO y);omega)
theorem UB:0<=lo/2^(64 - QO y)/\lo/2^(64 - QO y)<2^QO y:=by
  obtain ⟨_,_,h3,h4,_⟩:=Xf (xx.ypos h hlt) h.y.2
  have hp:=XE (64 - QO y)
  refine ⟨Int.ediv_nonneg h.lo.1 (by omega),?_⟩
  rw [Int.ediv_lt_iff_lt_mul hp,h4]
  exact h.lo.2
theorem QcK:IntKind.u64.wrap (((BitVec.ofInt 64 (hi*2^QO y) ||| BitVec.ofInt 64 (lo/2^(64 - QO y)):BitVec 64).toNat:Nat):Int)=hi*2^QO y+lo/2^(64 - QO y):=by
  obtain ⟨h1,h2,h3,h4,_⟩:=Xf (xx.ypos h hlt) h.y.2
  obtain ⟨l0,l1⟩:=UB h hlt
  have hp:=XE (QO y)
  have a1:hi*2^QO y<=y*2^QO y:=Int.mul_le_mul_of_nonneg_right (by omega) (by omega)
  exact W9 (QO y) (by omega) h.hi.1 l0 l1 (by omega)
theorem QcB:IntKind.u64.wrap (lo*2^min (Int.toNat ((QO y:Nat):Int)) 64)=lo*2^QO y%18446744073709551616:=by
  obtain ⟨_,_,h3,_,_⟩:=Xf (xx.ypos h hlt) h.y.2
  rw [Int.toNat_natCast,Nat.min_eq_left (by omega),Z8]
omit h hlt in
theorem hI:W (lo*2^QO y%18446744073709551616):=⟨by omega,by omega⟩
theorem QcH:Yc (hi*2^QO y+lo/2^(64 - QO y)) (lo*2^QO y%18446744073709551616/4294967296) (y*2^QO y):=by
  obtain ⟨h1,h2,h3,h4,_⟩:=Xf (xx.ypos h hlt) h.y.2
  obtain ⟨l0,l1⟩:=UB h hlt
  have hp:=XE (QO y)
  have a0:0<=hi*2^QO y:=Int.mul_nonneg h.hi.1 (by omega)
  have a1:(hi+1)*2^QO y<=y*2^QO y:=Int.mul_le_mul_of_nonneg_right (by omega) (by omega)
  rw [Int.add_mul] at a1
  exact ⟨by omega,by omega,by omega,by omega,h1,h2⟩
theorem Qcq {q r:Int} (d:k7 (hi*2^QO y+lo/2^(64 - QO y)) (lo*2^QO y%18446744073709551616/4294967296) (y*2^QO y) q r):
    Yc r (lo*2^QO y%18446744073709551616%4294967296) (y*2^QO y):=by
  obtain ⟨h1,h2,h3,h4,_⟩:=Xf (xx.ypos h hlt) h.y.2
  exact ⟨d.r0,d.r1,by omega,by omega,h1,h2⟩
theorem QbT {q1 r1 q0 r0:Int} (d1:k7 (hi*2^QO y+lo/2^(64 - QO y)) (lo*2^QO y%18446744073709551616/4294967296) (y*2^QO y) q1 r1)
    (d0:k7 r1 (lo*2^QO y%18446744073709551616%4294967296) (y*2^QO y) q0 r0):
    jY hi lo y (IntKind.u64.wrap (IntKind.u64.wrap (q1*4294967296)+q0)) (Int.fdiv r0 (2^min (Int.toNat ((QO y:Nat):Int)) 64)) 0:=by
  obtain ⟨h1,h2,h3,h4,_⟩:=Xf (xx.ypos h hlt) h.y.2
  obtain ⟨l0,l1⟩:=UB h hlt
  have hp:=XE (QO y)
  have hp2:=XE (64 - QO y)
  rw [Int.toNat_natCast,Nat.min_eq_left (by omega),Int.fdiv_eq_ediv_of_nonneg _ (by omega)]
  have b1:=d1.q0;have b2:=d1.q1;have b3:=d0.q0;have b4:=d0.q1
  rw [QL (a:=q1*4294967296) ⟨by omega,by omega⟩,QL ⟨by omega,by omega⟩]
  have e1:=d1.eq;have e0:=d0.eq;have r0' :=d0.r0;have r1' :=d0.r1
  clear d1 d0
  generalize (2:Int)^QO y=p at *
  generalize (2:Int)^(64 - QO y)=p2 at *
  have hlo:lo*p=lo/p2*18446744073709551616+lo*p%18446744073709551616:=by
    have h5:lo*p/18446744073709551616=lo/p2:=by
      rw [←h4,Int.mul_comm p p2]
      exact Int.mul_ediv_mul_of_pos_left _ _ hp
    omega
  have hL:lo*p%18446744073709551616=lo*p%18446744073709551616/4294967296*4294967296+lo*p%18446744073709551616%4294967296:=by omega
  have key:(q1*4294967296+q0)*(y*p)+r0=(hi*18446744073709551616+lo)*p:=by
    rw [Int.add_mul,Int.mul_assoc q1 4294967296,Int.mul_comm 4294967296 (y*p),←Int.mul_assoc q1,Int.add_mul (hi*18446744073709551616),Int.mul_assoc hi,Int.mul_comm 18446744073709551616 p,←Int.mul_assoc hi]
    generalize q1*(y*p)=A at *
    generalize q0*(y*p)=C at *
    generalize hi*p=Hp at *
    generalize lo*p=Lp at *
    omega
  have hr:r0=(hi*18446744073709551616+lo - (q1*4294967296+q0)*y)*p:=by
    rw [Int.sub_mul,Int.mul_assoc (q1*4294967296+q0)];omega
  have hr2:r0/p=hi*18446744073709551616+lo - (q1*4294967296+q0)*y:=by
    rw [hr];exact Int.mul_ediv_cancel _ (by omega)
  have hr3:0<=r0/p:=Int.ediv_nonneg r0' (by omega)
  have hr4:r0/p<y:=by rw [Int.ediv_lt_iff_lt_mul hp];exact r1'
  refine ⟨fun hz=>by have:=h.hi.1;omega,fun _ hle=>by omega,fun _=>⟨rfl,?_,hr3,hr4,by omega,by omega⟩⟩
  omega
end
end Go.Sx
namespace Go.Sx
theorem Qbq {hi below y:Int} (h:Yc hi below y): ∃x:Int×Int,(fun J=>k7 hi below y J.1 J.2) x:=by
  have hy:=h.y0
  have hpos:0<y:=by omega
  refine ⟨((hi*4294967296+below)/y,(hi*4294967296+below)%y),?_,Int.emod_nonneg _ (by omega),Int.emod_lt_of_pos _ hpos,Int.ediv_nonneg (by have:=h.hi0;have:=h.b0;omega) (by omega),?_⟩
  · show (hi*4294967296+below)/y*y+(hi*4294967296+below)%y=_
    rw [Int.mul_comm];exact Int.mul_ediv_add_emod _ _
  · show (hi*4294967296+below)/y<4294967296
    rw [Int.ediv_lt_iff_lt_mul hpos]
    have:=h.hi1;have:=h.b1;omega
end Go.Sx
namespace Go.Sx
theorem FR {hi lo y:Int} (h:xx hi lo y) (hy:(y==(0:Int))=true):jY hi lo y 0 0 3:=by
  have e:y=0:=by simpa using hy
  have:=h.hi.1
  exact ⟨fun _=>⟨rfl,rfl,rfl⟩,fun h=>absurd e h,fun h=>by omega⟩
theorem GH {hi lo y:Int} (h:xx hi lo y) (hy:(y==(0:Int))=false) (hle:decide (hi≥y)=true):jY hi lo y 0 0 2:=by
  have e0:y≠0:=by simpa using hy
  have e:y<=hi:=by simpa using hle
  exact ⟨fun h=>absurd h e0,fun _ _=>⟨rfl,rfl,rfl⟩,fun h=>by omega⟩
theorem Qbz {hi lo y : Int} (h : xx hi lo y) : ∃ x : Int × Int × Int, (fun J => jY hi lo y J.1 J.2.1 J.2.2) x := by
  by_cases h0:y=0
  · exact ⟨(0,0,3),FR h (by simp [h0])⟩
  · by_cases h1:y<=hi
    · exact ⟨(0,0,2),GH h (by simp [h0]) (by simp [h1])⟩
    · have hpos:0<y:=by have:=h.hi.1;omega
      refine ⟨((hi*18446744073709551616+lo)/y,(hi*18446744073709551616+lo)%y,0),⟨fun h=>absurd h h0,fun _ h=>absurd h h1,fun _=>⟨rfl,?_,Int.emod_nonneg _ (by omega),Int.emod_lt_of_pos _ hpos,Int.ediv_nonneg (by have:=h.hi.1;have:=h.lo.1;omega) (by omega),?_⟩⟩⟩
      · show (hi*18446744073709551616+lo)/y*y+(hi*18446744073709551616+lo)%y=_
        rw [Int.mul_comm];exact Int.mul_ediv_add_emod _ _
      · show (hi*18446744073709551616+lo)/y<18446744073709551616
        rw [Int.ediv_lt_iff_lt_mul hpos]
        have:=h.lo.2
        omega
end Go.Sx
namespace Go.Sx
def ci:Value->Int | .int _ n=>n | _=>0
def cb:Value->Bool | .bool b=>b | _=>false
def cell (v:Value) (i:Nat):Value:=match v with | .agg cs=>cs.getD i undef | .tuple cs=>cs.getD i undef | _=>undef
def Qt:Value->Nat | .slice (some a) _ _=>a.block | .pointer (some a)=>a.block | .map (some b)=>b | _=>0
def XO:Value->Nat | .slice (some a) _ _=>a.off | .pointer (some a)=>a.off | _=>0
def w8:Value->Nat | .slice _ n _=>n | _=>0
def gU:Value->Nat | .slice _ _ n=>n | _=>0
def v4 (p:Value) (o:Nat):Value:= .agg #[cell p o,cell p (o+1),cell p (o+2),cell p (o+3)]
def Qf (vs:List Value) (i:Nat):Value:=vs.getD i undef
def Qc (hs:List Qe) (i:Nat):Qe:=hs.getD i .free
def Qdj:Qe->Nat | .blk b _=>b | _=>0
def Qd (s:Qe) (i:Nat):Value:=match s with | .blk _ (.cells cs _ _)=>cs.getD i undef | _=>undef
def QM:Qe->Array Value | .blk _ (.cells cs _ _)=>cs | _=> #[]
def Qb (n:Int) (i:Nat):Int:=n/(18446744073709551616^i)%18446744073709551616
def vI (n:Int):Value:= .agg #[.int .u64 (Qb n 0), .int .u64 (Qb n 1), .int .u64 (Qb n 2), .int .u64 (Qb n 3)]
def vW (n:Int):Value:= .agg #[.int .u64 (Qb n 0), .int .u64 (Qb n 1), .int .u64 (Qb n 2), .int .u64 (Qb n 3), .int .u64 (Qb n 4), .int .u64 (Qb n 5), .int .u64 (Qb n 6), .int .u64 (Qb n 7)]
def QdO:List Value->Int | .int _ a::l=>a+18446744073709551616*QdO l | _=>0
def QB (v:Value):Int:=match v with | .agg cs=>QdO cs.toList | _=>0
def R4 (n:Int):Prop:=0<=n/\n<115792089237316195423570985008687907853269984665640564039457584007913129639936
def R8 (n:Int):Prop:=0<=n/\n<13407807929942597099574024998205846127479365820592393377723561443721764030073546976801874298166903427690031858186486050853753882811946569946433649006084096
theorem FJ (n:Int):Qb n 0=n%18446744073709551616:=by simp [Qb]
theorem GO (n:Int):Qb n 1=n/18446744073709551616%18446744073709551616:=by simp [Qb]
theorem GE (n:Int):Qb n 2=n/340282366920938463463374607431768211456%18446744073709551616:=by simp [Qb]
theorem Ft (n:Int):Qb n 3=n/6277101735386680763835789423207666416102355444464034512896%18446744073709551616:=by simp [Qb]
theorem Qi (n:Int) (i:Nat):W (Qb n i):=by unfold Qb W;omega
theorem k3 (a b c d:Int):QB (.agg #[.int .u64 a, .int .u64 b, .int .u64 c, .int .u64 d])=a+18446744073709551616*(b+18446744073709551616*(c+18446744073709551616*(d+18446744073709551616*0))):=rfl
theorem dV (a b c d:Int):QB (.agg #[.int .u64 a, .int .u64 b, .int .u64 c, .int .u64 d])=a+18446744073709551616*b+340282366920938463463374607431768211456*c+6277101735386680763835789423207666416102355444464034512896*d:=by rw [k3];omega
theorem BY (n:Int):QB (vI n)=n%115792089237316195423570985008687907853269984665640564039457584007913129639936:=by
  show QB (.agg _)=_
  rw [k3,FJ,GO,GE,Ft];omega
theorem Qj {n:Int} (h:R4 n):QB (vI n)=n:=by rw [BY];unfold R4 at h;omega
theorem ZA (n:Int):R4 (QB (vI n)):=by rw [BY];unfold R4;omega
theorem Yi {a b c d:Int} (ha:W a) (hb:W b) (hc:W c) (hd:W d):vI (QB (.agg #[.int .u64 a, .int .u64 b, .int .u64 c, .int .u64 d]))= .agg #[.int .u64 a, .int .u64 b, .int .u64 c, .int .u64 d]:=by
  unfold W at *
  have e0:Qb (QB (.agg #[.int .u64 a, .int .u64 b, .int .u64 c, .int .u64 d])) 0=a:=by rw [k3,FJ];omega
  have e1:Qb (QB (.agg #[.int .u64 a, .int .u64 b, .int .u64 c, .int .u64 d])) 1=b:=by rw [k3,GO];omega
  have e2:Qb (QB (.agg #[.int .u64 a, .int .u64 b, .int .u64 c, .int .u64 d])) 2=c:=by rw [k3,GE];omega
  have e3:Qb (QB (.agg #[.int .u64 a, .int .u64 b, .int .u64 c, .int .u64 d])) 3=d:=by rw [k3,Ft];omega
  unfold vI
  rw [e0,e1,e2,e3]
theorem X6 {a b c d:Int} (ha:W a) (hb:W b) (hc:W c) (hd:W d):R4 (QB (.agg #[.int .u64 a, .int .u64 b, .int .u64 c, .int .u64 d])):=by
  rw [k3];unfold W at *;unfold R4;omega
theorem qo:vI 0= .agg #[.int .u64 0, .int .u64 0, .int .u64 0, .int .u64 0]:=by unfold vI;rw [FJ,GO,GE,Ft];rfl
def XI (a b:Int):Int×Int:=if a+b<115792089237316195423570985008687907853269984665640564039457584007913129639936 then (a+b,0) else (0,2)
def Yb (a b:Int):Int×Int:=if b<=a then (a - b,0) else (0,2)
theorem Zk:R4 0:=by unfold R4;decide
theorem du:R4 1:=by unfold R4;decide
theorem Br {a b:Int} (ha:R4 a) (hb:R4 b):R4 (XI a b).1:=by
  unfold XI R4 at *;split<;>dsimp only<;>omega
theorem bG {a b:Int} (ha:R4 a) (hb:R4 b):R4 (Yb a b).1:=by
  unfold Yb R4 at *;split<;>dsimp only<;>omega
theorem zH (n:Int):QB (vI n)=Qb n 0+18446744073709551616*Qb n 1+340282366920938463463374607431768211456*Qb n 2+6277101735386680763835789423207666416102355444464034512896*Qb n 3:=dV ..
theorem FM:yj 0=0:=rfl
abbrev nC (n:Int):Array Value:= #[.int .u64 (Qb n 0), .int .u64 (Qb n 1), .int .u64 (Qb n 2), .int .u64 (Qb n 3)]
end Go.Sx
namespace Go.Sx
def qE (a b:Int):Int:=if a<b then -1 else if b<a then 1 else 0
theorem QdH {x:Int} (h:W x):vI x= .agg #[.int .u64 x, .int .u64 0, .int .u64 0, .int .u64 0]:=by
  unfold W at h;unfold vI;rw [FJ,GO,GE,Ft]
  have e0:x%18446744073709551616=x:=by omega
  have e1:x/18446744073709551616%18446744073709551616=0:=by omega
  have e2:x/340282366920938463463374607431768211456%18446744073709551616=0:=by omega
  have e3:x/6277101735386680763835789423207666416102355444464034512896%18446744073709551616=0:=by omega
  rw [e0,e1,e2,e3]
theorem wP {f:Int×Int} {v:Value} {n e:Int} (h:f=(n,e)) (r:R4 n) (hv:vI n=v): ∃J:Int×Int,(R4 J.1/\J=f)/\Value.tuple #[v, .int .i64 e]= .tuple #[vI J.1, .int .i64 J.2]/\True:=
  ⟨(n,e),⟨r,h.symm⟩,by rw [hv],trivial⟩
section
variable {a b s0 o0 s1 o1 s2 o2 s3 o3:Int}
theorem BX (h0:XB (Qb a 0) (Qb b 0) 0 s0 o0) (h1:XB (Qb a 1) (Qb b 1) o0 s1 o1) (h2:XB (Qb a 2) (Qb b 2) o1 s2 o2) (h3:XB (Qb a 3) (Qb b 3) o2 s3 o3):
    QB (.agg #[.int .u64 s0, .int .u64 s1, .int .u64 s2, .int .u64 s3])+o3*115792089237316195423570985008687907853269984665640564039457584007913129639936=QB (vI a)+QB (vI b)/\0<=o3/\o3<=1:=by
  rw [dV,zH a,zH b]
  have e0:=h0.eq;have e1:=h1.eq;have e2:=h2.eq;have e3:=h3.eq
  rw [Xc h0.o0 h0.o1] at e1;rw [Xc h1.o0 h1.o1] at e2;rw [Xc h2.o0 h2.o1] at e3;rw [FM] at e0
  exact ⟨by omega,h3.o0,h3.o1⟩
theorem vx (h0:KM (Qb a 0) (Qb b 0) 0 s0 o0) (h1:KM (Qb a 1) (Qb b 1) o0 s1 o1) (h2:KM (Qb a 2) (Qb b 2) o1 s2 o2) (h3:KM (Qb a 3) (Qb b 3) o2 s3 o3):
    QB (.agg #[.int .u64 s0, .int .u64 s1, .int .u64 s2, .int .u64 s3]) - o3*115792089237316195423570985008687907853269984665640564039457584007913129639936=QB (vI a) - QB (vI b)/\0<=o3/\o3<=1:=by
  rw [dV,zH a,zH b]
  have e0:=h0.eq;have e1:=h1.eq;have e2:=h2.eq;have e3:=h3.eq
  rw [Xc h0.o0 h0.o1] at e1;rw [Xc h1.o0 h1.o1] at e2;rw [Xc h2.o0 h2.o1] at e3;rw [FM] at e0
  exact ⟨by omega,h3.o0,h3.o1⟩
theorem Gg (h0:XB (Qb a 0) (Qb b 0) 0 s0 o0) (h1:XB (Qb a 1) (Qb b 1) o0 s1 o1) (h2:XB (Qb a 2) (Qb b 2) o1 s2 o2) (h3:XB (Qb a 3) (Qb b 3) o2 s3 o3) (hc:(o3 !=0)=true):
    XI (QB (vI a)) (QB (vI b))=(0,2):=by
  have h:=BX h0 h1 h2 h3
  have r:=X6 h0.s h1.s h2.s h3.s
  have hc:o3≠0:=by simpa using hc
  unfold XI;unfold R4 at r;rw [if_neg (by omega)]
theorem W4 (h0:XB (Qb a 0) (Qb b 0) 0 s0 o0) (h1:XB (Qb a 1) (Qb b 1) o0 s1 o1) (h2:XB (Qb a 2) (Qb b 2) o1 s2 o2) (h3:XB (Qb a 3) (Qb b 3) o2 s3 o3) (hc:(o3 !=0)=false):
    XI (QB (vI a)) (QB (vI b))=(QB (.agg #[.int .u64 s0, .int .u64 s1, .int .u64 s2, .int .u64 s3]),0):=by
  have h:=BX h0 h1 h2 h3
  have r:=X6 h0.s h1.s h2.s h3.s
  have hc:o3=0:=by simpa using hc
  unfold XI;unfold R4 at r;rw [if_pos (by omega)];rw [←h.1,hc];simp
theorem HQ (h0:KM (Qb a 0) (Qb b 0) 0 s0 o0) (h1:KM (Qb a 1) (Qb b 1) o0 s1 o1) (h2:KM (Qb a 2) (Qb b 2) o1 s2 o2) (h3:KM (Qb a 3) (Qb b 3) o2 s3 o3) (hc:(o3 !=0)=true):
    Yb (QB (vI a)) (QB (vI b))=(0,2):=by
  have h:=vx h0 h1 h2 h3
  have r:=X6 h0.s h1.s h2.s h3.s
  have hc:o3≠0:=by simpa using hc
  unfold Yb;unfold R4 at r;rw [if_neg (by omega)]
theorem HJ (h0:KM (Qb a 0) (Qb b 0) 0 s0 o0) (h1:KM (Qb a 1) (Qb b 1) o0 s1 o1) (h2:KM (Qb a 2) (Qb b 2) o1 s2 o2) (h3:KM (Qb a 3) (Qb b 3) o2 s3 o3) (hc:(o3 !=0)=false):
    Yb (QB (vI a)) (QB (vI b))=(QB (.agg #[.int .u64 s0, .int .u64 s1, .int .u64 s2, .int .u64 s3]),0):=by
  have h:=vx h0 h1 h2 h3
  have r:=X6 h0.s h1.s h2.s h3.s
  have hc:o3=0:=by simpa using hc
  unfold Yb;unfold R4 at r;rw [if_pos (by omega)];rw [←h.1,hc];simp
end
theorem X5 {x y h l s o t:Int} (m:H3 x y h l) (hx:W x) (hy:W y) (a:XB l t 0 s o):W (h+o):=by
  have e:=m.eq
  have h1:x*y<=18446744073709551615*18446744073709551615:=Int.mul_le_mul (by have:=hx.2;omega) (by have:=hy.2;omega) hy.1 (by decide)
  have:=m.l.1;have:=m.h.1;have:=a.o0;have:=a.o1
  unfold W;omega
end Go.Sx
namespace Go.Sx
section
variable {a b o w z:Int} {x y:Int×Int}
theorem kB {n:Int} (h:(n !=0)=false):n=0:=by simpa using h
theorem B7 {n:Int} (h:(n !=0)=true):n≠0:=by simpa using h
theorem bo (hb:R4 b):a*b=a*Qb b 0+18446744073709551616*(a*Qb b 1)+340282366920938463463374607431768211456*(a*Qb b 2)+6277101735386680763835789423207666416102355444464034512896*(a*Qb b 3):=by
  have e:=zH b
  rw [Qj hb] at e
  conv=>lhs;rw [e]
  rw [Int.mul_add,Int.mul_add,Int.mul_add,Int.mul_left_comm a,Int.mul_left_comm a,Int.mul_left_comm a]
end
end Go.Sx
namespace Go.Sx
theorem dm (n:Int):Qb n 4=n/115792089237316195423570985008687907853269984665640564039457584007913129639936%18446744073709551616:=by simp [Qb]
theorem QbJ (n:Int):Qb n 5=n/2135987035920910082395021706169552114602704522356652769947041607822219725780640550022962086936576%18446744073709551616:=by simp [Qb]
theorem Qa6 (n:Int):Qb n 6=n/39402006196394479212279040100143613805079739270465446667948293404245721771497210611414266254884915640806627990306816%18446744073709551616:=by simp [Qb]
theorem Qbw (n:Int):Qb n 7=n/726838724295606890549323807888004534353641360687318060281490199180639288113397923326191050713763565560762521606266177933534601628614656%18446744073709551616:=by simp [Qb]
theorem W5 (a b c d e f g h:Int):QB (.agg #[.int .u64 a, .int .u64 b, .int .u64 c, .int .u64 d, .int .u64 e, .int .u64 f, .int .u64 g, .int .u64 h])=a+18446744073709551616*(b+18446744073709551616*(c+18446744073709551616*(d+18446744073709551616*(e+18446744073709551616*(f+18446744073709551616*(g+18446744073709551616*(h+18446744073709551616*0))))))):=rfl
theorem BK (n:Int):QB (vW n)=n%13407807929942597099574024998205846127479365820592393377723561443721764030073546976801874298166903427690031858186486050853753882811946569946433649006084096:=by
  show QB (.agg _)=_
  rw [W5,FJ,GO,GE,Ft,dm,QbJ,Qa6,Qbw];omega
theorem YH {n:Int} (h:R8 n):QB (vW n)=n:=by rw [BK];unfold R8 at h;omega
theorem pB (n:Int):R8 (QB (vW n)):=by rw [BK];unfold R8;omega
theorem qq {a b c d e f g h:Int} (ha:W a) (hb:W b) (hc:W c) (hd:W d) (he:W e) (hf:W f) (hg:W g) (hh:W h):
    vW (QB (.agg #[.int .u64 a, .int .u64 b, .int .u64 c, .int .u64 d, .int .u64 e, .int .u64 f, .int .u64 g, .int .u64 h]))= .agg #[.int .u64 a, .int .u64 b, .int .u64 c, .int .u64 d, .int .u64 e, .int .u64 f, .int .u64 g, .int .u64 h]:=by
  unfold W at *
  have e: ∀n,n=QB (.agg #[.int .u64 a, .int .u64 b, .int .u64 c, .int .u64 d, .int .u64 e, .int .u64 f, .int .u64 g, .int .u64 h])->Qb n 0=a/\Qb n 1=b/\Qb n 2=c/\Qb n 3=d/\Qb n 4=e/\Qb n 5=f/\Qb n 6=g/\Qb n 7=h:=by
    intro n hn;rw [W5] at hn;rw [FJ,GO,GE,Ft,dm,QbJ,Qa6,Qbw]
    refine ⟨?_,?_,?_,?_,?_,?_,?_,?_⟩<;>omega
  obtain ⟨e0,e1,e2,e3,e4,e5,e6,e7⟩:=e _ rfl
  unfold vW;rw [e0,e1,e2,e3,e4,e5,e6,e7]
theorem xq {a b c d e f g h:Int} (ha:W a) (hb:W b) (hc:W c) (hd:W d) (he:W e) (hf:W f) (hg:W g) (hh:W h):
    R8 (QB (.agg #[.int .u64 a, .int .u64 b, .int .u64 c, .int .u64 d, .int .u64 e, .int .u64 f, .int .u64 g, .int .u64 h])):=by
  rw [W5];unfold W at *;unfold R8;omega
theorem Qbb:vW 0= .agg #[.int .u64 0, .int .u64 0, .int .u64 0, .int .u64 0, .int .u64 0, .int .u64 0, .int .u64 0, .int .u64 0]:=by
  unfold vW;rw [FJ,GO,GE,Ft,dm,QbJ,Qa6,Qbw];rfl
theorem QbC {a y:Int}:QB (vI a)*y=Qb a 0*y+18446744073709551616*(Qb a 1*y)+340282366920938463463374607431768211456*(Qb a 2*y)+6277101735386680763835789423207666416102355444464034512896*(Qb a 3*y):=by
  rw [zH a,Int.add_mul,Int.add_mul,Int.add_mul,Int.mul_assoc,Int.mul_assoc,Int.mul_assoc]
structure XQ (Z2 new:Int) (a y:Int) (s0 s1 s2 s3 s4:Int):Prop where
  eq:new=Z2+a*y
  w0:W s0
  w1:W s1
  w2:W s2
  w3:W s3
  w4:W s4
theorem Zx {x y h l o s c t u d:Int} (m:H3 x y h l) (hx:W x) (hy:W y) (a:XB l o 0 s c) (ho:W o) (b:XB t s 0 u d) (ht:W t):
    W (h+c)/\W (h+c+d)/\u+(h+c+d)*18446744073709551616=t+x*y+o:=by
  have e:=m.eq
  have h1:x*y<=18446744073709551615*18446744073709551615:=Int.mul_le_mul (by have:=hx.2;omega) (by have:=hy.2;omega) hy.1 (by decide)
  have:=m.l;have:=m.h;have:=a.o0;have:=a.o1;have:=b.o0;have:=b.o1;have:=a.s;have:=b.s
  have e1:=a.eq;have e2:=b.eq
  rw [FM] at e1 e2
  unfold W at *;omega
theorem qI {a y t0 t1 t2 t3 u0 u1 u2 u3 o0 o1 o2 o3:Int} (h0:u0+o0*18446744073709551616=t0+Qb a 0*y+0) (h1:u1+o1*18446744073709551616=t1+Qb a 1*y+o0)
    (h2:u2+o2*18446744073709551616=t2+Qb a 2*y+o1) (h3:u3+o3*18446744073709551616=t3+Qb a 3*y+o2) (w0:W u0) (w1:W u1) (w2:W u2) (w3:W u3) (w4:W o3):
    XQ (t0+18446744073709551616*t1+340282366920938463463374607431768211456*t2+6277101735386680763835789423207666416102355444464034512896*t3) (u0+18446744073709551616*u1+340282366920938463463374607431768211456*u2+6277101735386680763835789423207666416102355444464034512896*u3+115792089237316195423570985008687907853269984665640564039457584007913129639936*(0+o3)) (QB (vI a)) y u0 u1 u2 u3 (0+o3):=
  ⟨by rw [QbC];omega,w0,w1,w2,w3,by rw [Int.zero_add];exact w4⟩
theorem qS {a y t0 t1 t2 t3:Int} (hy:W y) (h0:W t0) (h1:W t1) (h2:W t2) (h3:W t3): ∃x:Int×Int×Int×Int×Int,
    (fun J=>XQ (t0+18446744073709551616*t1+340282366920938463463374607431768211456*t2+6277101735386680763835789423207666416102355444464034512896*t3) (J.1+18446744073709551616*J.2.1+340282366920938463463374607431768211456*J.2.2.1+6277101735386680763835789423207666416102355444464034512896*J.2.2.2.1+115792089237316195423570985008687907853269984665640564039457584007913129639936*J.2.2.2.2) (QB (vI a)) y J.1 J.2.1 J.2.2.1 J.2.2.2.1 J.2.2.2.2) x:=by
  have hr:=ZA a
  have b0:=Int.mul_nonneg hr.1 hy.1
  have b1:QB (vI a)*y<=115792089237316195423570985008687907853269984665640564039457584007913129639935*18446744073709551615:=Int.mul_le_mul (by have:=hr.2;omega) (by have:=hy.2;omega) hy.1 (by decide)
  obtain ⟨n,hn⟩: ∃n,n=t0+18446744073709551616*t1+340282366920938463463374607431768211456*t2+6277101735386680763835789423207666416102355444464034512896*t3+QB (vI a)*y:=⟨_,rfl⟩
  refine ⟨(Qb n 0,Qb n 1,Qb n 2,Qb n 3,Qb n 4),?_,Qi _ _,Qi _ _,Qi _ _,Qi _ _,Qi _ _⟩
  dsimp only
  rw [FJ,GO,GE,Ft,dm];unfold W at *
  generalize QB (vI a)*y=p at *
  omega
theorem pC {a b:Int} {t00 t01 t02 t03 t04 t10 t11 t12 t13 t14 t20 t21 t22 t23 t24 t30 t31 t32 t33 t34:Int}
    (h0:XQ (0+18446744073709551616*0+340282366920938463463374607431768211456*0+6277101735386680763835789423207666416102355444464034512896*0) (t00+18446744073709551616*t01+340282366920938463463374607431768211456*t02+6277101735386680763835789423207666416102355444464034512896*t03+115792089237316195423570985008687907853269984665640564039457584007913129639936*t04) a (Qb b 0) t00 t01 t02 t03 t04)
    (h1:XQ (t01+18446744073709551616*t02+340282366920938463463374607431768211456*t03+6277101735386680763835789423207666416102355444464034512896*t04) (t10+18446744073709551616*t11+340282366920938463463374607431768211456*t12+6277101735386680763835789423207666416102355444464034512896*t13+115792089237316195423570985008687907853269984665640564039457584007913129639936*t14) a (Qb b 1) t10 t11 t12 t13 t14)
    (h2:XQ (t11+18446744073709551616*t12+340282366920938463463374607431768211456*t13+6277101735386680763835789423207666416102355444464034512896*t14) (t20+18446744073709551616*t21+340282366920938463463374607431768211456*t22+6277101735386680763835789423207666416102355444464034512896*t23+115792089237316195423570985008687907853269984665640564039457584007913129639936*t24) a (Qb b 2) t20 t21 t22 t23 t24)
    (h3:XQ (t21+18446744073709551616*t22+340282366920938463463374607431768211456*t23+6277101735386680763835789423207666416102355444464034512896*t24) (t30+18446744073709551616*t31+340282366920938463463374607431768211456*t32+6277101735386680763835789423207666416102355444464034512896*t33+115792089237316195423570985008687907853269984665640564039457584007913129639936*t34) a (Qb b 3) t30 t31 t32 t33 t34)
    (hb:R4 b):QB (.agg #[.int .u64 t00, .int .u64 t10, .int .u64 t20, .int .u64 t30, .int .u64 t31, .int .u64 t32, .int .u64 t33, .int .u64 t34])=a*b:=by
  rw [W5,bo hb]
  have e0:=h0.eq;have e1:=h1.eq;have e2:=h2.eq;have e3:=h3.eq
  omega
theorem DM {a b:Int} (ha:R4 a) (hb:R4 b):R8 (a*b):=by
  have h0:=Int.mul_nonneg ha.1 hb.1
  have h1:a*b<=115792089237316195423570985008687907853269984665640564039457584007913129639935*115792089237316195423570985008687907853269984665640564039457584007913129639935:=Int.mul_le_mul (by have:=ha.2;omega) (by have:=hb.2;omega) hb.1 (by decide)
  exact ⟨h0,by omega⟩
end Go.Sx
namespace Go.Sx
theorem qe {x p q:Int} (hpq:p*q=18446744073709551616):x*p%18446744073709551616=(x - q*(x*p/18446744073709551616))*p:=by
  have e:18446744073709551616*(x*p/18446744073709551616)=q*(x*p/18446744073709551616)*p:=by
    rw [←hpq,Int.mul_right_comm q _ p,Int.mul_comm q p]
  rw [Int.sub_mul,←e];omega
theorem pw2 {s:Int} (h0:0<=s) (h1:s<=63):(2:Int)^s.toNat*2^(64 - s).toNat=18446744073709551616:=by
  rw [←Int.pow_add,show s.toNat+(64 - s).toNat=64 from by omega];rfl
theorem Je {x l s:Int} (h0:0<=s) (h1:s<=63) (hx:W x) (hl:W l):
    IntKind.u64.wrap (((BitVec.ofInt 64 (IntKind.u64.wrap (x*2^(min (Int.toNat s) 64))) ||| BitVec.ofInt 64 (Int.fdiv l (2^(min (Int.toNat (64 - s)) 64))):BitVec 64).toNat:Nat):Int)=x*2^s.toNat%18446744073709551616+l/2^(64 - s).toNat:=by
  have m1:min (Int.toNat s) 64=s.toNat:=Nat.min_eq_left (by omega)
  have m2:min (Int.toNat (64 - s)) 64=(64 - s).toNat:=Nat.min_eq_left (by omega)
  rw [m1,m2,Z8 (x*2^s.toNat)]
  have hp:=XE s.toNat
  have hq:=XE (64 - s).toNat
  have hpq:=pw2 h0 h1
  rw [Int.fdiv_eq_ediv_of_nonneg _ (by omega)]
  have e:=qe (x:=x) hpq
  have r0:0<=x*2^s.toNat%18446744073709551616:=Int.emod_nonneg _ (by decide)
  have r1:x*2^s.toNat%18446744073709551616<18446744073709551616:=Int.emod_lt_of_pos _ (by decide)
  have b0:0<=l/2^(64 - s).toNat:=Int.ediv_nonneg hl.1 (by omega)
  have b1:l/2^(64 - s).toNat<2^s.toNat:=by rw [Int.ediv_lt_iff_lt_mul hq,hpq];exact hl.2
  rw [e] at r0 r1 ⊢
  have hc:0<=x - 2^(64 - s).toNat*(x*2^s.toNat/18446744073709551616):=by
    rcases Int.lt_or_le (x - 2^(64 - s).toNat*(x*2^s.toNat/18446744073709551616)) 0 with h | h
    · have:=Int.mul_neg_of_neg_of_pos h hp
      omega
    · exact h
  exact W9 s.toNat (by omega) hc b0 b1 r1
end Go.Sx
namespace Go.Sx
def QP (c:Array Value) (j:Nat):List Value->Array Value
  | []=>c
  | v::vs=>QP (c.setIfInBounds j v) (j+1) vs
theorem QG (vs:List Value): ∀ (c:Array Value) (j:Nat),(QP c j vs).size=c.size:=by
  induction vs with
  | nil=>intro c j;rfl
  | cons v vs ih=>intro c j;rw [QP,ih,Array.size_setIfInBounds]
theorem gs {c:Array Value} {m n:Nat} {x v:Value} (h:c[m]? =some x) (hne:n≠m):(c.setIfInBounds n v)[m]? =some x:=by
  rw [Array.getElem?_setIfInBounds_ne hne];exact h
theorem GQ (vs:List Value): ∀ (c:Array Value) (j i:Nat),i<j->(QP c j vs)[i]? =c[i]? :=by
  induction vs with
  | nil=>intro c j i _;rfl
  | cons v vs ih=>intro c j i h;rw [QP,ih _ _ _ (by omega),Array.getElem?_setIfInBounds_ne (by omega)]
theorem Zb (vs:List Value): ∀ (c:Array Value) (j i:Nat) (x:Value),j+vs.length<=c.size->vs[i]? =some x->(QP c j vs)[j+i]? =some x:=by
  induction vs with
  | nil=>intro c j i x _ h;simp at h
  | cons v vs ih =>
    intro c j i x hs h
    rw [List.length_cons] at hs
    rw [QP]
    cases i with
    | zero =>
      rw [GQ _ _ _ _ (by omega)]
      simp at h;subst h
      rw [Nat.add_zero,Array.getElem?_setIfInBounds_self_of_lt (by omega)]
    | succ i =>
      rw [show j+(i+1)=(j+1)+i from by omega]
      exact ih _ _ _ _ (by rw [Array.size_setIfInBounds];omega) (by simpa using h)
theorem gD (vs:List Value): ∀ (c:Array Value) (j i:Nat) (x:Value),i<j->QP (c.setIfInBounds i x) j vs=(QP c j vs).setIfInBounds i x:=by
  induction vs with
  | nil=>intro c j i x _;rfl
  | cons v vs ih =>
    intro c j i x h
    rw [QP,QP,←ih _ _ _ _ (by omega),Array.setIfInBounds_comm _ _ (by omega)]
theorem X2 (vs:List Value): ∀ (ws:List Value) (c:Array Value) (j:Nat),ws.length=vs.length->QP (QP c j ws) j vs=QP c j vs:=by
  induction vs with
  | nil => intro ws c j h; cases ws with
    | nil=>rfl
    | cons=>simp at h
  | cons v vs ih =>
    intro ws c j h
    cases ws with
    | nil=>simp at h
    | cons u us =>
      rw [QP,QP,QP,←gD us _ _ j v (by omega),Array.setIfInBounds_setIfInBounds]
      exact ih _ _ _ (by simpa using h)
theorem ZW (n:Nat):Jf (0,0) n=false:=by simp [Jf]
structure ZV (U V q R:Int):Prop where
  eq:q*V+R=U
  r0:0<=R
  r1:R<V
  wq:W q
theorem BW {U V:Int} (h0:0<=U) (h1:U<V*18446744073709551616) (hV:0<V):ZV U V (U/V) (U%V):=by
  refine ⟨by rw [Int.mul_comm];exact Int.mul_ediv_add_emod _ _,Int.emod_nonneg _ (by omega),Int.emod_lt_of_pos _ hV,Int.ediv_nonneg h0 (by omega),?_⟩
  rw [Int.ediv_lt_iff_lt_mul hV,Int.mul_comm];exact h1
structure ZO (U V g:Int):Prop where
  w:W g
  lt:U - g*V<V
theorem VD {U V:Int} (h:U<V*18446744073709551616):ZO U V 18446744073709551615:=
  ⟨⟨by decide,by decide⟩,by omega⟩
theorem VE {U V hi lo v q r p l:Int} (h:q*v+r=hi*18446744073709551616+lo) (r1:r<v) (wq:W q) (hp:0<p) (hU:U<(hi*18446744073709551616+lo+1)*p) (hV:V=v*p+l) (l0:0<=l):ZO U V q:=by
  refine ⟨wq,?_⟩
  have a:(hi*18446744073709551616+lo+1)*p<=(q+1)*v*p:=by
    apply Int.mul_le_mul_of_nonneg_right _ (by omega)
    rw [Int.add_mul];omega
  have b:0<=(q+1)*l:=Int.mul_nonneg (by have:=wq.1;omega) l0
  have c:(q+1)*V=(q+1)*v*p+(q+1)*l:=by rw [hV,Int.mul_add,Int.mul_assoc]
  rw [Int.add_mul q 1 V] at c
  omega
structure ZU (U V P g c D:Int):Prop where
  w:W g
  c0:0<=c
  c1:c<=1
  eq:g*V+(D - c*P)=U
  lt:D - c*P<V
theorem JH {U V P g c D c' D' k:Int} (h:ZU U V P g c D) (hc:(c==(0:Int))=false) (hU:0<=U) (hD:D<P) (hk:D' +k*P=D+V) (hD' :0<=D') (hD1:D' <P) (k0:0<=k) (k1:k<=1)
    (hV:0<V) (hc' :c' =IntKind.u64.wrap (c - k)):ZU U V P (IntKind.u64.wrap (g - 1)) c' D' /\(IntKind.u64.wrap (g - 1)).toNat<g.toNat:=by
  obtain ⟨w,c0,c1,eq,lt⟩:=h
  have c2:c=1:=by
    have:c≠0:=by simpa using hc
    omega
  subst c2
  have g1:1<=g:=by
    rcases Int.lt_or_le g 1 with h | h
    · have:g=0:=by have:=w.1;omega
      subst this;omega
    · exact h
  have:=w.2
  rw [QL (a:=1 - k) ⟨by omega,by omega⟩] at hc'
  rw [QL (a:=g - 1) ⟨by omega,by omega⟩]
  subst hc'
  have e:(1 - k)*P=P - k*P:=by rw [Int.sub_mul,Int.one_mul]
  refine ⟨⟨⟨by omega,by omega⟩,by omega,by omega,?_,?_⟩,by omega⟩
  · rw [e,Int.sub_mul g 1 V];omega
  · rw [e];omega
theorem JC {U V P g c D:Int} (h:ZU U V P g c D) (hc:(c==(0:Int))=true) (hD:0<=D):ZV U V g D:=by
  have:c=0:=by simpa using hc
  subst this
  have h1:=h.eq;have h2:=h.lt
  rw [Int.zero_mul] at h1 h2
  exact ⟨by omega,hD,by omega,h.w⟩
end Go.Sx
