/- A part of the prover's own frame for walking code (see the claim's other texts). -/
import Derived.RangeFuncIn
import Derived.RangeFuncCalls
import Derived.Below
import Derived.Defers
import Derived.KernelRfl
import Derived.Scope
import Derived.Tactics
import Derived.Tactics2
import Derived.Laws.StructEq
import Derived.ArgAppend
import Derived.Laws.MakeOwn
import Derived.Laws.Slices
set_option linter.unusedVariables false
set_option linter.unusedSimpArgs false
namespace Go.Sx
open Go.RowKit
abbrev Hl:=Nat->Option Obj
abbrev HP:=Hl->Prop
def Hl.disj (p q:Hl):Prop:= ∀b,p b=none∨q b=none
def Hl.inw (p:Hl) (w:World):Prop:= ∀b o,p b=some o->w.heap[b]? =some o
structure Ent where
  g:FuncId
  b:Nat
  key:Value
  was:Option Value
  z:Value
  t1:TypeId
  t2:TypeId
  t3:TypeId
  t4:TypeId
inductive Dat where
  | none
  | nat (n:Nat)
  | int (n:Int)
  | val (v:Value)
  | vals (l:List Value)
  | kv (m:List (Value×Value))
  | ents (L:List Ent)
  | wld (w:World)
  | list (l:List Dat)
inductive Slot where
  | free
  | blk (b:Nat) (o:Obj)
  | par (ns:List Nat) (d:Dat) (A:HP)
def Slot.sat:Slot->HP
  | .free,p=> ∀b,p b=none
  | .blk b o,p=>p b=some o/\ ∀c,c≠b->p c=none
  | .par _ _ A,p=>A p
abbrev Hp:=Nat->Slot
def upd {α:Type _} (H:Nat->α) (i:Nat) (s:α):Nat->α:=fun j=>bif Nat.beq j i then s else H j
theorem beq_no {i j:Nat} (h:j≠i):Nat.beq j i=false:=by
  cases e:Nat.beq j i with
  | false=>rfl
  | true=>exact absurd (Nat.eq_of_beq_eq_true e) h
theorem upd_same {α:Type _} (H:Nat->α) (i:Nat) (s:α):upd H i s i=s:=by simp [upd]
theorem upd_other {α:Type _} (H:Nat->α) {i j:Nat} (s:α) (h:j≠i):upd H i s j=H j:=by
  have:Nat.beq j i=false:=beq_no h
  simp [upd,this]
theorem upd_comm {α:Type _} (H:Nat->α) {i j:Nat} (s t:α) (h:i≠j):upd (upd H i s) j t=upd (upd H j t) i s:=by
  funext k
  by_cases h1:k=i
  · subst h1;rw [upd_other _ _ h,upd_same,upd_same]
  · by_cases h2:k=j
    · subst h2;rw [upd_same,upd_other _ _ h1,upd_same]
    · rw [upd_other _ _ h2,upd_other _ _ h1,upd_other _ _ h1,upd_other _ _ h2]
def Own (H:Hp) (R:HP) (w:World):Prop:=
  ∃ (p:Nat->Hl) (q:Hl),(∀i,(H i).sat (p i))/\R q/\(∀i,(p i).inw w)/\q.inw w/\(∀i j,i≠j->(p i).disj (p j))/\(∀i,(p i).disj q)
theorem Own.block {H:Hp} {R:HP} {w:World} (h:Own H R w) {i b:Nat} {o:Obj} (hi:H i= .blk b o):w.heap[b]? =some o:=by
  obtain ⟨p,q,hs,-,hp,-⟩:=h
  have:=hs i
  rw [hi] at this
  exact hp i b o this.1
theorem Own.mono {H:Hp} {R R' :HP} {w:World} (h:Own H R w) (hr: ∀q,R q->R' q):Own H R' w:=by
  obtain ⟨p,q,hs,hq,r⟩:=h
  exact ⟨p,q,hs,hr q hq,r⟩
theorem Own.same {H:Hp} {R:HP} {w w' :World} (h:Own H R w) (he: ∀ (b:Nat) (o:Obj),w.heap[b]? =some o->w'.heap[b]? =some o):Own H R w' :=by
  obtain ⟨p,q,hs,hq,hp,hqw,hd⟩:=h
  exact ⟨p,q,hs,hq,fun i b o hb=>he b o (hp i b o hb),fun b o hb=>he b o (hqw b o hb),hd⟩
theorem Own.free {H:Hp} {R:HP} {w:World} (h:Own H R w) (i:Nat):Own (upd H i .free) R w:=by
  obtain ⟨p,q,hs,hq,hp,hqw,hd,hdq⟩:=h
  refine ⟨upd p i (fun _=>none),q,fun j=> ?_,hq,fun j=> ?_,hqw,fun j k hjk=> ?_,fun j=> ?_⟩
  · by_cases e:j=i
    · subst e;rw [upd_same,upd_same];exact fun _=>rfl
    · rw [upd_other _ _ e,upd_other _ _ e];exact hs j
  · by_cases e:j=i
    · subst e;rw [upd_same];intro b o hb;simp at hb
    · rw [upd_other _ _ e];exact hp j
  · by_cases e:j=i
    · subst e;rw [upd_same];exact fun _=> .inl rfl
    · rw [upd_other _ _ e]
      by_cases e' :k=i
      · subst e';rw [upd_same];exact fun _=> .inr rfl
      · rw [upd_other _ _ e'];exact hd j k hjk
  · by_cases e:j=i
    · subst e;rw [upd_same];exact fun _=> .inl rfl
    · rw [upd_other _ _ e];exact hdq j
theorem Own.set {H : Hp} {R : HP} {w w' : World} (h : Own H R w) {i b : Nat} {o o' : Obj} (hi : H i = .blk b o)
    (hb:w'.heap[b]? =some o') (hn: ∀c,c≠b->w'.heap[c]? =w.heap[c]?):Own (upd H i (.blk b o')) R w' :=by
  obtain ⟨p,q,hs,hq,hp,hqw,hd,hdq⟩:=h
  have hsi:=hs i
  rw [hi] at hsi
  have away: ∀ (r:Hl),(p i).disj r->r b=none:=fun r hr=>(hr b).resolve_left (by rw [hsi.1];simp)
  refine ⟨upd p i (fun c=>bif Nat.beq c b then some o' else none),q,fun j=> ?_,hq,fun j=> ?_,?_,fun j k hjk=> ?_,fun j=> ?_⟩
  · by_cases e:j=i
    · subst e;rw [upd_same,upd_same]
      refine ⟨by simp,fun c hc=> ?_⟩
      have:Nat.beq c b=false:=beq_no hc
      simp [this]
    · rw [upd_other _ _ e,upd_other _ _ e];exact hs j
  · by_cases e:j=i
    · subst e;rw [upd_same]
      intro c x hx
      by_cases hc:c=b
      · subst hc;simp at hx;subst hx;exact hb
      · have:Nat.beq c b=false:=beq_no hc
        simp [this] at hx
    · rw [upd_other _ _ e]
      intro c x hx
      have hc:c≠b:=fun hc=>by
        subst hc
        have:=away (p j) (hd i j (Ne.symm e))
        rw [this] at hx;cases hx
      rw [hn c hc];exact hp j c x hx
  · intro c x hx
    have hc:c≠b:=fun hc=>by
      subst hc
      have:=away q (hdq i)
      rw [this] at hx;cases hx
    rw [hn c hc];exact hqw c x hx
  · have key: ∀r:Hl,(p i).disj r->Hl.disj (fun c=>bif Nat.beq c b then some o' else none) r:=by
      intro r hr c
      by_cases hc:c=b
      · subst hc;exact .inr (away r hr)
      · have:Nat.beq c b=false:=beq_no hc
        exact .inl (by simp [this])
    by_cases e:j=i
    · subst e;rw [upd_same,upd_other _ _ (Ne.symm hjk)];exact key _ (hd j k hjk)
    · rw [upd_other _ _ e]
      by_cases e' :k=i
      · subst e';rw [upd_same];exact fun c=>(key _ (hd k j (Ne.symm hjk)) c).symm
      · rw [upd_other _ _ e'];exact hd j k hjk
  · by_cases e:j=i
    · subst e;rw [upd_same]
      intro c
      by_cases hc:c=b
      · subst hc;exact .inr (away q (hdq j))
      · have:Nat.beq c b=false:=beq_no hc
        exact .inl (by simp [this])
    · rw [upd_other _ _ e];exact hdq j
theorem Own.new {H : Hp} {R : HP} {w w' : World} (h : Own H R w) {i : Nat} {o : Obj}
    (hb:w'.heap[w.heap.size]? =some o) (hn: ∀c,c<w.heap.size->w'.heap[c]? =w.heap[c]?):Own (upd H i (.blk w.heap.size o)) R w' :=by
  obtain ⟨p,q,hs,hq,hp,hqw,hd,hdq⟩:=h
  have old: ∀ (r:Hl),r.inw w->r w.heap.size=none:=fun r hr=>by
    cases hx:r w.heap.size with
    | none=>rfl
    | some x=>have:=hr _ _ hx;simp at this
  have keep: ∀ (r:Hl),r.inw w->r.inw w' :=fun r hr c x hx=>by
    have hlt:c<w.heap.size:=by
      have:=hr c x hx
      rcases Nat.lt_or_ge c w.heap.size with h | h
      · exact h
      · simp [Array.getElem?_eq_none h] at this
    rw [hn c hlt];exact hr c x hx
  have key: ∀r:Hl,r.inw w->Hl.disj (fun c=>bif Nat.beq c w.heap.size then some o else none) r:=fun r hr c=>by
    by_cases hc:c=w.heap.size
    · subst hc;exact .inr (old r hr)
    · have:Nat.beq c w.heap.size=false:=beq_no hc
      exact .inl (by simp [this])
  refine ⟨upd p i (fun c=>bif Nat.beq c w.heap.size then some o else none),q,fun j=> ?_,hq,fun j=> ?_,keep q hqw,fun j k hjk=> ?_,fun j=> ?_⟩
  · by_cases e:j=i
    · subst e;rw [upd_same,upd_same]
      refine ⟨by simp,fun c hc=> ?_⟩
      have:Nat.beq c w.heap.size=false:=beq_no hc
      simp [this]
    · rw [upd_other _ _ e,upd_other _ _ e];exact hs j
  · by_cases e:j=i
    · subst e;rw [upd_same]
      intro c x hx
      by_cases hc:c=w.heap.size
      · subst hc;simp at hx;subst hx;exact hb
      · have:Nat.beq c w.heap.size=false:=beq_no hc
        simp [this] at hx
    · rw [upd_other _ _ e];exact keep _ (hp j)
  · by_cases e:j=i
    · subst e;rw [upd_same,upd_other _ _ (Ne.symm hjk)];exact key _ (hp k)
    · rw [upd_other _ _ e]
      by_cases e' :k=i
      · subst e';rw [upd_same];exact fun c=>(key _ (hp j) c).symm
      · rw [upd_other _ _ e'];exact hd j k hjk
  · by_cases e:j=i
    · subst e;rw [upd_same];exact key _ hqw
    · rw [upd_other _ _ e];exact hdq j
structure Ext (w w' :World):Prop where
  os:w'.os=w.os
  tape:w'.tape=w.tape
  output:w'.output=w.output
  size:w.heap.size<=w'.heap.size
  drawn:w.drawn<=w'.drawn
theorem Ext.refl (w:World):Ext w w:=⟨rfl,rfl,rfl,Nat.le_refl _,by first | exact Nat.le_refl _ | exact Nat.le_succ _ | simp⟩
theorem Ext.trans {a b c:World} (h:Ext a b) (k:Ext b c):Ext a c:=⟨k.os.trans h.os,k.tape.trans h.tape,k.output.trans h.output,Nat.le_trans h.size k.size,Nat.le_trans h.drawn k.drawn⟩
inductive Acc where
  | rd (i:Nat)
  | rv (i:Nat) (f:Addr->Array Value->Value)
  | wr (i:Nat)
  | ws (i:Nat)
  | nw (i:Nat)
  | ch
def notAgg:Value->Bool
  | .agg _ | .tuple _=>false
  | _=>true
def frz (f:Nat×Nat) (off:Nat):Bool:=f.1<=off && off<f.2
def isCells:Obj->Bool
  | .cells .. =>true
  | _=>false
def frozenObj (a:Addr) (n:Nat) (o:Obj):Obj:=
  if n=0 then o else
  match o with
  | .cells c elem (lo,hi)=> .cells c elem (if lo==hi then (a.off,a.off+n) else (min lo a.off,max hi (a.off+n)))
  | o=>o
def shapeOf:Obj->Option (TypeId×Nat)
  | .cells c e _=>some (e,c.size)
  | _=>none
def frozenAt (o:Obj) (off:Nat):Bool:=
  match o with
  | .cells _ _ f=>frz f off
  | _=>false
def symW (P : Program) {α : Type} : Sem α -> List Acc -> Hp -> (α -> Hp -> List Acc -> Prop) -> Prop
  | .pure a,acc,H,K=>K a H acc
  | .load _ a k, .rd i :: acc, H, K =>
    match H i with
    | .blk b (.cells c _ _)=>a.block=b/\a.spot=none/\(match c[a.off]? with | some v=>symW P (k v) acc H K | none=>False)
    | _=>False
  | .load _ a k, .rv i f :: acc, H, K =>
    match H i with
    | .blk b (.cells c _ _)=>a.block=b/\a.spot=none/\c[a.off]? =some (f a c)/\symW P (k (f a c)) acc H K
    | _=>False
  | .store _ a v k, .wr i :: acc, H, K =>
    match notAgg v with
    | false=>False
    | true =>
      match H i with
      | .blk b (.cells c t f)=>a.block=b/\a.spot=none/\
          (match Nat.blt a.off c.size,frz f a.off with | true,false=>symW P k acc (upd H i (.blk b (.cells (c.setIfInBounds a.off v) t f))) K | _,_=>False)
      | _=>False
  | .store _ a v k, .ws i :: acc, H, K =>
    match H i with
    | .blk b (.cells c t f)=>a.block=b/\a.spot=none/\notAgg v=true/\a.off<c.size/\frz f a.off=false/\
        symW P k acc (upd H i (.blk b (.cells (c.setIfInBounds a.off v) t f))) K
    | _=>False
  | .new o k, .nw i::acc,H,K=> ∀b,symW P (k b) acc (upd H i (.blk b o)) K
  | .shape r k, .rd i :: acc, H, K =>
    match H i with
    | .blk b o=>r=b/\symW P (k (shapeOf o)) acc H K
    | _=>False
  | .freeze a n k, .wr i :: acc, H, K =>
    match H i with
    | .blk b o=>a.block=b/\symW P k acc (upd H i (.blk b (frozenObj a n o))) K
    | _=>False
  | .frozen a k, .rd i :: acc, H, K =>
    match H i with
    | .blk b o=>a.block=b/\symW P (k (frozenAt o a.off)) acc H K
    | _=>False
  | .getObj r k, .rd i :: acc, H, K =>
    match H i with
    | .blk b o=>r=b/\(match isCells o with | true=>False | false=>symW P (k o) acc H K)
    | _=>False
  | .setObj r o k, .wr i :: acc, H, K =>
    match H i with
    | .blk b o' =>r=b/\(match isCells o' with | true=>False | false=>symW P k acc (upd H i (.blk b o)) K)
    | _=>False
  | .choose q k, .ch::acc,H,K=> ∀t,(q.forced=true->t=0)->(q.forced=false-> ∃u,t=q.cut u)->symW P (k t) acc H K
  | .program k,acc,H,K=>symW P (k P) acc H K
  | .mark _ k,acc,H,K=>symW P k acc H K
  | _,_,_,_=>False
theorem cell_of_block {w:World} {a:Addr} {c:Array Value} {t:TypeId} {f:Nat×Nat} (h:w.heap[a.block]? =some (.cells c t f)) (hs:a.spot=none):
    w.cell? a=c[a.off]? :=by simp [World.cell?,h,hs]
theorem frozen_of_block {w:World} {a:Addr} {o:Obj} (h:w.heap[a.block]? =some o):w.frozen? a=frozenAt o a.off:=by
  unfold World.frozen? frozenAt frz
  rw [h]
  cases o<;>rfl
theorem heap_modify_same {w:World} {b:Nat} {o:Obj} (g:Obj->Obj) (h:w.heap[b]? =some o):(w.heap.modify b g)[b]? =some (g o):=by
  simp [Array.getElem?_modify,h]
theorem heap_modify_other {w:World} {b c:Nat} (g:Obj->Obj) (h:c≠b):(w.heap.modify b g)[c]? =w.heap[c]? :=by
  rw [Array.getElem?_modify,if_neg (fun e=>h e.symm)]
theorem symW_sound {P : Program} {α : Type} (m : Sem α) : ∀ (acc : List Acc) (H : Hp) (K : α -> Hp -> List Acc -> Prop) (R : HP) (w : World),
    symW P m acc H K->Own H R w-> ∃a w' H' acc',m.run P w= .ok a w' /\K a H' acc' /\Own H' R w' /\Ext w w' :=by
  induction m with
  | pure a=>exact fun acc H K R w h ho=>⟨a,w,H,acc,rfl,h,ho, .refl _⟩
  | load m a k ih =>
    intro acc H K R w h ho
    match acc,h with
    | .rd i :: acc, h =>
      simp only [symW] at h
      cases hs:H i with
      | free=>rw [hs] at h;exact h.elim
      | par _ _ A=>rw [hs] at h;exact h.elim
      | blk b o =>
        rw [hs] at h
        cases o with
        | cells c t f =>
          obtain ⟨hb,hsp,h⟩:=h
          have hc:=cell_of_block (w:=w) (a:=a) (by rw [hb];exact ho.block hs) hsp
          cases hv:c[a.off]? with
          | none=>rw [hv] at h;exact h.elim
          | some v =>
            rw [hv] at h
            obtain ⟨x,w',H',acc',hr,r⟩:=ih v acc H K R w h ho
            exact ⟨x,w',H',acc',by simp only [Sem.run,hc,hv];exact hr,r⟩
        | _=>exact h.elim
    | .rv i g :: acc, h =>
      simp only [symW] at h
      cases hs:H i with
      | free=>rw [hs] at h;exact h.elim
      | par _ _ A=>rw [hs] at h;exact h.elim
      | blk b o =>
        rw [hs] at h
        cases o with
        | cells c t f =>
          obtain ⟨hb,hsp,hv,h⟩:=h
          have hc:=cell_of_block (w:=w) (a:=a) (by rw [hb];exact ho.block hs) hsp
          obtain ⟨x,w',H',acc',hr,r⟩:=ih _ acc H K R w h ho
          exact ⟨x,w',H',acc',by simp only [Sem.run,hc,hv];exact hr,r⟩
        | _=>exact h.elim
    | .wr _::_,h | .ws _::_,h | .nw _::_,h | .ch::_,h | [],h=>exact h.elim
  | store m a v k ih =>
    intro acc H K R w h ho
    have go: ∀ (i:Nat) (acc:List Acc) (b:Nat) (c:Array Value) (t:TypeId) (f:Nat×Nat),H i= .blk b (.cells c t f)->a.block=b->a.spot=none->notAgg v=true->a.off<c.size->frz f a.off=false->
        symW P k acc (upd H i (.blk b (.cells (c.setIfInBounds a.off v) t f))) K-> ∃a_1 w' H' acc',(Sem.store m a v k).run P w= .ok a_1 w' /\K a_1 H' acc' /\Own H' R w' /\Ext w w' :=by
      intro i acc b c t f hs hb hsp hv hlt hf h
      have hblk:w.heap[a.block]? =some (.cells c t f):=by rw [hb];exact ho.block hs
      have hc:=cell_of_block hblk hsp
      have hfz:w.frozen? a=false:=by rw [frozen_of_block hblk];exact hf
      have hv' :c[a.off]? =some c[a.off]:=Array.getElem?_eq_getElem hlt
      have hset:(w.setCell a v).heap[b]? =some (.cells (c.setIfInBounds a.off v) t f):=by
        simp only [World.setCell,hb]
        rw [heap_modify_same _ (by rw [←hb];exact hblk)]
        simp [hsp]
      have hoth: ∀x,x≠b->(w.setCell a v).heap[x]? =w.heap[x]? :=fun x hx=>by
        simp only [World.setCell,hb]
        exact heap_modify_other _ hx
      obtain ⟨x,w',H',acc',hr,hk,ho',he⟩:=ih acc _ K R _ h (ho.set hs hset hoth)
      refine ⟨x,w',H',acc',?_,hk,ho',?_⟩
      · cases v<;>simp [notAgg] at hv<;>simp only [Sem.run,hc,hv',hfz,Bool.false_eq_true,if_false]<;>exact hr
      · exact Ext.trans (b:=w.setCell a v) ⟨rfl,rfl,rfl,by simp [World.setCell],by first | exact Nat.le_refl _ | exact Nat.le_succ _ | simp⟩ he
    match acc,h with
    | .wr i :: acc, h =>
      simp only [symW] at h
      cases hv:notAgg v with
      | false=>rw [hv] at h;exact h.elim
      | true =>
        rw [hv] at h
        cases hs:H i with
        | free=>rw [hs] at h;exact h.elim
        | par _ _ A=>rw [hs] at h;exact h.elim
        | blk b o =>
          rw [hs] at h
          cases o with
          | cells c t f =>
            obtain ⟨hb,hsp,h⟩:=h
            cases hl:Nat.blt a.off c.size with
            | false=>rw [hl] at h;exact h.elim
            | true =>
              cases hf:frz f a.off with
              | true=>rw [hl,hf] at h;exact h.elim
              | false =>
                rw [hl,hf] at h
                exact go i acc b c t f hs hb hsp hv (by simpa [Nat.blt_eq] using hl) hf h
          | _=>exact h.elim
    | .ws i :: acc, h =>
      simp only [symW] at h
      cases hs:H i with
      | free=>rw [hs] at h;exact h.elim
      | par _ _ A=>rw [hs] at h;exact h.elim
      | blk b o =>
        rw [hs] at h
        cases o with
        | cells c t f =>
          obtain ⟨hb,hsp,hv,hlt,hf,h⟩:=h
          exact go i acc b c t f hs hb hsp hv hlt hf h
        | _=>exact h.elim
    | .rd _::_,h | .rv _ _::_,h | .nw _::_,h | .ch::_,h | [],h=>cases v<;>exact h.elim
  | new o k ih =>
    intro acc H K R w h ho
    match acc,h with
    | .nw i :: acc, h =>
      simp only [symW] at h
      have hnew:({ w with heap:=w.heap.push o }:World).heap[w.heap.size]? =some o:=by simp
      obtain ⟨x,w',H',acc',hr,hk,ho',he⟩:=ih w.heap.size acc _ K R { w with heap:=w.heap.push o } (h w.heap.size)
        (ho.new hnew (fun c hc=>by simp only;rw [Array.getElem?_push,if_neg (by omega)]))
      exact ⟨x,w',H',acc',by simp only [Sem.run];exact hr,hk,ho',Ext.trans (b:= { w with heap:=w.heap.push o }) ⟨rfl,rfl,rfl,by simp,by first | exact Nat.le_refl _ | exact Nat.le_succ _ | simp⟩ he⟩
    | .rd _::_,h | .rv _ _::_,h | .wr _::_,h | .ws _::_,h | .ch::_,h | [],h=>exact h.elim
  | shape r k ih =>
    intro acc H K R w h ho
    match acc,h with
    | .rd i :: acc, h =>
      simp only [symW] at h
      cases hs:H i with
      | free=>rw [hs] at h;exact h.elim
      | par _ _ A=>rw [hs] at h;exact h.elim
      | blk b o =>
        rw [hs] at h
        obtain ⟨rfl,h⟩:=h
        obtain ⟨x,w',H',acc',hr,q⟩:=ih _ acc H K R w h ho
        refine ⟨x,w',H',acc',?_,q⟩
        have:w.shape? r=shapeOf o:=by simp only [World.shape?,ho.block hs];cases o<;>rfl
        simp only [Sem.run,this];exact hr
    | .rv _ _::_,h | .wr _::_,h | .ws _::_,h | .nw _::_,h | .ch::_,h | [],h=>exact h.elim
  | freeze a n k ih =>
    intro acc H K R w h ho
    match acc,h with
    | .wr i :: acc, h =>
      simp only [symW] at h
      cases hs:H i with
      | free=>rw [hs] at h;exact h.elim
      | par _ _ A=>rw [hs] at h;exact h.elim
      | blk b o =>
        rw [hs] at h
        obtain ⟨hb,h⟩:=h
        have hblk:=ho.block hs
        have hown:Own (upd H i (.blk b (frozenObj a n o))) R (w.freeze a n):=by
          refine ho.set hs ?_ ?_
          · unfold World.freeze frozenObj
            split
            · exact hblk
            · simp only [hb];rw [heap_modify_same _ hblk];cases o<;>rfl
          · intro c hc
            unfold World.freeze
            split
            · rfl
            · simp only [hb];exact heap_modify_other _ hc
        obtain ⟨x,w',H',acc',hr,hk,ho',he⟩:=ih acc _ K R _ h hown
        refine ⟨x,w',H',acc',by simp only [Sem.run];exact hr,hk,ho',Ext.trans ?_ he⟩
        unfold World.freeze
        split
        · exact .refl _
        · exact ⟨rfl,rfl,rfl,by simp,by first | exact Nat.le_refl _ | exact Nat.le_succ _ | simp⟩
    | .rd _::_,h | .rv _ _::_,h | .ws _::_,h | .nw _::_,h | .ch::_,h | [],h=>exact h.elim
  | frozen a k ih =>
    intro acc H K R w h ho
    match acc,h with
    | .rd i :: acc, h =>
      simp only [symW] at h
      cases hs:H i with
      | free=>rw [hs] at h;exact h.elim
      | par _ _ A=>rw [hs] at h;exact h.elim
      | blk b o =>
        rw [hs] at h
        obtain ⟨hb,h⟩:=h
        obtain ⟨x,w',H',acc',hr,q⟩:=ih _ acc H K R w h ho
        refine ⟨x,w',H',acc',?_,q⟩
        have:w.frozen? a=frozenAt o a.off:=frozen_of_block (by rw [hb];exact ho.block hs)
        simp only [Sem.run,this];exact hr
    | .rv _ _::_,h | .wr _::_,h | .ws _::_,h | .nw _::_,h | .ch::_,h | [],h=>exact h.elim
  | getObj r k ih =>
    intro acc H K R w h ho
    match acc,h with
    | .rd i :: acc, h =>
      simp only [symW] at h
      cases hs:H i with
      | free=>rw [hs] at h;exact h.elim
      | par _ _ A=>rw [hs] at h;exact h.elim
      | blk b o =>
        rw [hs] at h
        obtain ⟨rfl,h⟩:=h
        have hblk:=ho.block hs
        cases hc:isCells o with
        | true=>rw [hc] at h;exact h.elim
        | false =>
          rw [hc] at h
          obtain ⟨x,w',H',acc',hr,q⟩:=ih _ acc H K R w h ho
          refine ⟨x,w',H',acc',?_,q⟩
          cases o<;>simp [isCells] at hc<;>simp only [Sem.run,hblk]<;>exact hr
    | .rv _ _::_,h | .wr _::_,h | .ws _::_,h | .nw _::_,h | .ch::_,h | [],h=>exact h.elim
  | setObj r o k ih =>
    intro acc H K R w h ho
    match acc,h with
    | .wr i :: acc, h =>
      simp only [symW] at h
      cases hs:H i with
      | free=>rw [hs] at h;exact h.elim
      | par _ _ A=>rw [hs] at h;exact h.elim
      | blk b o' =>
        rw [hs] at h
        obtain ⟨rfl,h⟩:=h
        have hblk:=ho.block hs
        cases hc:isCells o' with
        | true=>rw [hc] at h;exact h.elim
        | false =>
          rw [hc] at h
          have hlt:r<w.heap.size:=by
            rcases Nat.lt_or_ge r w.heap.size with h | h
            · exact h
            · simp [Array.getElem?_eq_none h] at hblk
          obtain ⟨x,w',H',acc',hr,hk,ho',he⟩:=ih acc _ K R { w with heap:=w.heap.setIfInBounds r o } h
            (ho.set hs (by simp [hlt]) (fun c hcr=>by simp [Ne.symm hcr]))
          refine ⟨x,w',H',acc',?_,hk,ho',Ext.trans (b:= { w with heap:=w.heap.setIfInBounds r o }) ⟨rfl,rfl,rfl,by simp,by first | exact Nat.le_refl _ | exact Nat.le_succ _ | simp⟩ he⟩
          cases o' <;>simp [isCells] at hc<;>simp only [Sem.run,hblk]<;>exact hr
    | .rd _::_,h | .rv _ _::_,h | .ws _::_,h | .nw _::_,h | .ch::_,h | [],h=>exact h.elim
  | choose q k ih =>
    intro acc H K R w h ho
    match acc,h with
    | .ch :: acc, h =>
      simp only [symW] at h
      cases hf:q.forced with
      | true =>
        obtain ⟨x,w',H',acc',hr,r⟩:=ih 0 acc H K R w (h 0 (fun _=>rfl) (fun e=>by rw [hf] at e;cases e)) ho
        exact ⟨x,w',H',acc',by simp only [Sem.run,hf,if_true];exact hr,r⟩
      | false =>
        obtain ⟨x,w',H',acc',hr,hk,ho',he⟩:=ih (q.cut (w.tape w.drawn q)) acc H K R { w with drawn:=w.drawn+1 } (h _ (fun e=>by rw [hf] at e;cases e) (fun _=>⟨_,rfl⟩)) (ho.same fun _ _ hb=>hb)
        exact ⟨x,w',H',acc',by simp only [Sem.run,hf,Bool.false_eq_true,if_false];exact hr,hk,ho',Ext.trans (b:= { w with drawn:=w.drawn+1 }) ⟨rfl,rfl,rfl,Nat.le_refl _,by first | exact Nat.le_refl _ | exact Nat.le_succ _ | simp⟩ he⟩
    | .rd _::_,h | .rv _ _::_,h | .wr _::_,h | .ws _::_,h | .nw _::_,h | [],h=>exact h.elim
  | sys c k ih=>intro acc H K R w h ho;cases acc<;>exact h.elim
  | program k ih =>
    intro acc H K R w h ho
    have h' :symW P (k P) acc H K:=by cases acc<;>exact h
    obtain ⟨x,w',H',acc',hr,r⟩:=ih P acc H K R w h' ho
    exact ⟨x,w',H',acc',by simp only [Sem.run];exact hr,r⟩
  | mark m k ih =>
    intro acc H K R w h ho
    have h' :symW P k acc H K:=by cases acc<;>exact h
    obtain ⟨x,w',H',acc',hr,r⟩:=ih acc H K R w h' ho
    exact ⟨x,w',H',acc',by simp only [Sem.run];exact hr,r⟩
  | halt h=>intro acc H K R w h ho;cases acc<;>exact h.elim
end Go.Sx
namespace Go.Sx
open Go.RowKit
structure St where
  fr:Nat->Value
  H:Hp
  df:List Deferred
def evalF (fr:Nat->Value):Operand->Value
  | .tmp t=>fr t
  | .const v=>v
  | .global g=> .pointer (some ⟨g,0,none⟩)
  | .func f=> .func (.func f) #[] #[]
structure Rel (n:Nat) (s:St) (a:Act):Prop where
  size:a.tmps.size=n
  at_: ∀i,a.tmps.getD i undef=s.fr i
  df:a.defers=s.df
theorem Rel.eval {n:Nat} {s:St} {a:Act} (h:Rel n s a):a.eval=evalF s.fr:=by
  funext x
  cases x with
  | tmp t=>exact h.at_ t
  | _=>rfl
theorem Rel.put {n d:Nat} {s:St} {a:Act} {v:Value} {H:Hp} (h:Rel n s a) (hd:d<n):Rel n ⟨upd s.fr d v,H,s.df⟩ (a.put (some d) v):=by
  refine ⟨by simp [Act.put,h.size],fun i=> ?_,h.df⟩
  have hz:=h.at_ i
  have hsz:=h.size
  simp only [Act.put]
  by_cases e:i=d
  · subst e
    rw [upd_same]
    simp [Array.getD_eq_getD_getElem?,hsz,hd]
  · rw [upd_other _ _ e,←hz]
    simp [Array.getD_eq_getD_getElem?,Ne.symm e]
theorem Rel.heap {n:Nat} {s:St} {a:Act} {H:Hp} (h:Rel n s a):Rel n ⟨s.fr,H,s.df⟩ a:=⟨h.size,h.at_,h.df⟩
def putW (n:Nat) (dst:Option Tmp) (v:Value) (fr:Nat->Value) (K:(Nat->Value)->Prop):Prop:=
  match dst with
  | none=>K fr
  | some d=>match Nat.blt d n with | true=>K (upd fr d v) | false=>False
theorem putW_sound {n:Nat} {dst:Option Tmp} {v:Value} {s:St} {K:(Nat->Value)->Prop} {a:Act} (hr:Rel n s a) (h:putW n dst v s.fr K) (H:Hp):
    ∃fr',K fr' /\Rel n ⟨fr',H,s.df⟩ (a.put dst v):=by
  unfold putW at h
  cases dst with
  | none=>exact ⟨_,h,hr.heap⟩
  | some d =>
    cases hb:Nat.blt d n with
    | false=>simp only [hb] at h
    | true=>simp only [hb] at h;exact ⟨_,h,hr.put (by simpa [Nat.blt_eq] using hb)⟩
def ofList (l:List Slot):Hp:=fun i=>l.getD i .free
def Yields (r:Result Next) (v:Value) (w:World):Prop:=r= .ok (.value v) w∨(r= .ok .skip w/\v=undef)
def OpT (P:Program) (m:Sem Next) (Hs:List Slot) (X:Type) (val:X->Value) (us:X->List Slot) (Φ:X->Prop):Prop:=
  ∀ (R:HP) (w:World),Own (ofList Hs) R w-> ∃x w',Φ x/\Yields (m.run P w) (val x) w' /\Own (ofList (us x)) R w' /\Ext w w'
def PureRun (P:Program) (m:Sem Next) (v:Value):Prop:= ∀w,m.run P w= .ok (.value v) w
def EnterOK (P:Program) (f:FuncId):Prop:= ∀args w,(callFunc f args).run P w= .ok (.enter f args) w
structure CallT (P:Program) (f:FuncId) (args:Array Value) (Hs:List Slot) (X:Type) (val:X->Value) (us:X->List Slot) (Φ:X->Prop):Prop where
  enter:EnterOK P f
  calls: ∀ (R:HP) (w:World),Own (ofList Hs) R w->
    Calls P f args w fun e w' => ∃x,Φ x/\e= .returned (val x)/\Own (ofList (us x)) R w' /\Ext w w'
def restOf (H : Hp) (ids : List Nat) (R : HP) : HP := fun q =>
  ∃ (p : Nat -> Hl) (r : Hl), (∀ i, i ∉ ids -> (H i).sat (p i)) /\ R r /\ (∀ i j, i ∉ ids -> j ∉ ids -> i ≠ j -> (p i).disj (p j)) /\ (∀ i, i ∉ ids -> (p i).disj r) /\
    (∀b o,q b=some o↔(∃i,i∉ids/\p i b=some o)∨r b=some o)
def clears (H:Hp):List Nat->Hp
  | []=>H
  | i::l=>clears (upd H i .free) l
def updL (H:Hp):List Nat->List Slot->Hp
  | i::l,ss=>updL (upd H i (ss.headD .free)) l ss.tail
  | [],_=>H
def pickL (ids:List Nat) (p:Nat->Hl):Nat->Hl:=fun k=>match ids[k]? with | some i=>p i | none=>fun _=>none
theorem pickL_some {ids:List Nat} {p:Nat->Hl} {k i:Nat} (h:ids[k]? =some i):pickL ids p k=p i:=by simp [pickL,h]
theorem pickL_none {ids:List Nat} {p:Nat->Hl} {k:Nat} (h:ids[k]? =none):pickL ids p k=fun _=>none:=by simp [pickL,h]
open Classical in
theorem own_split {H : Hp} {R : HP} {w : World} {ids : List Nat} (hn : ids.Nodup) (h : Own H R w) : Own (ofList (ids.map H)) (restOf H ids R) w := by
  obtain ⟨p,q,hs,hq,hp,hqw,hd,hdq⟩:=h
  let q' :Hl:=fun b=>if hx: ∃i o,i∉ids/\p i b=some o then some (Classical.choose (Classical.choose_spec hx)) else q b
  have hq' : ∀b o,q' b=some o↔(∃i,i∉ids/\p i b=some o)∨q b=some o:=by
    intro b o
    by_cases hx: ∃i o,i∉ids/\p i b=some o
    · have hsp:=Classical.choose_spec (Classical.choose_spec hx)
      have e:q' b=some (Classical.choose (Classical.choose_spec hx)):=dif_pos hx
      rw [e]
      constructor
      · intro h;cases h;exact .inl ⟨_,hsp.1,hsp.2⟩
      · rintro (⟨i,hi,ho⟩ | ho)
        · by_cases ei:i=Classical.choose hx
          · subst ei;rw [hsp.2] at ho;exact ho
          · rcases hd i _ ei b with h | h
            · rw [ho] at h;cases h
            · rw [hsp.2] at h;cases h
        · rcases hdq (Classical.choose hx) b with h | h
          · rw [hsp.2] at h;cases h
          · rw [ho] at h;cases h
    · have e:q' b=q b:=dif_neg hx
      rw [e]
      constructor
      · exact .inr
      · rintro (⟨i,hi,ho⟩ | ho)
        · exact absurd ⟨i,o,hi,ho⟩ hx
        · exact ho
  refine ⟨pickL ids p,q',fun k=> ?_,⟨p,q,fun i _=>hs i,hq,fun i j _ _ h=>hd i j h,fun i _=>hdq i,hq'⟩,fun k=> ?_,?_,fun k l hkl=> ?_,fun k=> ?_⟩
  · unfold ofList
    cases hk:ids[k]? with
    | none=>rw [List.getD_eq_getElem?_getD,List.getElem?_map,hk,pickL_none hk];exact fun _=>rfl
    | some i=>rw [List.getD_eq_getElem?_getD,List.getElem?_map,hk,pickL_some hk];exact hs i
  · cases hk:ids[k]? with
    | none=>rw [pickL_none hk];intro b o h;cases h
    | some i=>rw [pickL_some hk];exact hp i
  · intro b o hb
    rcases (hq' b o).1 hb with ⟨i,_,h⟩ | h
    · exact hp i b o h
    · exact hqw b o h
  · cases hk:ids[k]? with
    | none=>rw [pickL_none hk];exact fun _=> .inl rfl
    | some i =>
      cases hl:ids[l]? with
      | none=>rw [pickL_none hl];exact fun _=> .inr rfl
      | some j =>
        rw [pickL_some hk,pickL_some hl]
        refine hd i j (fun e=>hkl ?_)
        subst e
        obtain ⟨hk1,hk2⟩:=List.getElem?_eq_some_iff.1 hk
        obtain ⟨hl1,hl2⟩:=List.getElem?_eq_some_iff.1 hl
        exact (List.getElem_inj hn).1 (hk2.trans hl2.symm)
  · cases hk : ids[k]? with
    | none=>rw [pickL_none hk];exact fun _=> .inl rfl
    | some i =>
      rw [pickL_some hk]
      intro b
      cases hpb:p i b with
      | none=>exact .inl rfl
      | some o =>
        right
        cases hqb:q' b with
        | none=>rfl
        | some o' =>
          rcases (hq' b o').1 hqb with ⟨j,hj,h⟩ | h
          · have hij:i≠j:=fun e=>hj (e▸List.mem_of_getElem? hk)
            rcases hd i j hij b with h' | h'
            · rw [hpb] at h';cases h'
            · rw [h] at h';cases h'
          · rcases hdq i b with h' | h'
            · rw [hpb] at h';cases h'
            · rw [h] at h';cases h'
theorem clears_in (l:List Nat): ∀ (H:Hp) (i:Nat),i∈l->clears H l i= .free:=by
  have stay: ∀ (l:List Nat) (H:Hp) (i:Nat),H i= .free->clears H l i= .free:=by
    intro l
    induction l with
    | nil=>exact fun H i h=>h
    | cons x l ih =>
      intro H i h
      refine ih _ i ?_
      by_cases e:i=x
      · subst e;rw [upd_same]
      · rw [upd_other _ _ e];exact h
  induction l with
  | nil=>exact fun H i h=>by cases h
  | cons x l ih =>
    intro H i h
    rcases List.mem_cons.1 h with rfl | h
    · exact stay l _ _ (upd_same _ _ _)
    · exact ih _ i h
theorem clears_out (l:List Nat): ∀ (H:Hp) (i:Nat),i∉l->clears H l i=H i:=by
  induction l with
  | nil=>exact fun H i h=>rfl
  | cons x l ih =>
    intro H i h
    rw [List.mem_cons,not_or] at h
    exact (ih _ i h.2).trans (upd_other _ _ h.1)
theorem updL_out: ∀ (l:List Nat) (ss:List Slot) (H:Hp) (i:Nat),i∉l->updL H l ss i=H i
  | [],_,_,_,_=>by simp [updL]
  | x :: l, ss, H, i, h => by
    rw [List.mem_cons,not_or] at h
    exact (updL_out l _ _ i h.2).trans (upd_other _ _ h.1)
theorem updL_in: ∀ (l:List Nat) (ss:List Slot) (H:Hp) (k i:Nat),l.Nodup->l[k]? =some i->updL H l ss i=ofList ss k
  | [],_,_,k,_,_,h=>by simp at h
  | x :: l, ss, H, 0, i, hn, h => by
    simp at h;subst h
    rw [List.nodup_cons] at hn
    refine (updL_out l _ _ x hn.1).trans ?_
    rw [upd_same]
    cases ss<;>simp [ofList]
  | x :: l, ss, H, k + 1, i, hn, h => by
    rw [List.nodup_cons] at hn
    have:=updL_in l ss.tail (upd H x (ss.headD .free)) k i hn.2 (by simpa using h)
    rw [updL,this]
    cases ss<;>simp [ofList]
theorem own_join {H : Hp} {R : HP} {w : World} {ins outs : List Nat} {ss : List Slot} (ho : outs.Nodup)
    (h:Own (ofList ss) (restOf H ins R) w):Own (updL (clears H ins) outs ss) R w:=by
  obtain ⟨p,q,hs,⟨p2,r,hs2,hr,hd2,hdr2,hq2⟩,hp,hqw,hd,hdq⟩:=h
  have hidx: ∀i k,outs.idxOf? i=some k->outs[k]? =some i:=by
    intro i k hk
    rw [List.idxOf?_eq_some_iff] at hk
    obtain ⟨h1,h3,-⟩:=hk
    rw [List.getElem?_eq_getElem h1]
    simpa using h3
  let pc:Nat->Hl:=fun i=>match outs.idxOf? i with | some k=>p k | none=>if i∈ins then fun _=>none else p2 i
  have pcs: ∀i k,outs.idxOf? i=some k->pc i=p k:=fun i k h=>by simp only [pc,h]
  have pci: ∀i,outs.idxOf? i=none->i∈ins->pc i=fun _=>none:=fun i h h' =>by simp only [pc,h,h',if_true]
  have pcn: ∀i,outs.idxOf? i=none->i∉ins->pc i=p2 i:=fun i h h' =>by simp only [pc,h,h',if_false]
  have sub2: ∀i,i∉ins-> ∀b o,p2 i b=some o->q b=some o:=fun i hi b o h=>(hq2 b o).2 (.inl ⟨i,hi,h⟩)
  have subr: ∀b o,r b=some o->q b=some o:=fun b o h=>(hq2 b o).2 (.inr h)
  have qd: ∀k (x:Hl),(∀b o,x b=some o->q b=some o)->(p k).disj x:=fun k x hx b=>by
    rcases hdq k b with h | h
    · exact .inl h
    · right
      cases hxb:x b with
      | none=>rfl
      | some o=>rw [hx b o hxb] at h;cases h
  refine ⟨pc,r,fun i=> ?_,hr,fun i=> ?_,fun b o hb=>hqw b o (subr b o hb),fun i j hij=> ?_,fun i=> ?_⟩
  · cases hk:outs.idxOf? i with
    | some k=>rw [pcs i k hk,updL_in outs ss _ k i ho (hidx i k hk)];exact hs k
    | none =>
      have hi:i∉outs:=List.idxOf?_eq_none_iff.1 hk
      rw [updL_out _ _ _ _ hi]
      by_cases hi' :i∈ins
      · rw [clears_in _ _ _ hi',pci i hk hi'];exact fun _=>rfl
      · rw [clears_out _ _ _ hi',pcn i hk hi'];exact hs2 i hi'
  · cases hk:outs.idxOf? i with
    | some k=>rw [pcs i k hk];exact hp k
    | none =>
      by_cases hi' :i∈ins
      · rw [pci i hk hi'];intro b o h;cases h
      · rw [pcn i hk hi'];exact fun b o h=>hqw b o (sub2 i hi' b o h)
  · cases hk : outs.idxOf? i with
    | some k =>
      rw [pcs i k hk]
      cases hl:outs.idxOf? j with
      | some l =>
        rw [pcs j l hl]
        refine hd k l (fun e=>hij ?_)
        subst e
        have:=(hidx i k hk).symm.trans (hidx j k hl)
        cases this;rfl
      | none =>
        by_cases hj:j∈ins
        · rw [pci j hl hj];exact fun _=> .inr rfl
        · rw [pcn j hl hj];exact qd k _ (sub2 j hj)
    | none =>
      by_cases hi' :i∈ins
      · rw [pci i hk hi'];exact fun _=> .inl rfl
      · rw [pcn i hk hi']
        cases hl:outs.idxOf? j with
        | some l=>rw [pcs j l hl];exact fun b=>(qd l _ (sub2 i hi') b).symm
        | none =>
          by_cases hj:j∈ins
          · rw [pci j hl hj];exact fun _=> .inr rfl
          · rw [pcn j hl hj];exact hd2 i j hi' hj hij
  · cases hk:outs.idxOf? i with
    | some k=>rw [pcs i k hk];exact qd k _ subr
    | none =>
      by_cases hi' :i∈ins
      · rw [pci i hk hi'];exact fun _=> .inl rfl
      · rw [pcn i hk hi'];exact hdr2 i hi'
end Go.Sx
namespace Go.Sx
open Go.RowKit
structure Ctr:Type 1 where
  X:Type
  val:X->Value
  us:X->List Slot
  Φ:X->Prop
inductive Ann:Type 1 where
  | sem (acc:List Acc)
  | eq (v:List Value->Value)
  | gen (acc:List Acc) (C:List Value->Ctr)
  | specr (ins:List Nat) (C:List Value->List Slot->Ctr)
  | specw (ins outs:List Nat) (C:List Value->List Slot->Ctr)
  | callr (ins:List Nat) (C:List Value->List Slot->Ctr)
  | callw (ins outs:List Nat) (C:List Value->List Slot->Ctr)
  | calln (ins outs:List Nat) (C:List Value->List Slot->Ctr)
  | dfr
  | no
def memB (x:Nat):List Nat->Bool
  | []=>false
  | y::l=>bif Nat.beq x y then true else memB x l
theorem memB_iff {x:Nat} {l:List Nat}:memB x l=true↔x∈l:=by
  induction l with
  | nil=>simp [memB]
  | cons y l ih =>
    simp only [memB,List.mem_cons]
    cases h:Nat.beq x y with
    | true=>simp [Nat.eq_of_beq_eq_true h]
    | false=>simp [ih,Nat.ne_of_beq_eq_false h]
def nodB:List Nat->Bool
  | []=>true
  | x::l=>bif memB x l then false else nodB l
theorem nodB_iff {l:List Nat}:nodB l=true↔l.Nodup:=by
  induction l with
  | nil=>simp [nodB]
  | cons x l ih =>
    simp only [nodB,List.nodup_cons,←ih]
    cases h:memB x l with
    | true=>simp [memB_iff.1 h]
    | false =>
      have:x∉l:=fun hx=>by rw [memB_iff.2 hx] at h;cases h
      simp [this]
def disjB:List Nat->List Nat->Bool
  | [],_=>true
  | x::l,m=>bif memB x m then false else disjB l m
theorem disjB_iff {l m:List Nat}:disjB l m=true↔ ∀x∈l,x∉m:=by
  induction l with
  | nil=>simp [disjB]
  | cons x l ih =>
    simp only [disjB,List.mem_cons,forall_eq_or_imp,←ih]
    cases h:memB x m with
    | true=>simp [memB_iff.1 h]
    | false =>
      have:x∉m:=fun hx=>by rw [memB_iff.2 hx] at h;cases h
      simp [this]
inductive Tgt where
  | fn (f:FuncId)
  | yld (l:Nat)
def RoundT (P : Program) (l : Nat) (args : Array Value) (Hs : List Slot) (X : Type) (val : X -> Value) (us : X -> List Slot) (Φ : X -> Prop) : Prop :=
  ∀ (R : HP) (w : World), Own (ofList Hs) R w -> ∃ fn tmps assign body, (Instr.yield l args).run P w = .ok (.round l fn tmps assign body) w /\
    RoundIn Fence.wide 0 P l fn tmps assign body w fun e w' => ∃x,Φ x/\e= .returned (val x)/\Own (ofList (us x)) R w' /\Ext w w'
def TgtT (P:Program) (g:Tgt) (args:Array Value) (Hs:List Slot) (X:Type) (val:X->Value) (us:X->List Slot) (Φ:X->Prop):Prop:=
  match g with
  | .fn f=>CallT P f args Hs X val us Φ
  | .yld l=>RoundT P l args Hs X val us Φ
def callOf (ρ : Operand -> Value) (o : Op) : Option (Tgt × Array Value) :=
  match o with
  | .call { callee := .value f, args, .. } =>
    match ρ f with
    | .func (.func g) first cap=>some (.fn g,first++args.map ρ++cap)
    | .func (.yield l) first _=>some (.yld l,first++args.map ρ)
    | _=>none
  | _=>none
def onB (b:Bool) (X:Prop):Prop:=match b with | true=>X | false=>False
theorem onB_iff {b:Bool} {X:Prop}:onB b X↔b=true/\X:=by cases b<;>simp [onB]
def opVals (ρ:Operand->Value) (o:Op):List Value:=o.operands.toList.map ρ
def specR (T:(X:Type)->(X->Value)->(X->List Slot)->(X->Prop)->Prop) (C:Ctr) (Hs:List Slot) (K:Value->Hp->Prop) (H:Hp):Prop:=
  T C.X C.val (fun _=>Hs) C.Φ/\(∃x,C.Φ x)/\ ∀x,C.Φ x->K (C.val x) H
def specN (T:(X:Type)->(X->Value)->(X->List Slot)->(X->Prop)->Prop) (C:Ctr) (Hs:List Slot) (outs:List Nat) (K:Value->Hp->Prop) (H:Hp):Prop:=
  T C.X C.val (fun x=>Hs++C.us x) C.Φ/\(∃x,C.Φ x)/\ ∀x,C.Φ x->K (C.val x) (updL H outs (C.us x))
def specX (T:(X:Type)->(X->Value)->(X->List Slot)->(X->Prop)->Prop) (C:Ctr) (ins outs:List Nat) (K:Value->Hp->Prop) (H:Hp):Prop:=
  T C.X C.val C.us C.Φ/\(∃x,C.Φ x)/\ ∀x,C.Φ x->K (C.val x) (updL (clears H ins) outs (C.us x))
def coreW (P : Program) (ρ : Operand -> Value) (o : Oper) (a : Ann) (K : Value -> Hp -> Prop) (H : Hp) : Prop :=
  match a with
  | .sem acc=>symW P (execOp ρ o) acc H fun nx H' _=>match nx with | .value v=>K v H' | .skip=>K undef H' | _=>False
  | .eq v=>PureRun P (execOp ρ o) (v (opVals ρ o.op))/\K (v (opVals ρ o.op)) H
  | .gen acc C=>symW P (execOp ρ o) acc H fun nx H' _=>match nx with | .value u=>(∃x,(C (opVals ρ o.op)).Φ x/\u=(C (opVals ρ o.op)).val x)/\ ∀x,(C (opVals ρ o.op)).Φ x->K ((C (opVals ρ o.op)).val x) H' | _=>False
  | .specr ins C=>onB (nodB ins) (specR (OpT P (execOp ρ o) (ins.map H)) (C (opVals ρ o.op) (ins.map H)) (ins.map H) K H)
  | .specw ins outs C=>onB (nodB ins) (onB (nodB outs) (specX (OpT P (execOp ρ o) (ins.map H)) (C (opVals ρ o.op) (ins.map H)) ins outs K H))
  | .callr ins C =>
    match callOf ρ o.op with
    | some (f,args)=>onB (nodB ins) (specR (TgtT P f args (ins.map H)) (C (opVals ρ o.op) (ins.map H)) (ins.map H) K H)
    | none=>False
  | .callw ins outs C =>
    match callOf ρ o.op with
    | some (f,args)=>onB (nodB ins) (onB (nodB outs) (specX (TgtT P f args (ins.map H)) (C (opVals ρ o.op) (ins.map H)) ins outs K H))
    | none=>False
  | .calln ins outs C =>
    match callOf ρ o.op with
    | some (f,args)=>onB (nodB ins) (onB (nodB (ins++outs)) (specN (TgtT P f args (ins.map H)) (C (opVals ρ o.op) (ins.map H)) (ins.map H) outs K H))
    | none=>False
  | .dfr=>False
  | .no=>False
def guardW (ops : Array Oper) (o : Oper) (fr : Nat -> Value) (X : Prop) : Prop :=
  match o.guard with
  | none=>X
  | some (j, b) =>
    match (ops[j]?).bind (·.dst) with
    | some d=>match fr d with | .bool c=>c=b/\X | _=>False
    | none=>False
def unguardW (ops : Array Oper) (o : Oper) (fr : Nat -> Value) (X : Prop) : Prop :=
  match o.guard with
  | none=>False
  | some (j, b) =>
    match (ops[j]?).bind (·.dst) with
    | some d=>match fr d with | .bool c=>c= !b/\X | .tuple _=>X | _=>False
    | none=>False
def dfrW (ρ : Operand -> Value) (o : Op) (K : Deferred -> Prop) : Prop :=
  match o with
  | .defer { callee := .value f, args, .. } =>
    match ρ f with
    | .func fn first cap=>K { target:= .fn fn cap,args:=first++args.map ρ }
    | _=>False
  | _=>False
def opW (P:Program) (n:Nat) (ops:Array Oper) (o:Oper) (a:Ann) (s:St) (K:St->Prop):Prop:=
  match a with
  | .no=>unguardW ops o s.fr (putW n o.dst undef s.fr fun fr' =>K ⟨fr',s.H,s.df⟩)
  | .dfr=>guardW ops o s.fr (dfrW (evalF s.fr) o.op fun d=>putW n o.dst undef s.fr fun fr' =>K ⟨fr',s.H,d::s.df⟩)
  | a=>guardW ops o s.fr (coreW P (evalF s.fr) o a (fun v H' =>putW n o.dst v s.fr fun fr' =>K ⟨fr',H',s.df⟩) s.H)
def FrR (r:Option Nat):Fence:= { fn:=fun _=>True,depth:=none,alive:=false,round:=r }
theorem callsIn_of_calls {r:Option Nat} {n:Nat} {P:Program} {f:FuncId} {args:Array Value} {w:World} {R:Ending->World->Prop} (h:Calls P f args w R):CallsIn (FrR r) n P f args w R:=by
  have h1:CallsIn Fence.wide n P f args w R:=callsIn_wide.2 h
  cases r with
  | none=>exact h1
  | some l=>exact h1.inRound l
theorem yielded_rel {n:Nat} {s:St} {a:Act} (hr:Rel n s a) {ops:Array Oper} {j d:Nat} {c:Bool} (hd:(ops[j]?).bind (·.dst)=some d) (hc:s.fr d= .bool c):yielded ops a.tmps j=some c:=by
  have h:=hr.at_ d
  rw [hc] at h
  have:a.tmps[d]? =some (.bool c):=by
    rw [Array.getD_eq_getD_getElem?] at h
    cases hx:a.tmps[d]? with
    | none=>rw [hx] at h;simp [undef] at h
    | some v=>rw [hx] at h;simpa using h
  simp [yielded,hd,this]
theorem run_callOf {P:Program} {ρ:Operand->Value} {o:Oper} {f:FuncId} {args:Array Value} (h:callOf ρ o.op=some (.fn f,args)) (he:EnterOK P f) (w:World):
    (execOp ρ o).run P w= .ok (.enter f args) w:=by
  unfold callOf at h
  unfold execOp
  split at h
  · rename_i g asg ts heq
    rw [heq]
    split at h
    · rename_i k first cap hf
      cases h
      simp only [resolve,hf,Deferred.ofValue]
      exact he _ w
    · cases h
    · cases h
  · cases h
theorem run_yldOf {P:Program} {ρ:Operand->Value} {o:Oper} {l:Nat} {args:Array Value} (h:callOf ρ o.op=some (.yld l,args)) (w:World):
    (execOp ρ o).run P w=(Instr.yield l args).run P w:=by
  unfold callOf at h
  unfold execOp
  split at h
  · rename_i g asg ts heq
    rw [heq]
    split at h
    · cases h
    · rename_i k first cap hf
      cases h
      simp only [resolve,hf,Deferred.ofValue]
      rfl
    · cases h
  · cases h
theorem RoundT.use {P:Program} {l:Nat} {args:Array Value} {H:Hp} {ins outs:List Nat} {X:Type} {val:X->Value} {us:X->List Slot} {Φ:X->Prop} {R:HP} {w:World}
    (h:RoundT P l args (ins.map H) X val us Φ) (hi:ins.Nodup) (ho:outs.Nodup) (hw:Own H R w):
    ∃ fn tmps assign body, (Instr.yield l args).run P w = .ok (.round l fn tmps assign body) w /\
      RoundIn Fence.wide 0 P l fn tmps assign body w fun e w' => ∃x,Φ x/\e= .returned (val x)/\Own (updL (clears H ins) outs (us x)) R w' /\Ext w w' :=
  let ⟨fn,tmps,asg,b,h1,h2⟩:=h _ w (own_split hi hw)
  ⟨fn,tmps,asg,b,h1,h2.mono fun _ _ ⟨x,hx,he,ho',hext⟩=>⟨x,hx,he,own_join ho ho',hext⟩⟩
theorem roundIn_of_wide {r:Option Nat} {P:Program} {l:Nat} {f:FuncId} {tmps:Array Value} {assign body:Code} {w:World} {R:Ending->World->Prop} (h:RoundIn Fence.wide 0 P l f tmps assign body w R):RoundIn (FrR r) 0 P l f tmps assign body w R:=by
  cases r with
  | none=>exact h
  | some l=>exact h
theorem OpT.use {P:Program} {m:Sem Next} {H:Hp} {ins outs:List Nat} {X:Type} {val:X->Value} {us:X->List Slot} {Φ:X->Prop} {R:HP} {w:World}
    (h:OpT P m (ins.map H) X val us Φ) (hi:ins.Nodup) (ho:outs.Nodup) (hw:Own H R w):
    ∃x w',Φ x/\Yields (m.run P w) (val x) w' /\Own (updL (clears H ins) outs (us x)) R w' /\Ext w w' :=by
  obtain ⟨x,w',hx,hr,ho',he⟩:=h _ w (own_split hi hw)
  exact ⟨x,w',hx,hr,own_join ho ho',he⟩
theorem updL_back {H:Hp}: ∀ {ins:List Nat},ins.Nodup->updL (clears H ins) ins (ins.map H)=H:=by
  intro ins hn
  funext i
  by_cases hi:i∈ins
  · obtain ⟨k,hk⟩:=List.getElem?_of_mem hi
    rw [updL_in ins _ _ k i hn hk]
    simp [ofList,List.getD_eq_getElem?_getD,hk]
  · rw [updL_out _ _ _ _ hi,clears_out _ _ _ hi]
theorem updL_app: ∀ (a:List Nat) (x:List Slot) {H:Hp} {b:List Nat} {y:List Slot},a.length=x.length->updL H (a++b) (x++y)=updL (updL H a x) b y
  | [],[],_,_,_,_=>rfl
  | [],_::_,_,_,_,h=>by simp at h
  | _::_,[],_,_,_,h=>by simp at h
  | i::a,s::x,H,b,y,h=>updL_app a x (H:=upd H i s) (by simpa using h)
theorem updL_keep {H:Hp} {ins outs:List Nat} {ss:List Slot} (hi:ins.Nodup):updL (clears H ins) (ins++outs) (ins.map H++ss)=updL H outs ss:=by
  rw [updL_app ins (ins.map H) (by simp),updL_back hi]
theorem CallT.use {P:Program} {f:FuncId} {args:Array Value} {H:Hp} {ins outs:List Nat} {X:Type} {val:X->Value} {us:X->List Slot} {Φ:X->Prop} {R:HP} {w:World}
    (h:CallT P f args (ins.map H) X val us Φ) (hi:ins.Nodup) (ho:outs.Nodup) (hw:Own H R w):
    Calls P f args w fun e w' => ∃x,Φ x/\e= .returned (val x)/\Own (updL (clears H ins) outs (us x)) R w' /\Ext w w' :=
  (h.calls _ w (own_split hi hw)).mono fun _ _ ⟨x,hx,he,ho',hext⟩=>⟨x,hx,he,own_join ho ho',hext⟩
def After (n:Nat) (K:St->Prop) (R:HP) (w:World) (a' :Act) (w' :World):Prop:=
  ∃s',K s' /\Rel n s' a' /\Own s'.H R w' /\Ext w w'
theorem core_sound {P : Program} {n : Nat} {r : Option Nat} {o : Oper} {a : Ann} {s : St} {K : Value -> Hp -> Prop} {act : Act} {R : HP} {w : World} {next : Act -> World -> Prop} {Q : Exit -> Act -> World -> Prop}
    (h:coreW P (evalF s.fr) o a K s.H) (hr:Rel n s act) (ho:Own s.H R w)
    (hn: ∀v H' w',K v H' ->Own H' R w' ->Ext w w' ->next (act.put o.dst v) w'):o.wpIn (FrR r) 0 P act w next Q:=by
  refine ⟨fun _ _=>trivial,?_⟩
  have hev:=hr.eval
  rw [←hev] at h
  have sem: ∀ (nx:Next) (w' :World),(execOp act.eval o).run P w= .ok nx w' ->(∀d,nx≠ .defer d)->(o.semAt (FrR r).round act.eval).run P w= .ok nx w' :=by
    intro nx w' hrun hnd
    rw [Oper.semAt_eq _ _ _ ?_]
    · exact hrun
    · intro c hc
      unfold execOp at hrun
      rw [hc] at hrun
      simp only [Sem.run_bind] at hrun
      cases hx:Sem.run P (resolve act.eval c o.type) w with
      | ok d w'' =>rw [hx] at hrun;simp [pure] at hrun;exact hnd _ hrun.1.symm
      | halt _ _=>rw [hx] at hrun;simp at hrun
  cases a with
  | sem acc =>
    obtain ⟨nx,w',H',acc',hrun,hk,ho',he⟩:=symW_sound _ acc s.H _ R w h ho
    cases nx<;>first
      | (rw [sem _ _ hrun (by intro d;simp)];exact hn _ _ _ hk ho' he)
      | exact hk.elim
  | eq v=>rw [sem _ _ (h.1 w) (by intro d;simp)];exact hn _ _ _ h.2 ho (.refl _)
  | gen acc C =>
    obtain ⟨nx,w',H',acc',hrun,hk,ho',he⟩:=symW_sound _ acc s.H _ R w h ho
    cases nx<;>first
      | (rw [sem _ _ hrun (by intro d; simp)]
         obtain ⟨⟨x,hx,rfl⟩,hk⟩:=hk
         exact hn _ _ _ (hk x hx) ho' he)
      | exact hk.elim
  | specr ins C =>
    obtain ⟨hi,h,_,hk⟩:=onB_iff.1 h
    have hi:=nodB_iff.1 hi
    obtain ⟨x,w',hx,hrun,ho',he⟩:=h.use hi hi ho
    rw [updL_back hi] at ho'
    have hk:=hk x hx
    rcases hrun with hrun | ⟨hrun,hv⟩
    · rw [sem _ _ hrun (by intro d;simp)];exact hn _ _ _ hk ho' he
    · rw [hv] at hk;rw [sem _ _ hrun (by intro d;simp)];exact hn _ _ _ hk ho' he
  | specw ins outs C =>
    obtain ⟨hi,h⟩:=onB_iff.1 h
    obtain ⟨hu,h,_,hk⟩:=onB_iff.1 h
    obtain ⟨x,w',hx,hrun,ho',he⟩:=h.use (nodB_iff.1 hi) (nodB_iff.1 hu) ho
    have hk:=hk x hx
    rcases hrun with hrun | ⟨hrun,hv⟩
    · rw [sem _ _ hrun (by intro d;simp)];exact hn _ _ _ hk ho' he
    · rw [hv] at hk;rw [sem _ _ hrun (by intro d;simp)];exact hn _ _ _ hk ho' he
  | callr ins C =>
    simp only [coreW] at h
    cases hc:callOf act.eval o.op with
    | none=>rw [hc] at h;exact h.elim
    | some fa =>
      obtain ⟨g,args⟩:=fa
      rw [hc] at h
      obtain ⟨hi,h,_,hk⟩:=onB_iff.1 h
      have hi:=nodB_iff.1 hi
      cases g with
      | fn f =>
        have h:CallT P f args _ _ _ _ _:=h
        rw [sem _ _ (run_callOf hc h.enter w) (by intro d;simp),Oper.uponIn_enter]
        refine ⟨fun h=>by simp [FrR] at h,(callsIn_of_calls (h.use hi hi ho)).mono ?_⟩
        rintro e w' ⟨x,hx,rfl,ho',he⟩
        rw [updL_back hi] at ho'
        exact hn _ _ _ (hk x hx) ho' he
      | yld l =>
        have h:RoundT P l args _ _ _ _ _:=h
        obtain ⟨fn,tmps,asg,bd,hrun,hrd⟩:=h.use hi hi ho
        rw [sem _ _ ((run_yldOf hc w).trans hrun) (by intro d;simp),Oper.uponIn_round]
        refine ⟨fun h=>by simp [FrR] at h,(roundIn_of_wide hrd).mono ?_⟩
        rintro e w' ⟨x,hx,rfl,ho',he⟩
        rw [updL_back hi] at ho'
        exact hn _ _ _ (hk x hx) ho' he
  | callw ins outs C =>
    simp only [coreW] at h
    cases hc:callOf act.eval o.op with
    | none=>rw [hc] at h;exact h.elim
    | some fa =>
      obtain ⟨g,args⟩:=fa
      rw [hc] at h
      obtain ⟨hi,h⟩:=onB_iff.1 h
      obtain ⟨hu,h,_,hk⟩:=onB_iff.1 h
      cases g with
      | fn f =>
        have h:CallT P f args _ _ _ _ _:=h
        rw [sem _ _ (run_callOf hc h.enter w) (by intro d;simp),Oper.uponIn_enter]
        refine ⟨fun h=>by simp [FrR] at h,(callsIn_of_calls (h.use (nodB_iff.1 hi) (nodB_iff.1 hu) ho)).mono ?_⟩
        rintro e w' ⟨x,hx,rfl,ho',he⟩
        exact hn _ _ _ (hk x hx) ho' he
      | yld l =>
        have h:RoundT P l args _ _ _ _ _:=h
        obtain ⟨fn,tmps,asg,bd,hrun,hrd⟩:=h.use (nodB_iff.1 hi) (nodB_iff.1 hu) ho
        rw [sem _ _ ((run_yldOf hc w).trans hrun) (by intro d;simp),Oper.uponIn_round]
        refine ⟨fun h=>by simp [FrR] at h,(roundIn_of_wide hrd).mono ?_⟩
        rintro e w' ⟨x,hx,rfl,ho',he⟩
        exact hn _ _ _ (hk x hx) ho' he
  | calln ins outs C =>
    simp only [coreW] at h
    cases hc:callOf act.eval o.op with
    | none=>rw [hc] at h;exact h.elim
    | some fa =>
      obtain ⟨g,args⟩:=fa
      rw [hc] at h
      obtain ⟨hi,h⟩:=onB_iff.1 h
      obtain ⟨hu,h,_,hk⟩:=onB_iff.1 h
      cases g with
      | fn f =>
        have h:CallT P f args _ _ _ _ _:=h
        rw [sem _ _ (run_callOf hc h.enter w) (by intro d;simp),Oper.uponIn_enter]
        refine ⟨fun h=>by simp [FrR] at h,(callsIn_of_calls (h.use (nodB_iff.1 hi) (nodB_iff.1 hu) ho)).mono ?_⟩
        rintro e w' ⟨x,hx,rfl,ho',he⟩
        rw [updL_keep (nodB_iff.1 hi)] at ho'
        exact hn _ _ _ (hk x hx) ho' he
      | yld l =>
        have h:RoundT P l args _ _ _ _ _:=h
        obtain ⟨fn,tmps,asg,bd,hrun,hrd⟩:=h.use (nodB_iff.1 hi) (nodB_iff.1 hu) ho
        rw [sem _ _ ((run_yldOf hc w).trans hrun) (by intro d;simp),Oper.uponIn_round]
        refine ⟨fun h=>by simp [FrR] at h,(roundIn_of_wide hrd).mono ?_⟩
        rintro e w' ⟨x,hx,rfl,ho',he⟩
        rw [updL_keep (nodB_iff.1 hi)] at ho'
        exact hn _ _ _ (hk x hx) ho' he
  | dfr=>exact h.elim
  | no=>exact h.elim
theorem guard_wanted {n : Nat} {ops : Array Oper} {o : Oper} {s : St} {X : Prop} {a : Act} (hr : Rel n s a) (h : guardW ops o s.fr X) : Region.wanted o (yielded ops a.tmps) = true /\ X := by
  unfold guardW at h
  unfold Region.wanted
  cases hg:o.guard with
  | none=>rw [hg] at h;exact ⟨rfl,h⟩
  | some jb =>
    obtain ⟨j,b⟩:=jb
    rw [hg] at h
    simp only at h ⊢
    split at h
    · rename_i d hd
      split at h
      · rename_i c hc
        obtain ⟨rfl,h⟩:=h
        exact ⟨by rw [yielded_rel hr hd hc];simp,h⟩
      · exact h.elim
    · exact h.elim
theorem yielded_none {n:Nat} {s:St} {a:Act} (hr:Rel n s a) {ops:Array Oper} {j d:Nat} {c:Array Value} (hd:(ops[j]?).bind (·.dst)=some d) (hc:s.fr d= .tuple c):yielded ops a.tmps j=none:=by
  have h:=hr.at_ d
  rw [hc] at h
  rw [Array.getD_eq_getD_getElem?] at h
  cases hx:a.tmps[d]? with
  | none=>simp [yielded,hd,hx]
  | some v =>
    rw [hx] at h
    simp at h;subst h
    simp [yielded,hd,hx]
theorem unguard_wanted {n : Nat} {ops : Array Oper} {o : Oper} {s : St} {X : Prop} {a : Act} (hr : Rel n s a) (h : unguardW ops o s.fr X) : Region.wanted o (yielded ops a.tmps) = false /\ X := by
  unfold unguardW at h
  unfold Region.wanted
  cases hg:o.guard with
  | none=>rw [hg] at h;exact h.elim
  | some jb =>
    obtain ⟨j,b⟩:=jb
    rw [hg] at h
    simp only at h ⊢
    split at h
    · rename_i d hd
      split at h
      · rename_i c hc
        obtain ⟨rfl,h⟩:=h
        exact ⟨by rw [yielded_rel hr hd hc];simp,h⟩
      · rename_i c hc
        exact ⟨by rw [yielded_none hr hd hc];simp,h⟩
      · exact h.elim
    · exact h.elim
def isDfr:Ann->Bool
  | .dfr=>true
  | _=>false
theorem op_sound {P : Program} {n : Nat} {r : Option Nat} {ops : Array Oper} {o : Oper} {a : Ann} {s : St} {K : St -> Prop} {act : Act} {R : HP} {w : World} {next : Act -> World -> Prop} {Q : Exit -> Act -> World -> Prop}
    (hd:r=none∨isDfr a=false) (h:opW P n ops o a s K) (hr:Rel n s act) (ho:Own s.H R w) (hn: ∀a' w',After n K R w a' w' ->next a' w'):
    if Region.wanted o (yielded ops act.tmps)=true then o.wpIn (FrR r) 0 P act w next Q
    else (∀f,o.about P w act.eval=some f->(FrR r).fn f)/\next (act.put o.dst undef) w:=by
  have fin: ∀v H' w',putW n o.dst v s.fr (fun fr' =>K ⟨fr',H',s.df⟩)->Own H' R w' ->Ext w w' ->next (act.put o.dst v) w' :=by
    intro v H' w' hk ho' he
    obtain ⟨fr',hk,hrel⟩:=putW_sound hr hk H'
    exact hn _ _ ⟨_,hk,hrel,ho',he⟩
  cases a with
  | no =>
    obtain ⟨hw,hk⟩:=unguard_wanted hr h
    rw [if_neg (by rw [hw];simp)]
    exact ⟨fun _ _=>trivial,fin undef s.H w hk ho (.refl _)⟩
  | dfr =>
    obtain ⟨hw,hk⟩:=guard_wanted hr h
    rw [if_pos hw]
    refine ⟨fun _ _=>trivial,?_⟩
    rcases hd with rfl | hd
    · have hev:=hr.eval
      rw [←hev] at hk
      unfold dfrW at hk
      split at hk
      · rename_i f args ts heq
        split at hk
        · rename_i fn first cap hf
          have hrun:(o.semAt (FrR none).round act.eval).run P w= .ok (.defer { target:= .fn fn cap,args:=first++args.map act.eval }) w:=by
            show (execOp act.eval o).run P w=_
            unfold execOp
            rw [heq]
            simp only [resolve,hf,Deferred.ofValue]
            rfl
          rw [hrun,Oper.uponIn_defer]
          obtain ⟨fr',hk,hrel⟩:=putW_sound (v:=undef) hr hk s.H
          refine hn _ _ ⟨_,hk,⟨?_,?_,?_⟩,ho, .refl _⟩
          · have:=hrel.size
            cases hx:o.dst<;>rw [hx] at this<;>simpa [Act.put] using this
          · have:=hrel.at_
            cases hx:o.dst<;>rw [hx] at this<;>simpa [Act.put] using this
          · have:=hr.df
            cases hx:o.dst<;>simp [Act.put,this]
        · exact hk.elim
      · exact hk.elim
    · cases hd
  | sem acc =>
    obtain ⟨hw,hk⟩:=guard_wanted hr h
    rw [if_pos hw]
    exact core_sound hk hr ho fin
  | eq v =>
    obtain ⟨hw,hk⟩:=guard_wanted hr h
    rw [if_pos hw]
    exact core_sound hk hr ho fin
  | gen acc C =>
    obtain ⟨hw,hk⟩:=guard_wanted hr h
    rw [if_pos hw]
    exact core_sound hk hr ho fin
  | specr ins C =>
    obtain ⟨hw,hk⟩:=guard_wanted hr h
    rw [if_pos hw]
    exact core_sound hk hr ho fin
  | specw ins outs C =>
    obtain ⟨hw,hk⟩:=guard_wanted hr h
    rw [if_pos hw]
    exact core_sound hk hr ho fin
  | callr ins C =>
    obtain ⟨hw,hk⟩:=guard_wanted hr h
    rw [if_pos hw]
    exact core_sound hk hr ho fin
  | callw ins outs C =>
    obtain ⟨hw,hk⟩:=guard_wanted hr h
    rw [if_pos hw]
    exact core_sound hk hr ho fin
  | calln ins outs C =>
    obtain ⟨hw,hk⟩:=guard_wanted hr h
    rw [if_pos hw]
    exact core_sound hk hr ho fin
end Go.Sx
namespace Go.Sx
open Go.RowKit
def rdA:List Acc->List Nat
  | []=> []
  | .rd i::l | .rv i _::l=>i::rdA l
  | _::l=>rdA l
def wrA:List Acc->List Nat
  | []=> []
  | .wr i::l | .ws i::l | .nw i::l=>i::wrA l
  | _::l=>wrA l
theorem symW_step {P : Program} {α : Type} (m : Sem α) : ∀ (acc : List Acc) (H : Hp) (K K' : α -> Hp -> List Acc -> Prop), symW P m acc H K ->
    (∀a H' r,(∀i,i∉wrA acc->H' i=H i)->K a H' r->K' a H' r)->symW P m acc H K' :=by
  induction m with
  | pure a=>exact fun acc H K K' h hk=>hk a H acc (fun _ _=>rfl) h
  | load m a k ih =>
    intro acc H K K' h hk
    match acc,h,hk with
    | .rd i :: acc, h, hk =>
      simp only [symW] at h ⊢
      cases hs:H i with
      | blk b o =>
        rw [hs] at h
        cases o with
        | cells c t f =>
          obtain ⟨h1,h2,h3⟩:=h
          refine ⟨h1,h2,?_⟩
          cases hv:c[a.off]? with
          | none=>rw [hv] at h3;exact h3.elim
          | some v=>rw [hv] at h3;exact ih v acc H K K' h3 hk
        | _=>exact h.elim
      | _=>rw [hs] at h;exact h.elim
    | .rv i g :: acc, h, hk =>
      simp only [symW] at h ⊢
      cases hs:H i with
      | blk b o =>
        rw [hs] at h
        cases o with
        | cells c t f =>
          obtain ⟨h1,h2,h3,h4⟩:=h
          exact ⟨h1,h2,h3,ih _ acc H K K' h4 hk⟩
        | _=>exact h.elim
      | _=>rw [hs] at h;exact h.elim
    | .wr _::_,h,_ | .ws _::_,h,_ | .nw _::_,h,_ | .ch::_,h,_ | [],h,_=>exact h.elim
  | store m a v k ih =>
    intro acc H K K' h hk
    have later: ∀ (i:Nat) (acc:List Acc) (sl:Slot),(∀a H' r,(∀j,j∉i::wrA acc->H' j=H j)->K a H' r->K' a H' r)->symW P k acc (upd H i sl) K->symW P k acc (upd H i sl) K' :=by
      intro i acc sl hk h
      refine ih acc _ K K' h (fun a H' r hH hka=>hk a H' r (fun j hj=> ?_) hka)
      rw [List.mem_cons,not_or] at hj
      exact (hH j hj.2).trans (upd_other _ _ hj.1)
    match acc,h,hk with
    | .wr i :: acc, h, hk =>
      simp only [symW] at h ⊢
      cases hv:notAgg v with
      | false=>rw [hv] at h;exact h.elim
      | true =>
        rw [hv] at h
        cases hs:H i with
        | blk b o =>
          rw [hs] at h
          cases o with
          | cells c t f =>
            obtain ⟨h1,h2,h3⟩:=h
            refine ⟨h1,h2,?_⟩
            cases hl:Nat.blt a.off c.size with
            | false=>rw [hl] at h3;exact h3.elim
            | true =>
              cases hf:frz f a.off with
              | true=>rw [hl,hf] at h3;exact h3.elim
              | false=>rw [hl,hf] at h3;exact later i acc _ hk h3
          | _=>exact h.elim
        | _=>rw [hs] at h;exact h.elim
    | .ws i :: acc, h, hk =>
      simp only [symW] at h ⊢
      cases hs:H i with
      | blk b o =>
        rw [hs] at h
        cases o with
        | cells c t f =>
          obtain ⟨h1,h2,h3,h4,h5,h6⟩:=h
          exact ⟨h1,h2,h3,h4,h5,later i acc _ hk h6⟩
        | _=>exact h.elim
      | _=>rw [hs] at h;exact h.elim
    | .rd _::_,h,_ | .rv _ _::_,h,_ | .nw _::_,h,_ | .ch::_,h,_ | [],h,_=>cases v<;>exact h.elim
  | new o k ih =>
    intro acc H K K' h hk
    match acc,h,hk with
    | .nw i :: acc, h, hk =>
      simp only [symW] at h ⊢
      intro b
      refine ih b acc _ K K' (h b) (fun a H' r hH hka=>hk a H' r (fun j hj=> ?_) hka)
      simp only [wrA] at hj
      rw [List.mem_cons,not_or] at hj
      exact (hH j hj.2).trans (upd_other _ _ hj.1)
    | .rd _::_,h,_ | .rv _ _::_,h,_ | .wr _::_,h,_ | .ws _::_,h,_ | .ch::_,h,_ | [],h,_=>exact h.elim
  | shape r k ih =>
    intro acc H K K' h hk
    match acc,h,hk with
    | .rd i :: acc, h, hk =>
      simp only [symW] at h ⊢
      cases hs:H i with
      | blk b o=>rw [hs] at h;exact ⟨h.1,ih _ acc H K K' h.2 hk⟩
      | _=>rw [hs] at h;exact h.elim
    | .rv _ _::_,h,_ | .wr _::_,h,_ | .ws _::_,h,_ | .nw _::_,h,_ | .ch::_,h,_ | [],h,_=>exact h.elim
  | freeze a n k ih =>
    intro acc H K K' h hk
    match acc,h,hk with
    | .wr i :: acc, h, hk =>
      simp only [symW] at h ⊢
      cases hs:H i with
      | blk b o =>
        rw [hs] at h
        refine ⟨h.1,ih acc _ K K' h.2 (fun a H' r hH hka=>hk a H' r (fun j hj=> ?_) hka)⟩
        simp only [wrA] at hj
        rw [List.mem_cons,not_or] at hj
        exact (hH j hj.2).trans (upd_other _ _ hj.1)
      | _=>rw [hs] at h;exact h.elim
    | .rd _::_,h,_ | .rv _ _::_,h,_ | .ws _::_,h,_ | .nw _::_,h,_ | .ch::_,h,_ | [],h,_=>exact h.elim
  | frozen a k ih =>
    intro acc H K K' h hk
    match acc,h,hk with
    | .rd i :: acc, h, hk =>
      simp only [symW] at h ⊢
      cases hs:H i with
      | blk b o=>rw [hs] at h;exact ⟨h.1,ih _ acc H K K' h.2 hk⟩
      | _=>rw [hs] at h;exact h.elim
    | .rv _ _::_,h,_ | .wr _::_,h,_ | .ws _::_,h,_ | .nw _::_,h,_ | .ch::_,h,_ | [],h,_=>exact h.elim
  | getObj r k ih =>
    intro acc H K K' h hk
    match acc,h,hk with
    | .rd i :: acc, h, hk =>
      simp only [symW] at h ⊢
      cases hs:H i with
      | blk b o =>
        rw [hs] at h
        obtain ⟨h1,h2⟩:=h
        refine ⟨h1,?_⟩
        cases hc:isCells o with
        | true=>rw [hc] at h2;exact h2.elim
        | false=>rw [hc] at h2;exact ih _ acc H K K' h2 hk
      | _=>rw [hs] at h;exact h.elim
    | .rv _ _::_,h,_ | .wr _::_,h,_ | .ws _::_,h,_ | .nw _::_,h,_ | .ch::_,h,_ | [],h,_=>exact h.elim
  | setObj r o k ih =>
    intro acc H K K' h hk
    match acc,h,hk with
    | .wr i :: acc, h, hk =>
      simp only [symW] at h ⊢
      cases hs:H i with
      | blk b o' =>
        rw [hs] at h
        obtain ⟨h1,h2⟩:=h
        refine ⟨h1,?_⟩
        cases hc:isCells o' with
        | true=>rw [hc] at h2;exact h2.elim
        | false =>
          rw [hc] at h2
          refine ih acc _ K K' h2 (fun a H' r hH hka=>hk a H' r (fun j hj=> ?_) hka)
          simp only [wrA] at hj
          rw [List.mem_cons,not_or] at hj
          exact (hH j hj.2).trans (upd_other _ _ hj.1)
      | _=>rw [hs] at h;exact h.elim
    | .rd _::_,h,_ | .rv _ _::_,h,_ | .ws _::_,h,_ | .nw _::_,h,_ | .ch::_,h,_ | [],h,_=>exact h.elim
  | choose q k ih =>
    intro acc H K K' h hk
    match acc,h,hk with
    | .ch :: acc, h, hk =>
      simp only [symW] at h ⊢
      exact fun t h1 h2=>ih t acc H K K' (h t h1 h2) hk
    | .rd _::_,h,_ | .rv _ _::_,h,_ | .wr _::_,h,_ | .ws _::_,h,_ | .nw _::_,h,_ | [],h,_=>exact h.elim
  | sys c k ih=>intro acc H K K' h;cases acc<;>exact h.elim
  | program k ih=>intro acc H K K' h hk;cases acc<;>exact ih P _ H K K' h hk
  | mark m k ih=>intro acc H K K' h hk;cases acc<;>exact ih _ H K K' h hk
  | halt x=>intro acc H K K' h;cases acc<;>exact h.elim
structure Good (T:(Value->Hp->Prop)->Hp->Prop) (rd wr:List Nat):Prop where
  step: ∀K K' H,T K H->(∀v H',(∀i,i∉wr->H' i=H i)->K v H' ->K' v H')->T K' H
  set: ∀K H i sl,i∉rd->i∉wr->T K (upd H i sl)->T (fun v H' =>K v (upd H' i sl)) H
  all: ∀ (β:Type) (_:Nonempty β) (K:β->Value->Hp->Prop) H,(∀b,T (K b) H)->T (fun v H' => ∀b,K b v H') H
theorem symW_set {P : Program} {α : Type} (m : Sem α) : ∀ (acc : List Acc) (H : Hp) (K : α -> Hp -> List Acc -> Prop) (i : Nat) (sl : Slot), i ∉ rdA acc -> i ∉ wrA acc ->
    symW P m acc (upd H i sl) K->symW P m acc H fun a H' r=>K a (upd H' i sl) r:=by
  induction m with
  | pure a=>exact fun acc H K i sl _ _ h=>h
  | load m a k ih =>
    intro acc H K i sl hr hw h
    match acc,h,hr,hw with
    | .rd j :: acc, h, hr, hw =>
      simp only [rdA,List.mem_cons,not_or] at hr
      simp only [symW] at h ⊢
      rw [upd_other _ _ (Ne.symm hr.1)] at h
      cases hs:H j with
      | blk b o =>
        rw [hs] at h
        cases o with
        | cells c t f =>
          obtain ⟨h1,h2,h3⟩:=h
          refine ⟨h1,h2,?_⟩
          cases hv:c[a.off]? with
          | none=>rw [hv] at h3;exact h3.elim
          | some v=>rw [hv] at h3;exact ih v acc H K i sl hr.2 hw h3
        | _=>exact h.elim
      | _=>rw [hs] at h;exact h.elim
    | .rv j g :: acc, h, hr, hw =>
      simp only [rdA,List.mem_cons,not_or] at hr
      simp only [symW] at h ⊢
      rw [upd_other _ _ (Ne.symm hr.1)] at h
      cases hs:H j with
      | blk b o =>
        rw [hs] at h
        cases o with
        | cells c t f=>exact ⟨h.1,h.2.1,h.2.2.1,ih _ acc H K i sl hr.2 hw h.2.2.2⟩
        | _=>exact h.elim
      | _=>rw [hs] at h;exact h.elim
    | .wr _::_,h,_,_ | .ws _::_,h,_,_ | .nw _::_,h,_,_ | .ch::_,h,_,_ | [],h,_,_=>exact h.elim
  | store m a v k ih =>
    intro acc H K i sl hr hw h
    match acc,h,hr,hw with
    | .wr j :: acc, h, hr, hw =>
      simp only [wrA,List.mem_cons,not_or] at hw
      simp only [symW] at h ⊢
      rw [upd_other _ _ (Ne.symm hw.1)] at h
      cases hv:notAgg v with
      | false=>rw [hv] at h;exact h.elim
      | true =>
        rw [hv] at h
        cases hs:H j with
        | blk b o =>
          rw [hs] at h
          cases o with
          | cells c t f =>
            obtain ⟨h1,h2,h3⟩:=h
            refine ⟨h1,h2,?_⟩
            cases hl:Nat.blt a.off c.size with
            | false=>rw [hl] at h3;exact h3.elim
            | true =>
              cases hf:frz f a.off with
              | true=>rw [hl,hf] at h3;exact h3.elim
              | false=>rw [hl,hf] at h3;simp only at h3;rw [upd_comm _ _ _ hw.1] at h3;exact ih acc _ K i sl hr hw.2 h3
          | _=>exact h.elim
        | _=>rw [hs] at h;exact h.elim
    | .ws j :: acc, h, hr, hw =>
      simp only [wrA,List.mem_cons,not_or] at hw
      simp only [symW] at h ⊢
      rw [upd_other _ _ (Ne.symm hw.1)] at h
      cases hs:H j with
      | blk b o =>
        rw [hs] at h
        cases o with
        | cells c t f =>
          obtain ⟨h1,h2,h3,h4,h5,h6⟩:=h
          rw [upd_comm _ _ _ hw.1] at h6
          exact ⟨h1,h2,h3,h4,h5,ih acc _ K i sl hr hw.2 h6⟩
        | _=>exact h.elim
      | _=>rw [hs] at h;exact h.elim
    | .rd _::_,h,_,_ | .rv _ _::_,h,_,_ | .nw _::_,h,_,_ | .ch::_,h,_,_ | [],h,_,_=>cases v<;>exact h.elim
  | new o k ih =>
    intro acc H K i sl hr hw h
    match acc,h,hr,hw with
    | .nw j :: acc, h, hr, hw =>
      simp only [wrA,List.mem_cons,not_or] at hw
      simp only [symW] at h ⊢
      intro b
      have:=h b
      rw [upd_comm _ _ _ hw.1] at this
      exact ih b acc _ K i sl hr hw.2 this
    | .rd _::_,h,_,_ | .rv _ _::_,h,_,_ | .wr _::_,h,_,_ | .ws _::_,h,_,_ | .ch::_,h,_,_ | [],h,_,_=>exact h.elim
  | shape r k ih =>
    intro acc H K i sl hr hw h
    match acc,h,hr,hw with
    | .rd j :: acc, h, hr, hw =>
      simp only [rdA,List.mem_cons,not_or] at hr
      simp only [symW] at h ⊢
      rw [upd_other _ _ (Ne.symm hr.1)] at h
      cases hs:H j with
      | blk b o=>rw [hs] at h;exact ⟨h.1,ih _ acc H K i sl hr.2 hw h.2⟩
      | _=>rw [hs] at h;exact h.elim
    | .rv _ _::_,h,_,_ | .wr _::_,h,_,_ | .ws _::_,h,_,_ | .nw _::_,h,_,_ | .ch::_,h,_,_ | [],h,_,_=>exact h.elim
  | freeze a n k ih =>
    intro acc H K i sl hr hw h
    match acc,h,hr,hw with
    | .wr j :: acc, h, hr, hw =>
      simp only [wrA,List.mem_cons,not_or] at hw
      simp only [symW] at h ⊢
      rw [upd_other _ _ (Ne.symm hw.1)] at h
      cases hs:H j with
      | blk b o =>
        rw [hs] at h
        obtain ⟨h1,h2⟩:=h
        rw [upd_comm _ _ _ hw.1] at h2
        exact ⟨h1,ih acc _ K i sl hr hw.2 h2⟩
      | _=>rw [hs] at h;exact h.elim
    | .rd _::_,h,_,_ | .rv _ _::_,h,_,_ | .ws _::_,h,_,_ | .nw _::_,h,_,_ | .ch::_,h,_,_ | [],h,_,_=>exact h.elim
  | frozen a k ih =>
    intro acc H K i sl hr hw h
    match acc,h,hr,hw with
    | .rd j :: acc, h, hr, hw =>
      simp only [rdA,List.mem_cons,not_or] at hr
      simp only [symW] at h ⊢
      rw [upd_other _ _ (Ne.symm hr.1)] at h
      cases hs:H j with
      | blk b o=>rw [hs] at h;exact ⟨h.1,ih _ acc H K i sl hr.2 hw h.2⟩
      | _=>rw [hs] at h;exact h.elim
    | .rv _ _::_,h,_,_ | .wr _::_,h,_,_ | .ws _::_,h,_,_ | .nw _::_,h,_,_ | .ch::_,h,_,_ | [],h,_,_=>exact h.elim
  | getObj r k ih =>
    intro acc H K i sl hr hw h
    match acc,h,hr,hw with
    | .rd j :: acc, h, hr, hw =>
      simp only [rdA,List.mem_cons,not_or] at hr
      simp only [symW] at h ⊢
      rw [upd_other _ _ (Ne.symm hr.1)] at h
      cases hs:H j with
      | blk b o =>
        rw [hs] at h
        obtain ⟨h1,h2⟩:=h
        refine ⟨h1,?_⟩
        cases hc:isCells o with
        | true=>rw [hc] at h2;exact h2.elim
        | false=>rw [hc] at h2;exact ih _ acc H K i sl hr.2 hw h2
      | _=>rw [hs] at h;exact h.elim
    | .rv _ _::_,h,_,_ | .wr _::_,h,_,_ | .ws _::_,h,_,_ | .nw _::_,h,_,_ | .ch::_,h,_,_ | [],h,_,_=>exact h.elim
  | setObj r o k ih =>
    intro acc H K i sl hr hw h
    match acc,h,hr,hw with
    | .wr j :: acc, h, hr, hw =>
      simp only [wrA,List.mem_cons,not_or] at hw
      simp only [symW] at h ⊢
      rw [upd_other _ _ (Ne.symm hw.1)] at h
      cases hs:H j with
      | blk b o' =>
        rw [hs] at h
        obtain ⟨h1,h2⟩:=h
        refine ⟨h1,?_⟩
        cases hc:isCells o' with
        | true=>rw [hc] at h2;exact h2.elim
        | false =>
          rw [hc] at h2
          simp only at h2
          rw [upd_comm _ _ _ hw.1] at h2
          exact ih acc _ K i sl hr hw.2 h2
      | _=>rw [hs] at h;exact h.elim
    | .rd _::_,h,_,_ | .rv _ _::_,h,_,_ | .ws _::_,h,_,_ | .nw _::_,h,_,_ | .ch::_,h,_,_ | [],h,_,_=>exact h.elim
  | choose q k ih =>
    intro acc H K i sl hr hw h
    match acc,h,hr,hw with
    | .ch :: acc, h, hr, hw =>
      simp only [symW] at h ⊢
      exact fun t h1 h2=>ih t acc H K i sl hr hw (h t h1 h2)
    | .rd _::_,h,_,_ | .rv _ _::_,h,_,_ | .wr _::_,h,_,_ | .ws _::_,h,_,_ | .nw _::_,h,_,_ | [],h,_,_=>exact h.elim
  | sys c k ih=>intro acc H K i sl hr hw h;cases acc<;>exact h.elim
  | program k ih=>intro acc H K i sl hr hw h;cases acc<;>exact ih P _ H K i sl hr hw h
  | mark m k ih=>intro acc H K i sl hr hw h;cases acc<;>exact ih _ H K i sl hr hw h
  | halt x=>intro acc H K i sl hr hw h;cases acc<;>exact h.elim
theorem symW_all {P : Program} {α : Type} (m : Sem α) : ∀ (acc : List Acc) (H : Hp) (β : Type) (_ : Nonempty β) (K : β -> α -> Hp -> List Acc -> Prop),
    (∀b,symW P m acc H (K b))->symW P m acc H fun a H' r=> ∀b,K b a H' r:=by
  induction m with
  | pure a=>exact fun acc H β _ K h=>h
  | load m a k ih =>
    intro acc H β hne K h
    obtain ⟨b0⟩:=hne
    match acc,h with
    | .rd i :: acc, h =>
      simp only [symW] at h ⊢
      cases hs:H i with
      | blk b o =>
        rw [hs] at h
        cases o with
        | cells c t f =>
          refine ⟨(h b0).1,(h b0).2.1,?_⟩
          have h3:=fun x=>(h x).2.2
          cases hv:c[a.off]? with
          | none=>rw [hv] at h3;exact h3 b0
          | some v=>rw [hv] at h3;exact ih v acc H β ⟨b0⟩ K h3
        | _=>exact (h b0).elim
      | _=>rw [hs] at h;exact (h b0).elim
    | .rv i g :: acc, h =>
      simp only [symW] at h ⊢
      cases hs:H i with
      | blk b o =>
        rw [hs] at h
        cases o with
        | cells c t f=>exact ⟨(h b0).1,(h b0).2.1,(h b0).2.2.1,ih _ acc H β ⟨b0⟩ K fun x=>(h x).2.2.2⟩
        | _=>exact (h b0).elim
      | _=>rw [hs] at h;exact (h b0).elim
    | .wr _::_,h | .ws _::_,h | .nw _::_,h | .ch::_,h | [],h=>exact (h b0).elim
  | store m a v k ih =>
    intro acc H β hne K h
    obtain ⟨b0⟩:=hne
    match acc,h with
    | .wr i :: acc, h =>
      simp only [symW] at h ⊢
      cases hv:notAgg v with
      | false=>rw [hv] at h;exact (h b0).elim
      | true =>
        rw [hv] at h
        cases hs:H i with
        | blk b o =>
          rw [hs] at h
          cases o with
          | cells c t f =>
            refine ⟨(h b0).1,(h b0).2.1,?_⟩
            have h3:=fun x=>(h x).2.2
            cases hl:Nat.blt a.off c.size with
            | false=>rw [hl] at h3;exact (h3 b0).elim
            | true =>
              cases hf:frz f a.off with
              | true=>rw [hl,hf] at h3;exact (h3 b0).elim
              | false=>rw [hl,hf] at h3;exact ih acc _ β ⟨b0⟩ K h3
          | _=>exact (h b0).elim
        | _=>rw [hs] at h;exact (h b0).elim
    | .ws i :: acc, h =>
      simp only [symW] at h ⊢
      cases hs:H i with
      | blk b o =>
        rw [hs] at h
        cases o with
        | cells c t f =>
          obtain ⟨h1,h2,h3,h4,h5,_⟩:=h b0
          exact ⟨h1,h2,h3,h4,h5,ih acc _ β ⟨b0⟩ K fun x=>(h x).2.2.2.2.2⟩
        | _=>exact (h b0).elim
      | _=>rw [hs] at h;exact (h b0).elim
    | .rd _::_,h | .rv _ _::_,h | .nw _::_,h | .ch::_,h | [],h=>cases v<;>exact (h b0).elim
  | new o k ih =>
    intro acc H β hne K h
    obtain ⟨b0⟩:=hne
    match acc,h with
    | .nw i::acc,h=>simp only [symW] at h ⊢;exact fun b=>ih b acc _ β ⟨b0⟩ K fun x=>h x b
    | .rd _::_,h | .rv _ _::_,h | .wr _::_,h | .ws _::_,h | .ch::_,h | [],h=>exact (h b0).elim
  | shape r k ih =>
    intro acc H β hne K h
    obtain ⟨b0⟩:=hne
    match acc,h with
    | .rd i :: acc, h =>
      simp only [symW] at h ⊢
      cases hs:H i with
      | blk b o=>rw [hs] at h;exact ⟨(h b0).1,ih _ acc H β ⟨b0⟩ K fun x=>(h x).2⟩
      | _=>rw [hs] at h;exact (h b0).elim
    | .rv _ _::_,h | .wr _::_,h | .ws _::_,h | .nw _::_,h | .ch::_,h | [],h=>exact (h b0).elim
  | freeze a n k ih =>
    intro acc H β hne K h
    obtain ⟨b0⟩:=hne
    match acc,h with
    | .wr i :: acc, h =>
      simp only [symW] at h ⊢
      cases hs:H i with
      | blk b o=>rw [hs] at h;exact ⟨(h b0).1,ih acc _ β ⟨b0⟩ K fun x=>(h x).2⟩
      | _=>rw [hs] at h;exact (h b0).elim
    | .rd _::_,h | .rv _ _::_,h | .ws _::_,h | .nw _::_,h | .ch::_,h | [],h=>exact (h b0).elim
  | frozen a k ih =>
    intro acc H β hne K h
    obtain ⟨b0⟩:=hne
    match acc,h with
    | .rd i :: acc, h =>
      simp only [symW] at h ⊢
      cases hs:H i with
      | blk b o=>rw [hs] at h;exact ⟨(h b0).1,ih _ acc H β ⟨b0⟩ K fun x=>(h x).2⟩
      | _=>rw [hs] at h;exact (h b0).elim
    | .rv _ _::_,h | .wr _::_,h | .ws _::_,h | .nw _::_,h | .ch::_,h | [],h=>exact (h b0).elim
  | getObj r k ih =>
    intro acc H β hne K h
    obtain ⟨b0⟩:=hne
    match acc,h with
    | .rd i :: acc, h =>
      simp only [symW] at h ⊢
      cases hs:H i with
      | blk b o =>
        rw [hs] at h
        have h2:=fun x=>(h x).2
        refine ⟨(h b0).1,?_⟩
        cases hc:isCells o with
        | true=>rw [hc] at h2;exact (h2 b0).elim
        | false=>rw [hc] at h2;exact ih _ acc H β ⟨b0⟩ K h2
      | _=>rw [hs] at h;exact (h b0).elim
    | .rv _ _::_,h | .wr _::_,h | .ws _::_,h | .nw _::_,h | .ch::_,h | [],h=>exact (h b0).elim
  | setObj r o k ih =>
    intro acc H β hne K h
    obtain ⟨b0⟩:=hne
    match acc,h with
    | .wr i :: acc, h =>
      simp only [symW] at h ⊢
      cases hs:H i with
      | blk b o' =>
        rw [hs] at h
        have h2:=fun x=>(h x).2
        refine ⟨(h b0).1,?_⟩
        cases hc:isCells o' with
        | true=>rw [hc] at h2;exact (h2 b0).elim
        | false=>rw [hc] at h2;exact ih acc _ β ⟨b0⟩ K h2
      | _=>rw [hs] at h;exact (h b0).elim
    | .rd _::_,h | .rv _ _::_,h | .ws _::_,h | .nw _::_,h | .ch::_,h | [],h=>exact (h b0).elim
  | choose q k ih =>
    intro acc H β hne K h
    obtain ⟨b0⟩:=hne
    match acc,h with
    | .ch::acc,h=>simp only [symW] at h ⊢;exact fun t h1 h2=>ih t acc H β ⟨b0⟩ K fun x=>h x t h1 h2
    | .rd _::_,h | .rv _ _::_,h | .wr _::_,h | .ws _::_,h | .nw _::_,h | [],h=>exact (h b0).elim
  | sys c k ih=>intro acc H β hne K h;obtain ⟨b0⟩:=hne;cases acc<;>exact (h b0).elim
  | program k ih=>intro acc H β hne K h;cases acc<;>exact ih P _ H β hne K h
  | mark m k ih=>intro acc H β hne K h;cases acc<;>exact ih _ H β hne K h
  | halt x=>intro acc H β hne K h;obtain ⟨b0⟩:=hne;cases acc<;>exact (h b0).elim
theorem symW_comm {P : Program} {α : Type} {T : (Value -> Hp -> Prop) -> Hp -> Prop} {rd wr : List Nat} (hT : Good T rd wr) (m : Sem α) :
    ∀ (acc:List Acc) (H:Hp) (K:α->Value->Hp->List Acc->Prop),(∀x∈wrA acc,x∉rd/\x∉wr)->(∀x∈wr,x∉rdA acc)->
    symW P m acc H (fun a H1 r=>T (fun v H2=>K a v H2 r) H1)->T (fun v H2=>symW P m acc H2 fun a H1 r=>K a v H1 r) H:=by
  have keep: ∀ {K K' :Value->Hp->Prop} {H:Hp},T K H->(∀v H',(∀i,i∉wr->H' i=H i)->K v H' ->K' v H')->T K' H:=fun h hk=>hT.step _ _ _ h hk
  induction m with
  | pure a=>exact fun acc H K _ _ h=>h
  | load m a k ih =>
    intro acc H K hw hr h
    match acc,h,hw,hr with
    | .rd i :: acc, h, hw, hr =>
      have hi:i∉wr:=fun hx=>(hr i hx) (by simp [rdA])
      simp only [symW] at h
      cases hs:H i with
      | blk b o =>
        rw [hs] at h
        cases o with
        | cells c t f =>
          obtain ⟨h1,h2,h3⟩:=h
          cases hv:c[a.off]? with
          | none=>rw [hv] at h3;exact h3.elim
          | some v =>
            rw [hv] at h3
            refine keep (ih v acc H K hw (fun x hx hy=>hr x hx (by simp [rdA,hy])) h3) (fun v2 H2 hH h=> ?_)
            simp only [symW,hH i hi,hs,hv]
            exact ⟨h1,h2,h⟩
        | _=>exact h.elim
      | _=>rw [hs] at h;exact h.elim
    | .rv i g :: acc, h, hw, hr =>
      have hi:i∉wr:=fun hx=>(hr i hx) (by simp [rdA])
      simp only [symW] at h
      cases hs:H i with
      | blk b o =>
        rw [hs] at h
        cases o with
        | cells c t f =>
          obtain ⟨h1,h2,h3,h4⟩:=h
          refine keep (ih _ acc H K hw (fun x hx hy=>hr x hx (by simp [rdA,hy])) h4) (fun v2 H2 hH h=> ?_)
          simp only [symW,hH i hi,hs]
          exact ⟨h1,h2,h3,h⟩
        | _=>exact h.elim
      | _=>rw [hs] at h;exact h.elim
    | .wr _::_,h,_,_ | .ws _::_,h,_,_ | .nw _::_,h,_,_ | .ch::_,h,_,_ | [],h,_,_=>exact h.elim
  | store m a v k ih =>
    intro acc H K hw hr h
    match acc,h,hw,hr with
    | .wr i :: acc, h, hw, hr =>
      have hi:=hw i (by simp [wrA])
      simp only [symW] at h
      cases hv:notAgg v with
      | false=>rw [hv] at h;exact h.elim
      | true =>
        rw [hv] at h
        cases hs:H i with
        | blk b o =>
          rw [hs] at h
          cases o with
          | cells c t f =>
            obtain ⟨h1,h2,h3⟩:=h
            cases hl:Nat.blt a.off c.size with
            | false=>rw [hl] at h3;exact h3.elim
            | true =>
              cases hf:frz f a.off with
              | true=>rw [hl,hf] at h3;exact h3.elim
              | false =>
                rw [hl,hf] at h3
                refine keep (hT.set _ _ _ _ hi.1 hi.2 (ih acc _ K (fun x hx=>hw x (by simp [wrA,hx])) hr h3)) (fun v2 H2 hH h=> ?_)
                simp only [symW,hH i hi.2,hs,hv,hl,hf]
                exact ⟨h1,h2,h⟩
          | _=>exact h.elim
        | _=>rw [hs] at h;exact h.elim
    | .ws i :: acc, h, hw, hr =>
      have hi:=hw i (by simp [wrA])
      simp only [symW] at h
      cases hs:H i with
      | blk b o =>
        rw [hs] at h
        cases o with
        | cells c t f =>
          obtain ⟨h1,h2,h3,h4,h5,h6⟩:=h
          refine keep (hT.set _ _ _ _ hi.1 hi.2 (ih acc _ K (fun x hx=>hw x (by simp [wrA,hx])) hr h6)) (fun v2 H2 hH h=> ?_)
          simp only [symW,hH i hi.2,hs]
          exact ⟨h1,h2,h3,h4,h5,h⟩
        | _=>exact h.elim
      | _=>rw [hs] at h;exact h.elim
    | .rd _::_,h,_,_ | .rv _ _::_,h,_,_ | .nw _::_,h,_,_ | .ch::_,h,_,_ | [],h,_,_=>cases v<;>exact h.elim
  | new o k ih =>
    intro acc H K hw hr h
    match acc,h,hw,hr with
    | .nw i :: acc, h, hw, hr =>
      have hi:=hw i (by simp [wrA])
      simp only [symW] at h
      refine keep (hT.all Nat ⟨0⟩ _ _ fun b=>hT.set _ _ _ _ hi.1 hi.2 (ih b acc _ K (fun x hx=>hw x (by simp [wrA,hx])) hr (h b))) (fun v2 H2 hH h=> ?_)
      simp only [symW]
      exact h
    | .rd _::_,h,_,_ | .rv _ _::_,h,_,_ | .wr _::_,h,_,_ | .ws _::_,h,_,_ | .ch::_,h,_,_ | [],h,_,_=>exact h.elim
  | shape r k ih =>
    intro acc H K hw hr h
    match acc,h,hw,hr with
    | .rd i :: acc, h, hw, hr =>
      have hi:i∉wr:=fun hx=>(hr i hx) (by simp [rdA])
      simp only [symW] at h
      cases hs:H i with
      | blk b o =>
        rw [hs] at h
        obtain ⟨h1,h2⟩:=h
        refine keep (ih _ acc H K hw (fun x hx hy=>hr x hx (by simp [rdA,hy])) h2) (fun v2 H2 hH h=> ?_)
        simp only [symW,hH i hi,hs]
        exact ⟨h1,h⟩
      | _=>rw [hs] at h;exact h.elim
    | .rv _ _::_,h,_,_ | .wr _::_,h,_,_ | .ws _::_,h,_,_ | .nw _::_,h,_,_ | .ch::_,h,_,_ | [],h,_,_=>exact h.elim
  | freeze a n k ih =>
    intro acc H K hw hr h
    match acc,h,hw,hr with
    | .wr i :: acc, h, hw, hr =>
      have hi:=hw i (by simp [wrA])
      simp only [symW] at h
      cases hs:H i with
      | blk b o =>
        rw [hs] at h
        obtain ⟨h1,h2⟩:=h
        refine keep (hT.set _ _ _ _ hi.1 hi.2 (ih acc _ K (fun x hx=>hw x (by simp [wrA,hx])) hr h2)) (fun v2 H2 hH h=> ?_)
        simp only [symW,hH i hi.2,hs]
        exact ⟨h1,h⟩
      | _=>rw [hs] at h;exact h.elim
    | .rd _::_,h,_,_ | .rv _ _::_,h,_,_ | .ws _::_,h,_,_ | .nw _::_,h,_,_ | .ch::_,h,_,_ | [],h,_,_=>exact h.elim
  | frozen a k ih =>
    intro acc H K hw hr h
    match acc,h,hw,hr with
    | .rd i :: acc, h, hw, hr =>
      have hi:i∉wr:=fun hx=>(hr i hx) (by simp [rdA])
      simp only [symW] at h
      cases hs:H i with
      | blk b o =>
        rw [hs] at h
        obtain ⟨h1,h2⟩:=h
        refine keep (ih _ acc H K hw (fun x hx hy=>hr x hx (by simp [rdA,hy])) h2) (fun v2 H2 hH h=> ?_)
        simp only [symW,hH i hi,hs]
        exact ⟨h1,h⟩
      | _=>rw [hs] at h;exact h.elim
    | .rv _ _::_,h,_,_ | .wr _::_,h,_,_ | .ws _::_,h,_,_ | .nw _::_,h,_,_ | .ch::_,h,_,_ | [],h,_,_=>exact h.elim
  | getObj r k ih =>
    intro acc H K hw hr h
    match acc,h,hw,hr with
    | .rd i :: acc, h, hw, hr =>
      have hi:i∉wr:=fun hx=>(hr i hx) (by simp [rdA])
      simp only [symW] at h
      cases hs:H i with
      | blk b o =>
        rw [hs] at h
        obtain ⟨h1,h2⟩:=h
        cases hc:isCells o with
        | true=>rw [hc] at h2;exact h2.elim
        | false =>
          rw [hc] at h2
          refine keep (ih _ acc H K hw (fun x hx hy=>hr x hx (by simp [rdA,hy])) h2) (fun v2 H2 hH h=> ?_)
          simp only [symW,hH i hi,hs,hc]
          exact ⟨h1,h⟩
      | _=>rw [hs] at h;exact h.elim
    | .rv _ _::_,h,_,_ | .wr _::_,h,_,_ | .ws _::_,h,_,_ | .nw _::_,h,_,_ | .ch::_,h,_,_ | [],h,_,_=>exact h.elim
  | setObj r o k ih =>
    intro acc H K hw hr h
    match acc,h,hw,hr with
    | .wr i :: acc, h, hw, hr =>
      have hi:=hw i (by simp [wrA])
      simp only [symW] at h
      cases hs:H i with
      | blk b o' =>
        rw [hs] at h
        obtain ⟨h1,h2⟩:=h
        cases hc:isCells o' with
        | true=>rw [hc] at h2;exact h2.elim
        | false =>
          rw [hc] at h2
          refine keep (hT.set _ _ _ _ hi.1 hi.2 (ih acc _ K (fun x hx=>hw x (by simp [wrA,hx])) hr h2)) (fun v2 H2 hH h=> ?_)
          simp only [symW,hH i hi.2,hs,hc]
          exact ⟨h1,h⟩
      | _=>rw [hs] at h;exact h.elim
    | .rd _::_,h,_,_ | .rv _ _::_,h,_,_ | .ws _::_,h,_,_ | .nw _::_,h,_,_ | .ch::_,h,_,_ | [],h,_,_=>exact h.elim
  | choose q k ih =>
    intro acc H K hw hr h
    match acc,h,hw,hr with
    | .ch :: acc, h, hw, hr =>
      simp only [symW] at h
      let β:Type:= { t:Nat//(q.forced=true->t=0)/\(q.forced=false-> ∃u,t=q.cut u) }
      have hne:Nonempty β:=by
        cases hf:q.forced with
        | true=>exact ⟨⟨0,fun _=>rfl,fun e=>by rw [hf] at e;cases e⟩⟩
        | false=>exact ⟨⟨q.cut 0,fun e=>(by rw [hf] at e;cases e),fun _=>⟨0,rfl⟩⟩⟩
      refine keep (hT.all β hne (fun t v H2=>symW P (k t.1) acc H2 fun a H1 r=>K a v H1 r) H fun t=>ih t.1 acc H K hw hr (h t.1 t.2.1 t.2.2)) (fun v2 H2 hH h=> ?_)
      simp only [symW]
      exact fun t h1 h2=>h ⟨t,h1,h2⟩
    | .rd _::_,h,_,_ | .rv _ _::_,h,_,_ | .wr _::_,h,_,_ | .ws _::_,h,_,_ | .nw _::_,h,_,_ | [],h,_,_=>exact h.elim
  | sys c k ih=>intro acc H K hw hr h;cases acc<;>exact h.elim
  | program k ih =>
    intro acc H K hw hr h
    have e: ∀ (H:Hp) (K:α->Hp->List Acc->Prop),symW P (.program k) acc H K=symW P (k P) acc H K:=fun _ _=>by cases acc<;>rfl
    simp only [e] at h ⊢
    exact ih P acc H K hw hr h
  | mark m k ih =>
    intro acc H K hw hr h
    have e: ∀ (H:Hp) (K:α->Hp->List Acc->Prop),symW P (.mark m k) acc H K=symW P k acc H K:=fun _ _=>by cases acc<;>rfl
    simp only [e] at h ⊢
    exact ih acc H K hw hr h
  | halt x=>intro acc H K hw hr h;cases acc<;>exact h.elim
end Go.Sx
namespace Go.Sx
open Go.RowKit
theorem map_congr_arr {α β:Type} {f g:α->β} {xs:Array α} (h: ∀x∈xs,f x=g x):xs.map f=xs.map g:=by
  apply Array.ext'
  simp only [Array.toList_map]
  exact List.map_congr_left fun x hx=>h x (Array.mem_toList_iff.1 hx)
theorem resolve_congr {ρ ρ' :Operand->Value} {c:Call} (t:TypeId) (h: ∀x∈c.operands,ρ x=ρ' x):resolve ρ c t=resolve ρ' c t:=by
  obtain ⟨callee,args,ats⟩:=c
  simp only [Call.operands] at h
  have ha:args.map ρ=args.map ρ' :=map_congr_arr fun x hx=>h x (Array.mem_append.2 (.inr hx))
  unfold resolve
  simp only [ha]
  cases callee with
  | value f=>simp only;rw [h f (Array.mem_append.2 (.inl (by simp)))]
  | invoke r m=>simp only;rw [h r (Array.mem_append.2 (.inl (by simp)))]
  | builtin b=>rfl
def isSel:Op->Bool
  | .select .. =>true
  | _=>false
theorem execOp_congr {ρ ρ' :Operand->Value} (o:Oper) (hs:isSel o.op=false) (h: ∀x∈o.op.operands,ρ x=ρ' x):execOp ρ o=execOp ρ' o:=by
  unfold execOp
  cases ho:o.op with
  | call c=>rw [ho] at h;simp only;rw [resolve_congr _ h]
  | go c=>rw [ho] at h;simp only;rw [resolve_congr _ h]
  | defer c=>rw [ho] at h;simp only;rw [resolve_congr _ h]
  | build t parts =>
    rw [ho] at h
    have:(parts.map fun (i,x)=>(i,ρ x))=parts.map fun (i,x)=>(i,ρ' x):=map_congr_arr fun x hx=>by
      simp only [Op.operands] at h
      show (x.1,ρ x.2)=(x.1,ρ' x.2)
      rw [h x.2 (by simp;exact ⟨x.1,hx⟩)]
    simp only [this]
  | buildSlice t n parts =>
    rw [ho] at h
    have:(parts.map fun (i,x)=>(i,ρ x))=parts.map fun (i,x)=>(i,ρ' x):=map_congr_arr fun x hx=>by
      simp only [Op.operands] at h
      show (x.1,ρ x.2)=(x.1,ρ' x.2)
      rw [h x.2 (by simp;exact ⟨x.1,hx⟩)]
    simp only [this]
  | makeFunc fn first captured =>
    rw [ho] at h
    simp only [Op.operands] at h
    have h1:first.map ρ=first.map ρ' :=map_congr_arr fun x hx=>h x (Array.mem_append.2 (.inl hx))
    have h2:captured.map ρ=captured.map ρ' :=map_congr_arr fun x hx=>h x (Array.mem_append.2 (.inr hx))
    simp only [h1,h2]
  | makeMap t r =>
    rw [ho] at h
    simp only [Op.operands] at h
    cases r with
    | none=>rfl
    | some x=>simp only [Option.map_some];rw [h x (by simp)]
  | slice t x lo hi mx =>
    rw [ho] at h
    simp only [Op.operands] at h
    have h0:ρ x=ρ' x:=h x (by simp)
    have h1:lo.map ρ=lo.map ρ' :=by
      cases lo with
      | none=>rfl
      | some y=>simp only [Option.map_some];rw [h y (by simp)]
    have h2:hi.map ρ=hi.map ρ' :=by
      cases hi with
      | none=>rfl
      | some y=>simp only [Option.map_some];rw [h y (by simp)]
    have h3:mx.map ρ=mx.map ρ' :=by
      cases mx with
      | none=>rfl
      | some y=>simp only [Option.map_some];rw [h y (by simp)]
    simp only [h0,h1,h2,h3]
  | select cases blocking=>rw [ho] at hs;cases hs
  | _=>first | rfl | (rw [ho] at h;simp only [Op.operands] at h;simp_all)
theorem callOf_congr {ρ ρ' :Operand->Value} (o:Op) (h: ∀x∈o.operands,ρ x=ρ' x):callOf ρ o=callOf ρ' o:=by
  unfold callOf
  cases o with
  | call c =>
    obtain ⟨callee,args,ats⟩:=c
    cases callee with
    | value f =>
      simp only [Op.operands,Call.operands] at h
      have ha:args.map ρ=args.map ρ' :=map_congr_arr fun x hx=>h x (Array.mem_append.2 (.inr hx))
      simp only [ha,h f (Array.mem_append.2 (.inl (by simp)))]
    | _=>rfl
  | _=>rfl
def rdS:Ann->List Nat
  | .sem acc | .gen acc _=>rdA acc
  | .specr ins _ | .callr ins _=>ins
  | .specw ins _ _ | .callw ins _ _ | .calln ins _ _=>ins
  | _=> []
def wrS:Ann->List Nat
  | .sem acc | .gen acc _=>wrA acc
  | .specw ins outs _ | .callw ins outs _=>ins++outs
  | .calln _ outs _=>outs
  | _=> []
theorem updL_set {H:Hp} {ins outs:List Nat} {ss:List Slot} {i:Nat} {sl:Slot} (ho:outs.Nodup) (h1:i∉ins) (h2:i∉outs):
    updL (clears (upd H i sl) ins) outs ss=upd (updL (clears H ins) outs ss) i sl:=by
  funext j
  by_cases e:j=i
  · subst e;rw [upd_same,updL_out _ _ _ _ h2,clears_out _ _ _ h1,upd_same]
  · rw [upd_other _ _ e]
    by_cases hj:j∈outs
    · obtain ⟨k,hk⟩:=List.getElem?_of_mem hj
      rw [updL_in outs ss _ k j ho hk,updL_in outs ss _ k j ho hk]
    · rw [updL_out _ _ _ _ hj,updL_out _ _ _ _ hj]
      by_cases hi:j∈ins
      · rw [clears_in _ _ _ hi,clears_in _ _ _ hi]
      · rw [clears_out _ _ _ hi,clears_out _ _ _ hi,upd_other _ _ e]
theorem map_upd {H:Hp} {ins:List Nat} {i:Nat} {sl:Slot} (h:i∉ins):ins.map (upd H i sl)=ins.map H:=
  List.map_congr_left fun _ hx=>upd_other _ _ (fun e=>h (e▸hx))
theorem opVals_congr {ρ ρ' :Operand->Value} (o:Op) (h: ∀x∈o.operands,ρ x=ρ' x):opVals ρ o=opVals ρ' o:=
  List.map_congr_left fun x hx=>h x (Array.mem_toList_iff.1 hx)
theorem good_specR {C:List Slot->Ctr} {T:List Slot->(X:Type)->(X->Value)->(X->List Slot)->(X->Prop)->Prop} {ins:List Nat}:
    Good (fun K H=>onB (nodB ins) (specR (T (ins.map H)) (C (ins.map H)) (ins.map H) K H)) ins []:=by
  refine ⟨fun K K' H h hk=> ?_,fun K H i sl h1 _ h=> ?_,fun β ⟨b0⟩ K H h=> ?_⟩
  · obtain ⟨hn,h1,h2,h3⟩:=onB_iff.1 h
    exact onB_iff.2 ⟨hn,h1,h2,fun x hx=>hk _ _ (fun _ _=>rfl) (h3 x hx)⟩
  · rw [map_upd (ins:=ins) h1] at h
    exact h
  · obtain ⟨hn,h1,h2,-⟩:=onB_iff.1 (h b0)
    exact onB_iff.2 ⟨hn,h1,h2,fun x hx b=>(onB_iff.1 (h b)).2.2.2 x hx⟩
theorem good_specX {C:List Slot->Ctr} {T:List Slot->(X:Type)->(X->Value)->(X->List Slot)->(X->Prop)->Prop} {ins outs:List Nat}:
    Good (fun K H=>onB (nodB ins) (onB (nodB outs) (specX (T (ins.map H)) (C (ins.map H)) ins outs K H))) ins (ins++outs):=by
  refine ⟨fun K K' H h hk=> ?_,fun K H i sl h1 h2 h=> ?_,fun β ⟨b0⟩ K H h=> ?_⟩
  · obtain ⟨hn,h⟩:=onB_iff.1 h
    obtain ⟨hu,h1,h2,h3⟩:=onB_iff.1 h
    refine onB_iff.2 ⟨hn,onB_iff.2 ⟨hu,h1,h2,fun x hx=>hk _ _ (fun i hi=> ?_) (h3 x hx)⟩⟩
    simp only [List.mem_append,not_or] at hi
    rw [updL_out _ _ _ _ hi.2,clears_out _ _ _ hi.1]
  · obtain ⟨hn,h⟩:=onB_iff.1 h
    obtain ⟨hu,h3,h4,h5⟩:=onB_iff.1 h
    simp only [List.mem_append,not_or] at h2
    rw [map_upd (ins:=ins) h1] at h3 h4 h5
    refine onB_iff.2 ⟨hn,onB_iff.2 ⟨hu,h3,h4,fun x hx=> ?_⟩⟩
    have:=h5 x hx
    rw [updL_set (nodB_iff.1 hu) h2.1 h2.2] at this
    exact this
  · obtain ⟨hn,h'⟩:=onB_iff.1 (h b0)
    obtain ⟨hu,h1,h2,-⟩:=onB_iff.1 h'
    exact onB_iff.2 ⟨hn,onB_iff.2 ⟨hu,h1,h2,fun x hx b=>(onB_iff.1 (onB_iff.1 (h b)).2).2.2.2 x hx⟩⟩
theorem good_specN {C:List Slot->Ctr} {T:List Slot->(X:Type)->(X->Value)->(X->List Slot)->(X->Prop)->Prop} {ins outs:List Nat}:
    Good (fun K H=>onB (nodB ins) (onB (nodB (ins++outs)) (specN (T (ins.map H)) (C (ins.map H)) (ins.map H) outs K H))) ins outs:=by
  refine ⟨fun K K' H h hk=> ?_,fun K H i sl h1 h2 h=> ?_,fun β ⟨b0⟩ K H h=> ?_⟩
  · obtain ⟨hn,h⟩:=onB_iff.1 h
    obtain ⟨hu,h1,h2,h3⟩:=onB_iff.1 h
    exact onB_iff.2 ⟨hn,onB_iff.2 ⟨hu,h1,h2,fun x hx=>hk _ _ (fun i hi=>updL_out _ _ _ _ hi) (h3 x hx)⟩⟩
  · obtain ⟨hn,h⟩:=onB_iff.1 h
    obtain ⟨hu,h3,h4,h5⟩:=onB_iff.1 h
    rw [map_upd (ins:=ins) h1] at h3 h4 h5
    refine onB_iff.2 ⟨hn,onB_iff.2 ⟨hu,h3,h4,fun x hx=> ?_⟩⟩
    have:=h5 x hx
    have e:=updL_set (H:=H) (ins:= []) (outs:=outs) (ss:=(C (ins.map H)).us x) (i:=i) (sl:=sl) (List.nodup_append.1 (nodB_iff.1 hu)).2.1 (by simp) h2
    simp only [clears] at e
    rw [e] at this
    exact this
  · obtain ⟨hn,h'⟩:=onB_iff.1 (h b0)
    obtain ⟨hu,h1,h2,-⟩:=onB_iff.1 h'
    exact onB_iff.2 ⟨hn,onB_iff.2 ⟨hu,h1,h2,fun x hx b=>(onB_iff.1 (onB_iff.1 (h b)).2).2.2.2 x hx⟩⟩
theorem good_core {P:Program} {ρ:Operand->Value} {o:Oper} (a:Ann):Good (coreW P ρ o a) (rdS a) (wrS a):=by
  cases a with
  | sem acc =>
    refine ⟨fun K K' H h hk=>symW_step _ acc H _ _ h fun nx H' r hH hn=> ?_,fun K H i sl h1 h2 h=> ?_,fun β hne K H h=> ?_⟩
    · cases nx<;>first | exact hk _ _ hH hn | exact hn
    · refine symW_step _ acc H _ _ (symW_set _ acc H _ i sl h1 h2 h) fun nx H' r _ hn=> ?_
      cases nx<;>exact hn
    · refine symW_step _ acc H _ _ (symW_all _ acc H β hne _ h) fun nx H' r _ hn=> ?_
      obtain ⟨b0⟩:=hne
      cases nx<;>first | exact hn | exact hn b0
  | gen acc C =>
    refine ⟨fun K K' H h hk=>symW_step _ acc H _ _ h fun nx H' r hH hn=> ?_,fun K H i sl h1 h2 h=> ?_,fun β hne K H h=> ?_⟩
    · cases nx<;>first | exact ⟨hn.1,fun x hx=>hk _ _ hH (hn.2 x hx)⟩ | exact hn
    · refine symW_step _ acc H _ _ (symW_set _ acc H _ i sl h1 h2 h) fun nx H' r _ hn=> ?_
      cases nx<;>exact hn
    · refine symW_step _ acc H _ _ (symW_all _ acc H β hne _ h) fun nx H' r _ hn=> ?_
      obtain ⟨b0⟩:=hne
      cases nx<;>first | exact ⟨(hn b0).1,fun x hx b=>(hn b).2 x hx⟩ | exact hn b0
  | eq v =>
    exact ⟨fun K K' H h hk=>⟨h.1,hk _ _ (fun _ _=>rfl) h.2⟩,fun K H i sl _ _ h=>h,fun β ⟨b0⟩ K H h=>⟨(h b0).1,fun b=>(h b).2⟩⟩
  | specr ins C=>exact good_specR (T:=OpT P (execOp ρ o)) (C:=C (opVals ρ o.op))
  | specw ins outs C=>exact good_specX (T:=OpT P (execOp ρ o)) (C:=C (opVals ρ o.op))
  | callr ins C =>
    unfold coreW
    simp only
    cases hc:callOf ρ o.op with
    | none=>exact ⟨fun K K' H h=>h.elim,fun K H i sl _ _ h=>h.elim,fun β ⟨b0⟩ K H h=>(h b0).elim⟩
    | some fa=>exact good_specR (T:=TgtT P fa.1 fa.2) (C:=C (opVals ρ o.op))
  | callw ins outs C =>
    unfold coreW
    simp only
    cases hc:callOf ρ o.op with
    | none=>exact ⟨fun K K' H h=>h.elim,fun K H i sl _ _ h=>h.elim,fun β ⟨b0⟩ K H h=>(h b0).elim⟩
    | some fa=>exact good_specX (T:=TgtT P fa.1 fa.2) (C:=C (opVals ρ o.op))
  | calln ins outs C =>
    unfold coreW
    simp only
    cases hc:callOf ρ o.op with
    | none=>exact ⟨fun K K' H h=>h.elim,fun K H i sl _ _ h=>h.elim,fun β ⟨b0⟩ K H h=>(h b0).elim⟩
    | some fa=>exact good_specN (T:=TgtT P fa.1 fa.2) (C:=C (opVals ρ o.op))
  | dfr=>exact ⟨fun K K' H h=>h.elim,fun K H i sl _ _ h=>h.elim,fun β ⟨b0⟩ K H h=>(h b0).elim⟩
  | no=>exact ⟨fun K K' H h=>h.elim,fun K H i sl _ _ h=>h.elim,fun β ⟨b0⟩ K H h=>(h b0).elim⟩
theorem core_comm {P : Program} {ρ : Operand -> Value} {o : Oper} (a : Ann) {T : (Value -> Hp -> Prop) -> Hp -> Prop} {rd wr : List Nat} (hT : Good T rd wr)
    (hw: ∀x∈wrS a,x∉rd/\x∉wr) (hr: ∀x∈wr,x∉rdS a) (H:Hp) (K:Value->Value->Hp->Prop)
    (h:coreW P ρ o a (fun v1 H1=>T (fun v2 H2=>K v1 v2 H2) H1) H):T (fun v2 H2=>coreW P ρ o a (fun v1 H1=>K v1 v2 H1) H2) H:=by
  have same: ∀ {ins:List Nat} {H2:Hp},(∀i,i∉wr->H2 i=H i)->(∀x∈wr,x∉ins)->ins.map H2=ins.map H:=fun hH hx=>
    List.map_congr_left fun x hxi=>hH x fun hw=>hx x hw hxi
  have sets: ∀ (l:List Nat) (ss:List Slot) (H0:Hp) (K:Value->Hp->Prop),(∀x∈l,x∉rd/\x∉wr)->T K (updL H0 l ss)->T (fun v H2=>K v (updL H2 l ss)) H0:=by
    intro l
    induction l with
    | nil=>exact fun ss H0 K _ h=>h
    | cons x l ih =>
      intro ss H0 K hx h
      exact hT.set _ _ x _ (hx x (by simp)).1 (hx x (by simp)).2 (ih ss.tail _ K (fun y hy=>hx y (by simp [hy])) h)
  have clrs: ∀ (l:List Nat) (H0:Hp) (K:Value->Hp->Prop),(∀x∈l,x∉rd/\x∉wr)->T K (clears H0 l)->T (fun v H2=>K v (clears H2 l)) H0:=by
    intro l
    induction l with
    | nil=>exact fun H0 K _ h=>h
    | cons x l ih =>
      intro H0 K hx h
      exact hT.set _ _ x _ (hx x (by simp)).1 (hx x (by simp)).2 (ih _ K (fun y hy=>hx y (by simp [hy])) h)
  have readC: ∀ {S:List Slot->(X:Type)->(X->Value)->(X->List Slot)->(X->Prop)->Prop} {C:List Slot->Ctr} {ins:List Nat},(∀x∈wr,x∉ins)->
      onB (nodB ins) (specR (S (ins.map H)) (C (ins.map H)) (ins.map H) (fun v1 H1=>T (fun v2 H2=>K v1 v2 H2) H1) H)->
      T (fun v2 H2=>onB (nodB ins) (specR (S (ins.map H2)) (C (ins.map H2)) (ins.map H2) (fun v1 H1=>K v1 v2 H1) H2)) H:=by
    intro S C ins hr h
    obtain ⟨hn,h1,⟨x0,hx0⟩,h3⟩:=onB_iff.1 h
    refine hT.step _ _ _ (hT.all { x:(C (ins.map H)).X//(C (ins.map H)).Φ x } ⟨⟨x0,hx0⟩⟩ (fun x v H' =>K ((C (ins.map H)).val x.1) v H') H fun x=>h3 x.1 x.2) fun v2 H2 hH hk=>onB_iff.2 ⟨hn,?_⟩
    rw [same (ins:=ins) hH hr]
    exact ⟨h1,⟨x0,hx0⟩,fun x hx=>hk ⟨x,hx⟩⟩
  have writeC: ∀ {S:List Slot->(X:Type)->(X->Value)->(X->List Slot)->(X->Prop)->Prop} {C:List Slot->Ctr} {ins outs:List Nat},(∀x∈wr,x∉ins)->(∀x∈ins++outs,x∉rd/\x∉wr)->
      onB (nodB ins) (onB (nodB outs) (specX (S (ins.map H)) (C (ins.map H)) ins outs (fun v1 H1=>T (fun v2 H2=>K v1 v2 H2) H1) H))->
      T (fun v2 H2=>onB (nodB ins) (onB (nodB outs) (specX (S (ins.map H2)) (C (ins.map H2)) ins outs (fun v1 H1=>K v1 v2 H1) H2))) H:=by
    intro S C ins outs hr hw h
    obtain ⟨hn,h⟩:=onB_iff.1 h
    obtain ⟨hu,h1,⟨x0,hx0⟩,h3⟩:=onB_iff.1 h
    refine hT.step _ _ _ (hT.all { x:(C (ins.map H)).X//(C (ins.map H)).Φ x } ⟨⟨x0,hx0⟩⟩ (fun x v H2=>K ((C (ins.map H)).val x.1) v (updL (clears H2 ins) outs ((C (ins.map H)).us x.1))) H fun x=>
      clrs ins _ (fun v H2=>K ((C (ins.map H)).val x.1) v (updL H2 outs ((C (ins.map H)).us x.1))) (fun y hy=>hw y (by simp [hy])) (sets outs _ _ _ (fun y hy=>hw y (by simp [hy])) (h3 x.1 x.2))) fun v2 H2 hH hk=>onB_iff.2 ⟨hn,onB_iff.2 ⟨hu,?_⟩⟩
    rw [same (ins:=ins) hH hr]
    exact ⟨h1,⟨x0,hx0⟩,fun x hx=>hk ⟨x,hx⟩⟩
  have newC: ∀ {S:List Slot->(X:Type)->(X->Value)->(X->List Slot)->(X->Prop)->Prop} {C:List Slot->Ctr} {ins outs:List Nat},(∀x∈wr,x∉ins)->(∀x∈outs,x∉rd/\x∉wr)->
      onB (nodB ins) (onB (nodB (ins++outs)) (specN (S (ins.map H)) (C (ins.map H)) (ins.map H) outs (fun v1 H1=>T (fun v2 H2=>K v1 v2 H2) H1) H))->
      T (fun v2 H2=>onB (nodB ins) (onB (nodB (ins++outs)) (specN (S (ins.map H2)) (C (ins.map H2)) (ins.map H2) outs (fun v1 H1=>K v1 v2 H1) H2))) H:=by
    intro S C ins outs hr hw h
    obtain ⟨hn,h⟩:=onB_iff.1 h
    obtain ⟨hu,h1,⟨x0,hx0⟩,h3⟩:=onB_iff.1 h
    refine hT.step _ _ _ (hT.all { x:(C (ins.map H)).X//(C (ins.map H)).Φ x } ⟨⟨x0,hx0⟩⟩ (fun x v H2=>K ((C (ins.map H)).val x.1) v (updL H2 outs ((C (ins.map H)).us x.1))) H fun x=>
      sets outs _ _ _ hw (h3 x.1 x.2)) fun v2 H2 hH hk=>onB_iff.2 ⟨hn,onB_iff.2 ⟨hu,?_⟩⟩
    rw [same (ins:=ins) hH hr]
    exact ⟨h1,⟨x0,hx0⟩,fun x hx=>hk ⟨x,hx⟩⟩
  cases a with
  | sem acc =>
    have h' :symW P (execOp ρ o) acc H (fun nx H1 _=>T (fun v2 H2=>(match nx with | .value v=>K v v2 H2 | .skip=>K undef v2 H2 | _=>False)) H1):=
      symW_step _ acc H _ _ h fun nx H1 r _ hn=>by cases nx<;>first | exact hn | exact hn.elim
    exact symW_comm hT _ acc H _ hw hr h'
  | eq v=>exact hT.step _ _ _ h.2 fun v2 H2 _ hk=>⟨h.1,hk⟩
  | gen acc C =>
    have h' :symW P (execOp ρ o) acc H (fun nx H1 _=>T (fun v2 H2=>(match nx with | .value u=>(∃x,(C (opVals ρ o.op)).Φ x/\u=(C (opVals ρ o.op)).val x)/\ ∀x,(C (opVals ρ o.op)).Φ x->K ((C (opVals ρ o.op)).val x) v2 H2 | _=>False)) H1):=by
      refine symW_step _ acc H _ _ h fun nx H1 r _ hn=> ?_
      cases nx with
      | value u =>
        obtain ⟨hex,hn⟩:=hn
        obtain ⟨x0,hx0,hu⟩:=hex
        exact hT.step _ _ _ (hT.all { x:(C (opVals ρ o.op)).X//(C (opVals ρ o.op)).Φ x } ⟨⟨x0,hx0⟩⟩ (fun x v H=>K ((C (opVals ρ o.op)).val x.1) v H) H1 fun x=>hn x.1 x.2) fun v2 H2 _ hk=>⟨⟨x0,hx0,hu⟩,fun x hx=>hk ⟨x,hx⟩⟩
      | _=>exact hn.elim
    exact symW_comm hT _ acc H _ hw hr h'
  | specr ins C=>exact readC (S:=OpT P (execOp ρ o)) (C:=C (opVals ρ o.op)) hr h
  | specw ins outs C=>exact writeC (S:=OpT P (execOp ρ o)) (C:=C (opVals ρ o.op)) hr hw h
  | callr ins C =>
    unfold coreW at h ⊢
    simp only at h ⊢
    cases hc:callOf ρ o.op with
    | none=>rw [hc] at h;exact h.elim
    | some fa=>rw [hc] at h;exact readC (S:=TgtT P fa.1 fa.2) (C:=C (opVals ρ o.op)) hr h
  | callw ins outs C =>
    unfold coreW at h ⊢
    simp only at h ⊢
    cases hc:callOf ρ o.op with
    | none=>rw [hc] at h;exact h.elim
    | some fa=>rw [hc] at h;exact writeC (S:=TgtT P fa.1 fa.2) (C:=C (opVals ρ o.op)) hr hw h
  | calln ins outs C =>
    unfold coreW at h ⊢
    simp only at h ⊢
    cases hc:callOf ρ o.op with
    | none=>rw [hc] at h;exact h.elim
    | some fa=>rw [hc] at h;exact newC (S:=TgtT P fa.1 fa.2) (C:=C (opVals ρ o.op)) hr hw h
  | dfr=>exact h.elim
  | no=>exact h.elim
end Go.Sx
namespace Go.Sx
open Go.RowKit
def rdT (ops : Array Oper) (o : Oper) : List Nat :=
  (match o.guard with
    | some (j,_)=>match (ops[j]?).bind (·.dst) with | some d=> [d] | none=> []
    | none=> [])++o.op.operands.toList.filterMap fun | .tmp t=>some t | _=>none
def wrT (o:Oper):List Nat:=match o.dst with | some d=> [d] | none=> []
def tW (P:Program) (ops:Array Oper) (o:Oper) (a:Ann) (fr:Nat->Value) (K:Value->Hp->Prop) (H:Hp):Prop:=
  match a with
  | .no=>unguardW ops o fr (K undef H)
  | a=>guardW ops o fr (coreW P (evalF fr) o a K H)
def putK (n:Nat) (o:Oper) (s:St) (K:St->Prop):Value->Hp->Prop:=fun v H' =>putW n o.dst v s.fr fun fr' =>K ⟨fr',H',s.df⟩
theorem opW_eq {P:Program} {n:Nat} {ops:Array Oper} {o:Oper} {a:Ann} {s:St} {K:St->Prop} (h:isDfr a=false):
    opW P n ops o a s K=tW P ops o a s.fr (putK n o s K) s.H:=by
  cases a<;>first | rfl | cases h
theorem guardW_iff {ops:Array Oper} {o:Oper} {fr:Nat->Value}: ∃G:Prop,∀X,guardW ops o fr X↔G/\X:=by
  unfold guardW
  cases o.guard with
  | none=>exact ⟨True,fun X=>by simp⟩
  | some jb =>
    obtain ⟨j,b⟩:=jb
    simp only
    cases (ops[j]?).bind (·.dst) with
    | none=>exact ⟨False,fun X=>by simp⟩
    | some d =>
      simp only
      cases fr d with
      | bool c=>exact ⟨_,fun X=>Iff.rfl⟩
      | _=>exact ⟨False,fun X=>by simp⟩
theorem unguardW_iff {ops:Array Oper} {o:Oper} {fr:Nat->Value}: ∃G:Prop,∀X,unguardW ops o fr X↔G/\X:=by
  unfold unguardW
  cases o.guard with
  | none=>exact ⟨False,fun X=>by simp⟩
  | some jb =>
    obtain ⟨j,b⟩:=jb
    simp only
    cases (ops[j]?).bind (·.dst) with
    | none=>exact ⟨False,fun X=>by simp⟩
    | some d =>
      simp only
      cases fr d with
      | bool c=>exact ⟨_,fun X=>Iff.rfl⟩
      | tuple c=>exact ⟨True,fun X=>by simp⟩
      | _=>exact ⟨False,fun X=>by simp⟩
theorem Good.and {T:(Value->Hp->Prop)->Hp->Prop} {rd wr:List Nat} (h:Good T rd wr) (G:Prop):Good (fun K H=>G/\T K H) rd wr:=
  ⟨fun K K' H hg hk => ⟨hg.1, h.step K K' H hg.2 hk⟩, fun K H i sl h1 h2 hg => ⟨hg.1, h.set K H i sl h1 h2 hg.2⟩,
   fun β ⟨b0⟩ K H hg=>⟨(hg b0).1,h.all β ⟨b0⟩ K H fun b=>(hg b).2⟩⟩
theorem Good.congr {T T' :(Value->Hp->Prop)->Hp->Prop} {rd wr:List Nat} (h:Good T rd wr) (e: ∀K H,T K H↔T' K H):Good T' rd wr:=by
  have:T=T' :=funext fun K=>funext fun H=>propext (e K H)
  exact this▸h
theorem good_t {P:Program} {ops:Array Oper} {o:Oper} {fr:Nat->Value} (a:Ann):Good (tW P ops o a fr) (rdS a) (wrS a):=by
  obtain ⟨G,hG⟩:=guardW_iff (ops:=ops) (o:=o) (fr:=fr)
  obtain ⟨U,hU⟩:=unguardW_iff (ops:=ops) (o:=o) (fr:=fr)
  cases a with
  | no =>
    refine Good.congr (T:=fun K H=>U/\K undef H) ⟨fun K K' H h hk=>⟨h.1,hk _ _ (fun _ _=>rfl) h.2⟩,fun K H i sl _ _ h=>h,fun β ⟨b0⟩ K H h=>⟨(h b0).1,fun b=>(h b).2⟩⟩ (fun K H=>(hU _).symm)
  | _=>exact ((good_core _).and G).congr (fun K H=>(hG _).symm)
theorem t_comm {P:Program} {ops:Array Oper} {o:Oper} {fr:Nat->Value} (a:Ann) {T:(Value->Hp->Prop)->Hp->Prop} {rd wr:List Nat} (hT:Good T rd wr)
    (hw: ∀x∈wrS a,x∉rd/\x∉wr) (hr: ∀x∈wr,x∉rdS a) (H:Hp) (K:Value->Value->Hp->Prop)
    (h:tW P ops o a fr (fun v1 H1=>T (fun v2 H2=>K v1 v2 H2) H1) H):T (fun v2 H2=>tW P ops o a fr (fun v1 H1=>K v1 v2 H1) H2) H:=by
  obtain ⟨G,hG⟩:=guardW_iff (ops:=ops) (o:=o) (fr:=fr)
  obtain ⟨U,hU⟩:=unguardW_iff (ops:=ops) (o:=o) (fr:=fr)
  have core: ∀a,(∀x∈wrS a,x∉rd/\x∉wr)->(∀x∈wr,x∉rdS a)->guardW ops o fr (coreW P (evalF fr) o a (fun v1 H1=>T (fun v2 H2=>K v1 v2 H2) H1) H)->
      T (fun v2 H2=>guardW ops o fr (coreW P (evalF fr) o a (fun v1 H1=>K v1 v2 H1) H2)) H:=by
    intro a hw hr h
    obtain ⟨hg,h⟩:=(hG _).1 h
    exact hT.step _ _ _ (core_comm a hT hw hr H K h) fun v2 H2 _ h=>(hG _).2 ⟨hg,h⟩
  cases a with
  | no =>
    obtain ⟨hg,h⟩:=(hU _).1 h
    exact hT.step _ _ _ h fun v2 H2 _ h=>(hU _).2 ⟨hg,h⟩
  | _=>exact core _ hw hr h
theorem mem_rdT_operand {ops:Array Oper} {o:Oper} {t:Nat} (h:Operand.tmp t∈o.op.operands):t∈rdT ops o:=by
  refine List.mem_append.2 (.inr (List.mem_filterMap.2 ⟨_,Array.mem_toList_iff.2 h,rfl⟩))
theorem t_congr {P:Program} {ops:Array Oper} {o:Oper} {a:Ann} {fr fr' :Nat->Value} (hs:isSel o.op=false) (h: ∀t∈rdT ops o,fr t=fr' t) (K:Value->Hp->Prop) (H:Hp):
    tW P ops o a fr K H=tW P ops o a fr' K H:=by
  have hev: ∀x∈o.op.operands,evalF fr x=evalF fr' x:=by
    intro x hx
    cases x with
    | tmp t=>exact h t (mem_rdT_operand hx)
    | _=>rfl
  have hd: ∀j b d,o.guard=some (j,b)->(ops[j]?).bind (·.dst)=some d->fr d=fr' d:=by
    intro j b d hg hd
    refine h d (List.mem_append.2 (.inl ?_))
    rw [hg];simp only;rw [hd];simp
  have hg: ∀X,guardW ops o fr X=guardW ops o fr' X:=by
    intro X
    unfold guardW
    cases hg:o.guard with
    | none=>rfl
    | some jb =>
      obtain ⟨j,b⟩:=jb
      simp only
      cases hx:(ops[j]?).bind (·.dst) with
      | none=>rfl
      | some d=>simp only;rw [hd j b d hg hx]
  have hu: ∀X,unguardW ops o fr X=unguardW ops o fr' X:=by
    intro X
    unfold unguardW
    cases hg:o.guard with
    | none=>rfl
    | some jb =>
      obtain ⟨j,b⟩:=jb
      simp only
      cases hx:(ops[j]?).bind (·.dst) with
      | none=>rfl
      | some d=>simp only;rw [hd j b d hg hx]
  have he:=execOp_congr (ρ:=evalF fr) (ρ' :=evalF fr') o hs hev
  have hc:=callOf_congr (ρ:=evalF fr) (ρ' :=evalF fr') o.op hev
  have hv:=opVals_congr (ρ:=evalF fr) (ρ' :=evalF fr') o.op hev
  cases a with
  | no=>exact hu _
  | sem acc=>simp only [tW,hg,coreW,he]
  | eq v=>simp only [tW,hg,coreW,he,hv]
  | gen=>simp only [tW,hg,coreW,he];rw [hv]
  | specr=>simp only [tW,hg,coreW,he,hv]
  | specw=>simp only [tW,hg,coreW,he,hv]
  | callr=>simp only [tW,hg,coreW,hc,hv]
  | callw=>simp only [tW,hg,coreW,hc,hv]
  | calln=>simp only [tW,hg,coreW,hc,hv]
  | dfr=>simp only [tW,hg,coreW]
def dstOK (n:Nat) (o:Oper):Bool:=match o.dst with | some d=>Nat.blt d n | none=>true
def indep (n : Nat) (ops : Array Oper) (o1 : Oper) (a1 : Ann) (o2 : Oper) (a2 : Ann) : Bool :=
  disjB (wrT o1) (rdT ops o2) && (disjB (wrT o2) (rdT ops o1) && (disjB (wrT o1) (wrT o2) && (disjB (wrS a1) (rdS a2) && (disjB (wrS a1) (wrS a2) && (disjB (wrS a2) (rdS a1) &&
    (!isDfr a1 && (!isDfr a2 && (!isSel o1.op && (!isSel o2.op && dstOK n o2)))))))))
theorem putW_false {n d:Nat} {v:Value} {fr:Nat->Value} {K:(Nat->Value)->Prop} (h:Nat.blt d n=false):putW n (some d) v fr K=False:=by simp [putW,h]
theorem putW_true {n d:Nat} {v:Value} {fr:Nat->Value} {K:(Nat->Value)->Prop} (h:Nat.blt d n=true):putW n (some d) v fr K=K (upd fr d v):=by simp [putW,h]
theorem op_comm {P : Program} {n : Nat} {ops : Array Oper} {o1 o2 : Oper} {a1 a2 : Ann} {s : St} {K : St -> Prop} (hi : indep n ops o1 a1 o2 a2 = true)
    (h:opW P n ops o1 a1 s (fun s1=>opW P n ops o2 a2 s1 K)):opW P n ops o2 a2 s (fun s2=>opW P n ops o1 a1 s2 K):=by
  simp only [indep,Bool.and_eq_true,Bool.not_eq_true'] at hi
  obtain ⟨i1,i2,i3,i4,i5,i6,d1,d2,e1,e2,hok⟩:=hi
  rw [disjB_iff] at i1 i2 i3 i4 i5 i6
  have q1: ∀s,(fun s1:St=>opW P n ops o2 a2 s1 s)=fun s1=>tW P ops o2 a2 s1.fr (putK n o2 s1 s) s1.H:=fun K=>funext fun s1=>opW_eq d2
  have q2: ∀s,(fun s1:St=>opW P n ops o1 a1 s1 s)=fun s1=>tW P ops o1 a1 s1.fr (putK n o1 s1 s) s1.H:=fun K=>funext fun s1=>opW_eq d1
  rw [opW_eq d1,q1] at h
  rw [opW_eq d2,q2]
  let Z:Value->Value->Hp->Prop:=fun v1 v2 H=>putW n o1.dst v1 s.fr fun f1=>putW n o2.dst v2 f1 fun f2=>K ⟨f2,H,s.df⟩
  have keep1: ∀ (v1:Value) (t:Nat),t∈rdT ops o2-> ∀d,o1.dst=some d->upd s.fr d v1 t=s.fr t:=by
    intro v1 t ht d hd
    refine upd_other _ _ fun e=>i1 d (by simp [wrT,hd]) (e▸ht)
  have keep2: ∀ (v2:Value) (t:Nat),t∈rdT ops o1-> ∀d,o2.dst=some d->upd s.fr d v2 t=s.fr t:=by
    intro v2 t ht d hd
    refine upd_other _ _ fun e=>i2 d (by simp [wrT,hd]) (e▸ht)
  have g2:Good (tW P ops o2 a2 s.fr) (rdS a2) (wrS a2):=good_t a2
  have h1:tW P ops o1 a1 s.fr (fun v1 H1=>tW P ops o2 a2 s.fr (fun v2 H2=>Z v1 v2 H2) H1) s.H:=by
    refine (good_t a1).step _ _ _ h fun v1 H1 _ hk=> ?_
    simp only [putK] at hk
    simp only [Z]
    cases hd:o1.dst with
    | none=>rw [hd] at hk;exact hk
    | some d =>
      rw [hd] at hk
      cases hb:Nat.blt d n with
      | false=>rw [putW_false hb] at hk;exact hk.elim
      | true =>
        rw [putW_true hb] at hk
        simp only [putW_true hb]
        rw [t_congr e2 (fr' :=s.fr) (fun t ht=>keep1 v1 t ht d hd)] at hk
        exact hk
  have h2:=t_comm a1 g2 (fun x hx=>⟨i4 x hx,i5 x hx⟩) i6 s.H Z h1
  refine g2.step _ _ _ h2 fun v2 H2 _ hk=> ?_
  simp only [putK]
  cases hd:o2.dst with
  | none =>
    show tW P ops o1 a1 s.fr _ H2
    refine (good_t a1).step _ _ _ hk fun v1 H1 _ hz=> ?_
    simp only [Z,hd] at hz
    exact hz
  | some d =>
    have hb:Nat.blt d n=true:=by simpa [dstOK,hd] using hok
    rw [putW_true hb]
    show tW P ops o1 a1 (upd s.fr d v2) _ H2
    rw [t_congr e1 (fr' :=s.fr) (fun t ht=>keep2 v2 t ht d hd)]
    refine (good_t a1).step _ _ _ hk fun v1 H1 _ hz=> ?_
    simp only [Z,hd] at hz
    simp only [putK]
    cases hd1:o1.dst with
    | none =>
      rw [hd1] at hz
      simp only [putW] at hz ⊢
      simpa [hb] using hz
    | some d1' =>
      rw [hd1] at hz
      cases hb1:Nat.blt d1' n with
      | false=>rw [putW_false hb1] at hz;exact hz.elim
      | true =>
        rw [putW_true hb1,putW_true hb] at hz
        rw [putW_true hb1]
        have hne:d1' ≠d:=fun e=>i3 d1' (by simp [wrT,hd1]) (by simp [wrT,hd,e])
        rw [upd_comm _ _ _ (Ne.symm hne)]
        exact hz
end Go.Sx
namespace Go.Sx
open Go.RowKit
def seqW (P:Program) (n:Nat) (ops:Array Oper):List (Nat×Ann)->St->(St->Prop)->Prop
  | [],s,K=>K s
  | (i,a)::l,s,K=>match ops[i]? with | some o=>opW P n ops o a s fun s' =>seqW P n ops l s' K | none=>False
theorem opW_mono {P:Program} {n:Nat} {ops:Array Oper} {o:Oper} {a:Ann} {s:St} {K K' :St->Prop} (hk: ∀s,K s->K' s) (h:opW P n ops o a s K):opW P n ops o a s K' :=by
  have put: ∀ (d:Option Tmp) (v:Value) (fr:Nat->Value) (F:(Nat->Value)->St),putW n d v fr (fun f=>K (F f))->putW n d v fr (fun f=>K' (F f)):=by
    intro d v fr F h
    unfold putW at h ⊢
    cases d with
    | none=>exact hk _ h
    | some d=>simp only at h ⊢;split<;>simp_all
  by_cases hd:isDfr a=false
  · rw [opW_eq hd] at h ⊢
    exact (good_t a).step _ _ _ h fun v H' _ hp=>put _ _ _ _ hp
  · cases a<;>first | (exact absurd rfl hd) | skip
    obtain ⟨G,hG⟩:=guardW_iff (ops:=ops) (o:=o) (fr:=s.fr)
    obtain ⟨hg,h⟩:=(hG _).1 h
    refine (hG _).2 ⟨hg,?_⟩
    unfold dfrW at h ⊢
    split at h
    · split at h
      · exact put _ _ _ _ h
      · exact h.elim
    · exact h.elim
def indepI (n:Nat) (ops:Array Oper) (x y:Nat×Ann):Bool:=
  match ops[x.1]?,ops[y.1]? with
  | some o1,some o2=>indep n ops o1 x.2 o2 y.2
  | _,_=>false
theorem seqW_front {P : Program} {n : Nat} {ops : Array Oper} {it : Nat × Ann} {L2 : List (Nat × Ann)} : ∀ {L1 : List (Nat × Ann)} {s : St} {K : St -> Prop},
    (∀x∈L1,indepI n ops x it=true)->seqW P n ops (L1++it::L2) s K->seqW P n ops (it::(L1++L2)) s K
  | [],_,_,_,h=>h
  | x :: L1, s, K, hi, h => by
    have hx:=hi x (by simp)
    obtain ⟨i,a⟩:=x
    obtain ⟨j,c⟩:=it
    unfold indepI at hx
    simp only at hx
    cases ho1:ops[i]? with
    | none=>rw [ho1] at hx;cases hx
    | some o1 =>
      cases ho2:ops[j]? with
      | none=>rw [ho1,ho2] at hx;cases hx
      | some o2 =>
        rw [ho1,ho2] at hx
        simp only [List.cons_append,seqW,ho1] at h
        have h2:=opW_mono (fun s hs=>seqW_front (L1:=L1) (fun y hy=>hi y (by simp [hy])) hs) h
        simp only [seqW,ho2] at h2
        have h3:=op_comm hx h2
        simp only [List.cons_append,seqW,ho1,ho2]
        exact h3
theorem seq_sound {P : Program} {n : Nat} {r : Option Nat} {ops : Array Oper} {R : HP} {Q : Exit -> Act -> World -> Prop} : ∀ (l : List (Nat × Ann)) {s : St} {K : St -> Prop} {act : Act} {w : World},
    (r=none∨ ∀x∈l,isDfr x.2=false)->seqW P n ops l s K->Rel n s act->Own s.H R w->(∀a' w',After n K R w a' w' ->Q .normal a' w')->
    wpOpsIn (FrR r) 0 P ops Q (l.map (·.1)) act w
  | [],s,K,act,w,_,h,hr,ho,hq=>hq _ _ ⟨s,h,hr,ho, .refl _⟩
  | (i, a) :: l, s, K, act, w, hd, h, hr, ho, hq => by
    simp only [seqW] at h
    simp only [List.map_cons,wpOpsIn]
    cases hop:ops[i]? with
    | none=>rw [hop] at h;exact h.elim
    | some o =>
      rw [hop] at h
      exact op_sound (hd.imp id fun h=>h (i,a) (by simp)) h hr ho fun a' w' ⟨s',hs,hr',ho',he⟩=>
        seq_sound l (hd.imp id fun h x hx=>h x (by simp [hx])) hs hr' ho' fun a'' w'' ⟨s'',hs',hr'',ho'',he'⟩=>hq _ _ ⟨s'',hs',hr'',ho'',he.trans he'⟩
def zipFrom (i:Nat):List Ann->List (Nat×Ann)
  | []=> []
  | a::l=>(i,a)::zipFrom (i+1) l
theorem zipFrom_idx: ∀ (asg:List Ann) (i:Nat),(zipFrom i asg).map (·.1)=List.range' i asg.length
  | [],_=>rfl
  | a::l,i=>by simp [zipFrom,zipFrom_idx l (i+1),List.range'_succ]
def lenIs:List Ann->Nat->Bool
  | [],n=>Nat.beq n 0
  | _::l,n+1=>lenIs l n
  | _::_,0=>false
theorem lenIs_iff: ∀ {l:List Ann} {n:Nat},lenIs l n=true->l.length=n
  | [],n,h=>(Nat.eq_of_beq_eq_true h).symm
  | _::l,n+1,h=>by simp [lenIs_iff (l:=l) (n:=n) h]
  | _::_,0,h=>by cases h
theorem region_sound {P:Program} {n:Nat} {r:Option Nat} {id:Nat} {ops:Array Oper} {asg:List Ann} {s:St} {K:St->Prop} {act:Act} {w:World} {R:HP} {Q:Exit->Act->World->Prop}
    (hl:lenIs asg ops.size=true) (hd:r=none∨asg.all (fun a=> !isDfr a)=true) (h:seqW P n ops (zipFrom 0 asg) s K) (hr:Rel n s act) (ho:Own s.H R w)
    (hq: ∀a' w',After n K R w a' w' ->Q .normal a' w'):(Code.region id ops false).wpIn (FrR r) 0 P Q act w:=by
  refine wpIn_region ?_
  have e:List.range ops.size=(zipFrom 0 asg).map (·.1):=by rw [zipFrom_idx,lenIs_iff hl,List.range_eq_range']
  rw [e]
  refine seq_sound _ (hd.imp _root_.id fun hd x hx=> ?_) h hr ho hq
  have mem: ∀ (asg:List Ann) (i:Nat) x,x∈zipFrom i asg->x.2∈asg:=by
    intro asg
    induction asg with
    | nil=>intro i x hx;cases hx
    | cons a l ih =>
      intro i x hx
      rcases List.mem_cons.1 hx with rfl | hx
      · simp
      · exact List.mem_cons.2 (.inr (ih _ x hx))
  have:=List.all_eq_true.1 hd x.2 (mem asg 0 x hx)
  simpa using this
inductive Prec (ops:Array Oper):Nat->Nat->Prop where
  | direct {o:Oper} {e:Edge} {i:Nat} (ho:ops[i]? =some o) (he:e∈o.after) (hb:Region.binds .any e=true):Prec ops e.on i
  | trans {o:Oper} {e:Edge} {x i:Nat} (ho:ops[i]? =some o) (he:e∈o.after) (hb:Region.binds .any e=true) (h:Prec ops x e.on):Prec ops x i
def maskOf (o:Oper) (acc:List Nat):Nat:=
  o.after.toList.foldl (fun m e=>bif Region.binds .any e then m ||| 2^e.on ||| acc.getD e.on 0 else m) 0
theorem maskOf_bit {o : Oper} {acc : List Nat} {x : Nat} (h : (maskOf o acc).testBit x = true) : ∃ e ∈ o.after, Region.binds .any e = true /\ (x = e.on ∨ (acc.getD e.on 0).testBit x = true) := by
  have key: ∀ (l:List Edge) (m:Nat),(l.foldl (fun m e=>bif Region.binds .any e then m ||| 2^e.on ||| acc.getD e.on 0 else m) m).testBit x=true->
      m.testBit x=true∨ ∃e∈l,Region.binds .any e=true/\(x=e.on∨(acc.getD e.on 0).testBit x=true):=by
    intro l
    induction l with
    | nil=>exact fun m h=> .inl h
    | cons e l ih =>
      intro m h
      rcases ih _ h with h | ⟨e',he',h⟩
      · cases hb:Region.binds .any e with
        | false=>simp only [hb,cond_false] at h;exact .inl h
        | true =>
          simp only [hb,cond_true,Nat.testBit_or,Bool.or_eq_true] at h
          rcases h with (h | h) | h
          · exact .inl h
          · rw [Nat.testBit_two_pow] at h
            exact .inr ⟨e,by simp,hb, .inl (by simpa using (of_decide_eq_true h).symm)⟩
          · exact .inr ⟨e,by simp,hb, .inr h⟩
      · exact .inr ⟨e',by simp [he'],h⟩
  rcases key _ _ h with h | ⟨e,he,h⟩
  · simp at h
  · exact ⟨e,Array.mem_toList_iff.1 he,h⟩
def chk (n : Nat) (ops : Array Oper) : (i : Nat) -> (done : List (Nat × Ann)) -> (masks : List Nat) -> List Ann -> Bool
  | _,_,_,[]=>true
  | i, done, masks, a :: l =>
    match ops[i]? with
    | none=>false
    | some o =>
      o.after.toList.all (fun e=> !Region.binds .any e || Nat.blt e.on i) && ((done.all fun x=>(maskOf o masks).testBit x.1 || indepI n ops x (i,a)) &&
        chk n ops (i+1) (done++ [(i,a)]) (masks++ [maskOf o masks]) l)
structure Drawn (n:Nat) (ops:Array Oper) (L:List (Nat×Ann)):Prop where
  pair: ∀L1 it L2,L=L1++it::L2-> ∀x∈L1,Prec ops x.1 it.1∨indepI n ops x it=true
theorem chk_sound {n : Nat} {ops : Array Oper} : ∀ (l : List Ann) (i : Nat) (done : List (Nat × Ann)) (masks : List Nat),
    chk n ops i done masks l=true->masks.length=i->(∀y x,y<i->(masks.getD y 0).testBit x=true->Prec ops x y)->
    (∀it,it∈zipFrom i l-> ∃o,ops[it.1]? =some o/\ ∀e∈o.after,Region.binds .any e=true->e.on<it.1)/\
    (∀L1 it L2,zipFrom i l=L1++it::L2-> ∀x,x∈done++L1->Prec ops x.1 it.1∨indepI n ops x it=true)
  | [],i,done,masks,_,_,_=>⟨fun it h=>(by cases h),fun L1 it L2 h=>(by simp [zipFrom] at h)⟩
  | a :: l, i, done, masks, h, hm, hp => by
    simp only [chk] at h
    cases ho:ops[i]? with
    | none=>rw [ho] at h;cases h
    | some o =>
      rw [ho] at h
      simp only [Bool.and_eq_true] at h
      obtain ⟨h1,h2,h3⟩:=h
      have hback: ∀e∈o.after,Region.binds .any e=true->e.on<i:=by
        intro e he hb
        have:=List.all_eq_true.1 h1 e (Array.mem_toList_iff.2 he)
        simp only [hb,Bool.not_true,Bool.false_or] at this
        simpa [Nat.blt_eq] using this
      have hmask: ∀x,(maskOf o masks).testBit x=true->Prec ops x i:=by
        intro x hx
        obtain ⟨e,he,hb,h⟩:=maskOf_bit hx
        rcases h with rfl | h
        · exact .direct ho he hb
        · exact .trans ho he hb (hp e.on x (hback e he hb) h)
      obtain ⟨r1,r2⟩:=chk_sound l (i+1) (done++ [(i,a)]) (masks++ [maskOf o masks]) h3 (by simp [hm]) (by
        intro y x hy hb
        by_cases e:y=i
        · subst e
          rw [List.getD_eq_getElem?_getD,List.getElem?_append_right (by omega)] at hb
          simp [hm] at hb
          exact hmask x hb
        · rw [List.getD_eq_getElem?_getD,List.getElem?_append_left (by omega),←List.getD_eq_getElem?_getD] at hb
          exact hp y x (by omega) hb)
      refine ⟨fun it hit=> ?_,fun L1 it L2 hL x hx=> ?_⟩
      · rcases List.mem_cons.1 hit with rfl | hit
        · exact ⟨o,ho,hback⟩
        · exact r1 it hit
      · cases L1 with
        | nil =>
          simp only [zipFrom,List.nil_append,List.cons.injEq] at hL
          obtain ⟨rfl,-⟩:=hL
          rw [List.append_nil] at hx
          have:=List.all_eq_true.1 h2 x hx
          rcases Bool.or_eq_true _ _▸this with h | h
          · exact .inl (hmask x.1 h)
          · exact .inr h
        | cons y L1 =>
          simp only [zipFrom,List.cons_append,List.cons.injEq] at hL
          obtain ⟨rfl,hL⟩:=hL
          exact r2 L1 it L2 hL x (by simp at hx ⊢;rcases hx with h | h | h<;>simp [h])
theorem go_acc {m:Region.Mode} {ops:Array Oper}: ∀ (fuel t:Nat) (listed:Array Bool) (acc:List Nat),
    Region.linearise.go m ops fuel t listed acc=acc.reverse++Region.linearise.go m ops fuel t listed []
  | 0,t,listed,acc=>by simp [Region.linearise.go]
  | fuel + 1, t, listed, acc => by
    simp only [Region.linearise.go]
    split
    · rename_i i _
      rw [go_acc fuel _ _ (i::acc),go_acc fuel _ _ [i]]
      simp
    · simp
theorem draw_sound {P : Program} {n : Nat} {r : Option Nat} {ops : Array Oper} {R : HP} {Q : Exit -> Act -> World -> Prop} (fuel : Nat) : ∀ (t : Nat) (listed : Array Bool) (L : List (Nat × Ann)) {s : St} {K : St -> Prop} {act : Act} {w : World},
    L.length=fuel->listed.size=ops.size->(∀i,i<ops.size->(listed.getD i true=false↔i∈L.map (·.1)))->
    (L.map (·.1)).Nodup->
    (∀it∈L,it.1<ops.size)->
    (∀i o e,ops[i]? =some o->listed.getD i true=true->e∈o.after->Region.binds .any e=true->listed.getD e.on false=true)->
    (∀it L2,L=it::L2-> ∀o e,ops[it.1]? =some o->e∈o.after->Region.binds .any e=true->listed.getD e.on false=true)->
    (∀L1 it L2,L=L1++it::L2-> ∀o e,ops[it.1]? =some o->e∈o.after->Region.binds .any e=true->listed.getD e.on false=true∨e.on∈L1.map (·.1))->
    (∀L1 it L2,L=L1++it::L2-> ∀x∈L1,Prec ops x.1 it.1∨indepI n ops x it=true)->
    (r=none∨ ∀x∈L,isDfr x.2=false)->seqW P n ops L s K->Rel n s act->Own s.H R w->(∀a' w',After n K R w a' w' ->Q .normal a' w')->
    wpOpsIn (FrR r) 0 P ops Q (Region.linearise.go .any ops fuel t listed []) act w:=by
  induction fuel with
  | zero =>
    intro t listed L s K act w hlen _ _ _ _ _ _ _ _ _ h hr ho hq
    cases L with
    | nil=>exact hq _ _ ⟨s,h,hr,ho, .refl _⟩
    | cons a l=>simp at hlen
  | succ fuel ih =>
    intro t listed L s K act w hlen hsz hin hnd hlt hdown hfirst hedge hpair hd h hr ho hq
    simp only [Region.linearise.go]
    generalize hrs:(List.range ops.size).filter (fun i=> !listed.getD i true && ((ops[i]?).map (·.after.all fun e=> !Region.binds .any e || listed.getD e.on false)).getD false)=rs
    have hmem: ∀i,i∈rs↔i<ops.size/\listed.getD i true=false/\ ∃o,ops[i]? =some o/\ ∀e∈o.after,Region.binds .any e=true->listed.getD e.on false=true:=by
      intro i
      rw [←hrs,List.mem_filter,List.mem_range]
      constructor
      · rintro ⟨h1,h2⟩
        simp only [Bool.and_eq_true,Bool.not_eq_true'] at h2
        refine ⟨h1,h2.1,?_⟩
        cases hop:ops[i]? with
        | none=>rw [hop] at h2;simp at h2
        | some o =>
          rw [hop] at h2
          refine ⟨o,rfl,fun e he hb=> ?_⟩
          have:=Array.all_eq_true'.1 h2.2 e he
          simpa [hb] using this
      · rintro ⟨h1,h2,o,hop,he⟩
        refine ⟨h1,?_⟩
        simp only [Bool.and_eq_true,Bool.not_eq_true']
        refine ⟨h2,?_⟩
        rw [hop]
        refine Array.all_eq_true'.2 fun e hea=> ?_
        cases hb:Region.binds .any e with
        | false=>rfl
        | true=>simp [he e hea hb]
    have hne:rs.length≠0:=by
      cases L with
      | nil=>simp at hlen
      | cons it L2 =>
        have hl:=hlt it (by simp)
        have:it.1∈rs:=(hmem it.1).2 ⟨hl,(hin it.1 hl).2 (by simp),ops[it.1],by simp [hl],fun e he hb=>hfirst it L2 rfl _ e (by simp [hl]) he hb⟩
        intro h0
        rw [List.length_eq_zero_iff] at h0
        rw [h0] at this
        cases this
    have hidx:t%rs.length<rs.length:=Nat.mod_lt _ (Nat.pos_of_ne_zero hne)
    rw [List.getElem?_eq_getElem hidx]
    generalize hi:rs[t%rs.length]=i
    have hi' :i∈rs:=hi▸List.getElem_mem hidx
    obtain ⟨hil,hil2,o,hop,hready⟩:=(hmem i).1 hi'
    simp only
    rw [go_acc]
    simp only [List.reverse_cons,List.reverse_nil,List.nil_append,List.singleton_append]
    have hiL:=(hin i hil).1 hil2
    obtain ⟨it,hit,rfl⟩:=List.mem_map.1 hiL
    obtain ⟨L1,L2,rfl⟩:=List.append_of_mem hit
    have hnoprec: ∀x∈L1,¬Prec ops x.1 it.1:=by
      have closed: ∀ {a b:Nat},Prec ops a b->(listed.getD b true=true∨b=it.1)->listed.getD a false=true:=by
        intro a b hp
        induction hp with
        | direct ho' he hb =>
          rintro (hl | rfl)
          · exact hdown _ _ _ ho' hl he hb
          · rw [hop] at ho';cases ho';exact hready _ he hb
        | @trans o' e x i ho' he hb _ ihp =>
          intro hl
          have h1:listed.getD e.on false=true:=by
            rcases hl with hl | rfl
            · exact hdown _ _ _ ho' hl he hb
            · rw [hop] at ho';cases ho';exact hready _ he hb
          refine ihp (.inl ?_)
          simp only [Array.getD_eq_getD_getElem?] at h1 ⊢
          cases hx:listed[e.on]? with
          | none=>rw [hx] at h1;simp at h1
          | some b=>rw [hx] at h1;simpa using h1
      intro x hx hp
      have hxl:=hlt x (by simp [hx])
      have h1:=closed hp (.inr rfl)
      have h2:=(hin x.1 hxl).2 (by simp;exact .inl ⟨x.2,hx⟩)
      simp only [Array.getD_eq_getD_getElem?] at h1 h2
      cases hx' :listed[x.1]? with
      | none=>rw [hx'] at h1;simp at h1
      | some b=>rw [hx'] at h1 h2;simp at h1 h2;rw [h1] at h2;cases h2
    have hfront:=seqW_front (fun x hx=>(hpair L1 it L2 rfl x hx).resolve_left (hnoprec x hx)) h
    obtain ⟨i,a⟩:=it
    simp only [seqW] at hfront
    simp only [wpOpsIn]
    rw [hop] at hfront ⊢
    refine op_sound (hd.imp id fun h=>h (i,a) (by simp)) hfront hr ho fun a' w' ⟨s',hs,hr',ho',he⟩=> ?_
    have hget: ∀j,(listed.setIfInBounds i true).getD j true=if j=i then true else listed.getD j true:=by
      intro j
      simp only [Array.getD_eq_getD_getElem?,Array.getElem?_setIfInBounds]
      by_cases e:j=i
      · subst e;simp;split<;>rfl
      · simp [e,Ne.symm e]
    have hgetf: ∀j,listed.getD j false=true∨j=i->(listed.setIfInBounds i true).getD j false=true:=by
      intro j hj
      simp only [Array.getD_eq_getD_getElem?,Array.getElem?_setIfInBounds] at hj ⊢
      by_cases e:j=i
      · subst e;simp [hsz];simp at hil;simp [hil]
      · rcases hj with hj | hj
        · simp [Ne.symm e];simpa using hj
        · exact absurd hj e
    rw [List.map_append,List.map_cons] at hnd
    have hnd' :((L1++L2).map (·.1)).Nodup:=by
      rw [List.map_append]
      exact List.Nodup.sublist (List.Sublist.append_left (List.sublist_cons_self _ _) _) hnd
    have hni:i∉(L1++L2).map (·.1):=by
      rw [List.map_append,List.mem_append]
      rw [List.nodup_append] at hnd
      obtain ⟨_,h2,h3⟩:=hnd
      rw [List.nodup_cons] at h2
      rintro (h | h)
      · exact h3 i h i (by simp) rfl
      · exact h2.1 h
    have hsub: ∀M1 y M2,L1++L2=M1++y::M2-> ∃N1 N2,L1++(i,a)::L2=N1++y::N2/\(∀x∈M1,x∈N1)/\(∀x∈N1,x∈M1∨x=(i,a)):=by
      intro M1 y M2 hM
      rcases List.append_eq_append_iff.1 hM with ⟨asg,h1,h2⟩ | ⟨bs,h1,h2⟩
      ·
        subst h1
        refine ⟨L1++(i,a)::asg,M2,by rw [h2];simp,fun x hx=> ?_,fun x hx=> ?_⟩
        · rw [List.mem_append] at hx ⊢;rcases hx with h | h<;>simp [h]
        · rw [List.mem_append,List.mem_cons] at hx;rw [List.mem_append];rcases hx with h | h | h<;>simp [h]
      ·
        subst h1
        cases bs with
        | nil =>
          simp only [List.nil_append] at h2
          subst h2
          exact ⟨M1++ [(i,a)],M2,by simp,fun x hx=>by simp [hx],fun x hx=>by simp at hx;rcases hx with h | h<;>simp [h]⟩
        | cons b bs =>
          simp only [List.cons_append,List.cons.injEq] at h2
          obtain ⟨rfl,rfl⟩:=h2
          exact ⟨M1,bs++(i,a)::L2,by simp,fun x hx=>hx,fun x hx=> .inl hx⟩
    have hstep:=ih (t/rs.length) (listed.setIfInBounds i true) (L1++L2) (s:=s') (K:=K) (act:=a') (w:=w') (by simp at hlen ⊢;omega) (by simp [hsz])
      (fun j hj=>by
        rw [hget]
        by_cases e:j=i
        · subst e;simp only [if_true];exact ⟨fun h=>(by cases h),fun h=>absurd h hni⟩
        · rw [if_neg e,hin j hj];simp [e])
      hnd' (fun it hit=>hlt it (by simp at hit ⊢;rcases hit with h | h<;>simp [h]))
      (fun j o' e ho' hl hea hb=>by
        rw [hget] at hl
        by_cases ej:j=i
        · subst ej;rw [hop] at ho';cases ho';exact hgetf _ (.inl (hready e hea hb))
        · rw [if_neg ej] at hl;exact hgetf _ (.inl (hdown j o' e ho' hl hea hb)))
      (fun y M2 hM o' e ho' hea hb=>by
        obtain ⟨N1,N2,hN,_,hN2⟩:=hsub [] y M2 hM
        rcases hedge N1 y N2 hN o' e ho' hea hb with h | h
        · exact hgetf _ (.inl h)
        · obtain ⟨x,hx,hxe⟩:=List.mem_map.1 h
          rcases hN2 x hx with h | rfl
          · cases h
          · exact hgetf _ (.inr hxe.symm))
      (fun M1 y M2 hM o' e ho' hea hb=>by
        obtain ⟨N1,N2,hN,hN1,hN2⟩:=hsub M1 y M2 hM
        rcases hedge N1 y N2 hN o' e ho' hea hb with h | h
        · exact .inl (hgetf _ (.inl h))
        · obtain ⟨x,hx,hxe⟩:=List.mem_map.1 h
          rcases hN2 x hx with h | rfl
          · exact .inr (List.mem_map.2 ⟨x,h,hxe⟩)
          · exact .inl (hgetf _ (.inr hxe.symm)))
      (fun M1 y M2 hM x hx=>by
        obtain ⟨N1,N2,hN,hN1,_⟩:=hsub M1 y M2 hM
        exact hpair N1 y N2 hN x (hN1 x hx))
      (hd.imp id fun h x hx=>h x (by simp at hx ⊢;rcases hx with h | h<;>simp [h])) hs hr' ho' (fun a'' w'' ⟨s'',hs',hr'',ho'',he'⟩=>hq _ _ ⟨s'',hs',hr'',ho'',he.trans he'⟩)
    exact hstep
def regOK (n:Nat) (ops:Array Oper) (asg:List Ann):Bool:=lenIs asg ops.size && chk n ops 0 [] [] asg
theorem region_draw_sound {P : Program} {n : Nat} {r : Option Nat} {id : Nat} {ops : Array Oper} {asg : List Ann} {s : St} {K : St -> Prop} {act : Act} {w : World} {R : HP} {Q : Exit -> Act -> World -> Prop}
    (hP:P.follows .mixedOrders=true) (hc:regOK n ops asg=true) (hd:r=none∨asg.all (fun a=> !isDfr a)=true) (h:seqW P n ops (zipFrom 0 asg) s K) (hr:Rel n s act) (ho:Own s.H R w)
    (hq: ∀a' w',After n K R w a' w' ->Q .normal a' w'):(Code.region id ops true).wpIn (FrR r) 0 P Q act w:=by
  refine wpIn_region_draw fun t=> ?_
  simp only [regOK,Bool.and_eq_true] at hc
  have hlen:=lenIs_iff hc.1
  rw [hP]
  simp only [Region.schedule,Bool.true_or,if_true,Region.linearise]
  obtain ⟨c1,c2⟩:=chk_sound asg 0 [] [] hc.2 rfl (fun y x hy=>by omega)
  have hidx:=zipFrom_idx asg 0
  have hzlen:(zipFrom 0 asg).length=ops.size:=by rw [←List.length_map (f:=(·.1)),hidx];simp [hlen]
  have hmemlt: ∀it∈zipFrom 0 asg,it.1<ops.size:=by
    intro it hit
    have:it.1∈(zipFrom 0 asg).map (·.1):=List.mem_map.2 ⟨it,hit,rfl⟩
    rw [hidx,List.mem_range'_1] at this
    omega
  have hahead: ∀L1 it L2,zipFrom 0 asg=L1++it::L2-> ∀j,j<it.1->j∈L1.map (·.1):=by
    intro L1 it L2 hL j hj
    have h1:(L1.map (·.1))++it.1::L2.map (·.1)=List.range' 0 asg.length:=by rw [←hidx,hL];simp
    have hsort:((L1.map (·.1))++it.1::L2.map (·.1)).Pairwise (· < ·):=by rw [h1];exact List.pairwise_lt_range'
    have hin:it.1∈List.range' 0 asg.length:=by rw [←h1];simp
    have hj' :j∈(L1.map (·.1))++it.1::L2.map (·.1):=by
      rw [h1,List.mem_range'_1]
      rw [List.mem_range'_1] at hin
      omega
    rcases List.mem_append.1 hj' with h | h
    · exact h
    · rcases List.mem_cons.1 h with h | h
      · omega
      · have:=(List.pairwise_cons.1 (List.pairwise_append.1 hsort).2.1).1 j h
        omega
  have hw0:Own s.H R { w with drawn:=w.drawn+1 }:=ho.same fun _ _ h=>h
  refine draw_sound ops.size t (Array.replicate ops.size false) (zipFrom 0 asg) hzlen (by simp) ?_ (by rw [hidx];exact List.nodup_range') hmemlt ?_ ?_ ?_ (fun L1 it L2 hL x hx=>c2 L1 it L2 hL x (by simpa using hx)) ?_ h hr hw0 ?_
  · intro i hi
    rw [hidx,List.mem_range'_1]
    simp [Array.getD_eq_getD_getElem?,hi,hlen]
  · intro i o e hop hl
    have hi:i<ops.size:=by
      rcases Nat.lt_or_ge i ops.size with h | h
      · exact h
      · simp [Array.getElem?_eq_none h] at hop
    simp [Array.getD_eq_getD_getElem?,hi] at hl
  · intro it L2 hL o e hop hea hb
    obtain ⟨o',ho',hb'⟩:=c1 it (by rw [hL];simp)
    rw [hop] at ho'
    cases ho'
    have:=hahead [] it L2 hL e.on (hb' e hea hb)
    cases this
  · intro L1 it L2 hL o e hop hea hb
    obtain ⟨o',ho',hb'⟩:=c1 it (by rw [hL];simp)
    rw [hop] at ho'
    cases ho'
    exact .inr (hahead L1 it L2 hL e.on (hb' e hea hb))
  · refine hd.imp _root_.id fun hd x hx=> ?_
    have mem: ∀ (asg:List Ann) (i:Nat) x,x∈zipFrom i asg->x.2∈asg:=by
      intro asg
      induction asg with
      | nil=>intro i x hx;cases hx
      | cons a l ih =>
        intro i x hx
        rcases List.mem_cons.1 hx with rfl | hx
        · simp
        · exact List.mem_cons.2 (.inr (ih _ x hx))
    have:=List.all_eq_true.1 hd x.2 (mem asg 0 x hx)
    simpa using this
  · rintro a' w' ⟨s',hs,hr',ho',he⟩
    exact hq _ _ ⟨s',hs,hr',ho',Ext.trans (b:= { w with drawn:=w.drawn+1 }) ⟨rfl,rfl,rfl,Nat.le_refl _,by first | exact Nat.le_refl _ | exact Nat.le_succ _ | simp⟩ he⟩
end Go.Sx
namespace Go.Sx
open Go.RowKit
inductive Script:Type 1 where
  | done
  | reg (asg:List Ann) (k:Script)
  | condT (k:Script)
  | condF (k:Script)
  | cond (k1 k2:Script)
  | caseP (b:St->Bool) (k1 k2:Script)
  | cut (X:Type) (live:X->List (Nat×Value)) (heap:X->List (Nat×Slot)) (Φ:X->Prop) (k:X->Script)
  | join (X:Type) (live:X->List (Nat×Value)) (heap:X->List (Nat×Slot)) (Φ:X->Prop) (k1:Script) (k2:X->Script)
  | inv (X:Type) (live:X->List (Nat×Value)) (heap:X->List (Nat×Slot)) (Φ:X->Prop) (μ:X->Nat) (kb:X->Script)
  | sinv (l:Nat) (X:Type) (live:X->List (Nat×Value)) (heap:X->List (Nat×Slot)) (Φ:X->Prop) (μ:X->Nat) (k0:Script) (k1:X->Script)
  | ghost (ids:List Nat) (φ:List Slot->Prop) (k:Script)
  | rf (ts ins outs:List Nat) (C:(Nat->Value)->List Slot->Ctr) (k:Script)
  | rfx (id:Nat) (ts ins outs:List Nat) (C:(Nat->Value)->List Slot->Ctr) (k:Script)
def lookL {α:Type _}:List (Nat×α)->Nat->Option α
  | [],_=>none
  | (i,v)::l,j=>bif Nat.beq j i then some v else lookL l j
def mkS (live:List (Nat×Value)) (heap:List (Nat×Slot)) (junk:Nat->Value) (df:List Deferred):St where
  fr:=fun i=>match lookL live i with | some v=>v | none=>junk i
  H:=fun i=>match lookL heap i with | some s=>s | none=> .free
  df:=df
def liveW (l:List (Nat×Value)) (fr:Nat->Value) (Y:Prop):Prop:=
  match l with
  | []=>Y
  | (i,v)::l=>fr i=v/\liveW l fr Y
def heapW (l:List (Nat×Slot)) (H:Hp) (Y:Prop):Prop:=
  match l with
  | []=>Y
  | (i,s)::l=>H i=s/\heapW l H Y
def dfW (a b:List Deferred) (Y:Prop):Prop:=
  match a with
  | []=>(match b with | []=>Y | _=>False)
  | x::l=>x::l=b/\Y
def atW (live:List (Nat×Value)) (heap:List (Nat×Slot)) (df:List Deferred) (s:St) (X:Prop):Prop:=liveW live s.fr (heapW heap s.H (dfW s.df df X))
def dfrOK (r:Option Nat) (asg:List Ann):Bool:=match r with | none=>true | some _=>asg.all (fun a=> !isDfr a)
abbrev markOf (D:Nat):Deferred:= { target:= .collected D,args:= #[] }
def RangeT (P : Program) (n : Nat) (g : Operand) (ps : Array Tmp) (asg b : Code) (fr : Nat -> Value) (Hs : List Slot) (X : Type) (us : X -> List Slot) (Φ : X -> Prop) : Prop :=
  ∀ (R : HP) (w : World) (act : Act), act.tmps.size = n -> (∀ i, act.tmps.getD i undef = fr i) -> Own (ofList Hs) R w ->
    (Code.rangeFunc g ps asg b).wpIn (FrR none) 0 P (fun e a' w' =>e= .normal/\a'.tmps=act.tmps/\ ∃D x,a'.defers=markOf D::act.defers/\Φ x/\Own (ofList (.blk D (.deferred (some []))::us x)) R w' /\Ext w w') act w
theorem RangeT.use {P:Program} {n:Nat} {g:Operand} {ps:Array Tmp} {asg b:Code} {fr:Nat->Value} {H:Hp} {ins outs:List Nat} {X:Type} {us:X->List Slot} {Φ:X->Prop} {R:HP} {w:World} {act:Act}
    (h:RangeT P n g ps asg b fr (ins.map H) X us Φ) (hz:act.tmps.size=n) (ht: ∀i,act.tmps.getD i undef=fr i) (hi:ins.Nodup) (ho:outs.Nodup) (hw:Own H R w):
    (Code.rangeFunc g ps asg b).wpIn (FrR none) 0 P (fun e a' w' =>e= .normal/\a'.tmps=act.tmps/\ ∃D x,a'.defers=markOf D::act.defers/\Φ x/\Own (updL (clears H ins) outs (.blk D (.deferred (some []))::us x)) R w' /\Ext w w') act w:=
  wpIn_mono (h _ w act hz ht (own_split hi hw)) fun _ _ _ ⟨h1,h2,D,x,h3,h4,h5,h6⟩=>⟨h1,h2,D,x,h3,h4,own_join ho h5,h6⟩
def RangeX (P : Program) (n : Nat) (g : Operand) (ps : Array Tmp) (asg b : Code) (id : Nat) (fr : Nat -> Value) (Hs : List Slot) (X : Type) (us : X -> List Slot) (Φ : X -> Prop) : Prop :=
  ∀ (R : HP) (w : World) (act : Act), act.tmps.size = n -> (∀ i, act.tmps.getD i undef = fr i) -> Own (ofList Hs) R w ->
    (Code.rangeFunc g ps asg b).wpIn (FrR none) 0 P (fun e a' w' =>(e= .normal∨e= .exit id)/\a'.tmps=act.tmps/\ ∃D x,a'.defers=markOf D::act.defers/\Φ x/\Own (ofList (.blk D (.deferred (some []))::us x)) R w' /\Ext w w') act w
theorem RangeX.use {P:Program} {n:Nat} {g:Operand} {ps:Array Tmp} {asg b:Code} {id:Nat} {fr:Nat->Value} {H:Hp} {ins outs:List Nat} {X:Type} {us:X->List Slot} {Φ:X->Prop} {R:HP} {w:World} {act:Act}
    (h:RangeX P n g ps asg b id fr (ins.map H) X us Φ) (hz:act.tmps.size=n) (ht: ∀i,act.tmps.getD i undef=fr i) (hi:ins.Nodup) (ho:outs.Nodup) (hw:Own H R w):
    (Code.rangeFunc g ps asg b).wpIn (FrR none) 0 P (fun e a' w' =>(e= .normal∨e= .exit id)/\a'.tmps=act.tmps/\ ∃D x,a'.defers=markOf D::act.defers/\Φ x/\Own (updL (clears H ins) outs (.blk D (.deferred (some []))::us x)) R w' /\Ext w w') act w:=
  wpIn_mono (h _ w act hz ht (own_split hi hw)) fun _ _ _ ⟨h1,h2,D,x,h3,h4,h5,h6⟩=>⟨h1,h2,D,x,h3,h4,own_join ho h5,h6⟩
abbrev bothW (p:Prop):Prop:=p/\p
def agreeW (ts:List Nat) (fr' fr:Nat->Value) (Y:Prop):Prop:=
  match ts with
  | []=>Y
  | t::ts=>fr' t=fr t->agreeW ts fr' fr Y
theorem agreeW_self: ∀ {ts:List Nat} {fr:Nat->Value} {Y:Prop},agreeW ts fr fr Y->Y
  | [],_,_,h=>h
  | _::_,_,_,h=>agreeW_self (h rfl)
def codeW (P : Program) (n : Nat) (r : Option Nat) : Nat -> Option Code -> Code -> Script -> St -> (Exit -> St -> Script -> Prop) -> Prop
  | 0,_,_,_,_,_=>False
  | f + 1, some body, c, k, s, K => codeW P n r f none c k s fun e s' k' =>
      match e with
      | .goto l=>match findLabel body l with | some rest=>codeW P n r f (some body) rest k' s' K | none=>K (.goto l) s' k'
      | e=>K e s' k'
  | f + 1, none, c, .cut _ live heap Φ k, s, K =>
      (∃x,Φ x/\atW (live x) (heap x) s.df s True)/\ ∀x (junk:Nat->Value),Φ x->codeW P n r f none c (k x) (mkS (live x) (heap x) junk s.df) K
  | f+1,none,c, .caseP b k1 k2,s,K=>(b s=true->codeW P n r f none c k1 s K)/\(b s=false->codeW P n r f none c k2 s K)
  | f+1,none,c, .ghost ids φ k,s,K=>onB (nodB ids) ((∀ (R:HP) (w:World),Own (ofList (ids.map s.H)) R w->φ (ids.map s.H))/\(φ (ids.map s.H)->codeW P n r f none c k s K))
  | _+1,none, .skip,k,s,K=>K .normal s k
  | _+1,none, .label _,k,s,K=>K .normal s k
  | _+1,none, .ret,k,s,K=>K .ret s k
  | _+1,none, .exit id,k,s,K=>K (.exit id) s k
  | _+1,none, .goto l,k,s,K=>K (.goto l) s k
  | f + 1, none, .seq x y, .join _ live heap Φ k1 k2, s, K =>
      codeW P n r f none x k1 s (fun e s' k' =>match e with | .normal=> ∃x,Φ x/\atW (live x) (heap x) s.df s' True | e=>K e s' k')/\
      ∀x (junk:Nat->Value),Φ x->codeW P n r f none y (k2 x) (mkS (live x) (heap x) junk s.df) K
  | f+1,none, .seq x y,k,s,K=>codeW P n r f none x k s fun e s' k' =>match e with | .normal=>codeW P n r f none y k' s' K | e=>K e s' k'
  | _ + 1, none, .region _ ops draw, .reg asg k', s, K =>
      onB (bif draw then regOK n ops asg else lenIs asg ops.size) (onB (dfrOK r asg) (seqW P n ops (zipFrom 0 asg) s fun s' =>K .normal s' k'))
  | f + 1, none, .cond c x y, k, s, K =>
      match evalF s.fr c with
      | .bool b =>
        match k with
        | .condT k' =>b=true/\codeW P n r f none x k' s K
        | .condF k' =>b=false/\codeW P n r f none y k' s K
        | .cond k1 k2=>(b=true->codeW P n r f none x k1 s K)/\(b=false->codeW P n r f none y k2 s K)
        | _=>False
      | _=>False
  | f + 1, none, .block id c, k, s, K => codeW P n r f none c k s fun e s' k' =>
      match e with
      | .exit id' =>match Nat.beq id' id with | true=>K .normal s' k' | false=>K (.exit id') s' k'
      | e=>K e s' k'
  | f + 1, none, .loop c, .inv _ live heap Φ μ kb, s, K =>
      (∃x,Φ x/\atW (live x) (heap x) s.df s True)/\ ∀x (junk:Nat->Value),Φ x->
        codeW P n r f none c (kb x) (mkS (live x) (heap x) junk s.df) fun e s' k' =>
          match e with
          | .normal=> ∃y,Φ y/\μ y<μ x/\atW (live y) (heap y) s.df s' True
          | e=>K e s' k'
  | f+1,none, .loop c,k,s,K=>codeW P n r f none c k s fun e s' k' =>match e with | .normal=>codeW P n r f none (.loop c) k' s' K | e=>K e s' k'
  | f + 1, none, .scope body, .sinv l _ live heap Φ μ k0 k1, s, K =>
      match r,findLabel body l with
      | none, some rest =>
        codeW P n r f none body k0 s (fun e s' k' =>
          match e with
          | .goto l' =>match Nat.beq l' l with | true=> ∃x,Φ x/\atW (live x) (heap x) s.df s' True | false=>False
          | e=>K e s' k')/\
        ∀ x (junk : Nat -> Value), Φ x -> codeW P n r f none rest (k1 x) (mkS (live x) (heap x) junk s.df) fun e s' k' =>
          match e with
          | .goto l' =>match Nat.beq l' l with | true=> ∃y,Φ y/\μ y<μ x/\atW (live y) (heap y) s.df s' True | false=>False
          | e=>K e s' k'
      | _,_=>False
  | f+1,none, .scope body,k,s,K=>match r with | none=>codeW P n r f (some body) body k s K | some _=>False
  | _ + 1, none, .rangeFunc g ps asg b, .rf ts ins outs C k, s, K =>
      match r with
      | none=>onB (nodB ins) (onB (nodB outs) ((∀fr' :Nat->Value,agreeW ts fr' s.fr (RangeT P n g ps asg b fr' (ins.map s.H) (C s.fr (ins.map s.H)).X (C s.fr (ins.map s.H)).us (C s.fr (ins.map s.H)).Φ))/\(∃x,(C s.fr (ins.map s.H)).Φ x)/\
          ∀D x,(C s.fr (ins.map s.H)).Φ x->K .normal ⟨s.fr,updL (clears s.H ins) outs (.blk D (.deferred (some []))::(C s.fr (ins.map s.H)).us x),markOf D::s.df⟩ k))
      | some _=>False
  | _ + 1, none, .rangeFunc g ps asg b, .rfx id ts ins outs C k, s, K =>
      match r with
      | none=>onB (nodB ins) (onB (nodB outs) ((∀fr' :Nat->Value,agreeW ts fr' s.fr (RangeX P n g ps asg b id fr' (ins.map s.H) (C s.fr (ins.map s.H)).X (C s.fr (ins.map s.H)).us (C s.fr (ins.map s.H)).Φ))/\(∃x,(C s.fr (ins.map s.H)).Φ x)/\
          ∀ D x, (C s.fr (ins.map s.H)).Φ x -> K .normal ⟨s.fr, updL (clears s.H ins) outs (.blk D (.deferred (some [])) :: (C s.fr (ins.map s.H)).us x), markOf D :: s.df⟩ k /\
            K (.exit id) ⟨s.fr,updL (clears s.H ins) outs (.blk D (.deferred (some []))::(C s.fr (ins.map s.H)).us x),markOf D::s.df⟩ k))
      | some _=>False
  | _+1,none,_,_,_,_=>False
theorem own_sub {H : Hp} {R : HP} {w : World} {ids : List Nat} (hn : ids.Nodup) (h : Own H R w) : Own (ofList (ids.map H)) R w := by
  obtain ⟨p,q,hs,hq,hp,hqw,hd,hdq⟩:=h
  refine ⟨pickL ids p,q,fun k=> ?_,hq,fun k=> ?_,hqw,fun k l hkl=> ?_,fun k=> ?_⟩
  · unfold ofList
    cases hk:ids[k]? with
    | none=>rw [List.getD_eq_getElem?_getD,List.getElem?_map,hk,pickL_none hk];exact fun _=>rfl
    | some i=>rw [List.getD_eq_getElem?_getD,List.getElem?_map,hk,pickL_some hk];exact hs i
  · cases hk:ids[k]? with
    | none=>rw [pickL_none hk];intro b o h;cases h
    | some i=>rw [pickL_some hk];exact hp i
  · cases hk:ids[k]? with
    | none=>rw [pickL_none hk];exact fun _=> .inl rfl
    | some i =>
      cases hl:ids[l]? with
      | none=>rw [pickL_none hl];exact fun _=> .inr rfl
      | some j =>
        rw [pickL_some hk,pickL_some hl]
        refine hd i j (fun e=>hkl ?_)
        subst e
        obtain ⟨hk1,hk2⟩:=List.getElem?_eq_some_iff.1 hk
        obtain ⟨hl1,hl2⟩:=List.getElem?_eq_some_iff.1 hl
        exact (List.getElem_inj hn).1 (hk2.trans hl2.symm)
  · cases hk:ids[k]? with
    | none=>rw [pickL_none hk];exact fun _=> .inl rfl
    | some i=>rw [pickL_some hk];exact hdq i
def PostC (n:Nat) (K:Exit->St->Prop) (R:HP) (w:World) (e:Exit) (a' :Act) (w' :World):Prop:=
  ∃s',K e s' /\Rel n s' a' /\Own s'.H R w' /\Ext w w'
theorem PostC.ext {n:Nat} {K:Exit->St->Prop} {R:HP} {w w1:World} {e:Exit} {a' :Act} {w' :World} (h:PostC n K R w1 e a' w') (hx:Ext w w1):PostC n K R w e a' w' :=
  let ⟨s',k,r,o,x⟩:=h;⟨s',k,r,o,hx.trans x⟩
def wpSc (P:Program) (body c:Code) (Q:Exit->Act->World->Prop) (a:Act) (w:World):Prop:=
  ∀ (b:Frame) (k:List Item) (cs:List Frame),∃e a' w',Q e a' w' /\Arrives P (lone (b.at a (.code c:: .inScope body::k)) cs w) b k cs e a' w'
def scPost (P:Program) (body:Code) (Q:Exit->Act->World->Prop):Exit->Act->World->Prop
  | .goto l,a,w=>match findLabel body l with | some rest=>wpSc P body rest Q a w | none=>Q (.goto l) a w
  | e,a,w=>Q e a w
theorem wpSc_of {P:Program} {body c:Code} {Q:Exit->Act->World->Prop} {a:Act} {w:World} (h:c.wp P (scPost P body Q) a w):wpSc P body c Q a w:=by
  intro b k cs
  obtain ⟨e,a₁,w₁,hq,harr⟩:=h b (.inScope body::k) cs
  cases e with
  | normal=>exact ⟨.normal,a₁,w₁,hq,Steps.trans harr (.one step_inScope)⟩
  | exit id=>exact ⟨.exit id,a₁,w₁,hq,fun k' hk=>harr k' (by simp [exitTo,hk])⟩
  | goto l =>
    simp only [scPost] at hq
    cases hf:findLabel body l with
    | none=>rw [hf] at hq;exact ⟨.goto l,a₁,w₁,hq,fun k' hk=>harr k' (by simp [gotoIn,hf,hk])⟩
    | some rest =>
      rw [hf] at hq
      obtain ⟨e₂,a₂,w₂,hq₂,harr₂⟩:=hq b k cs
      exact ⟨e₂,a₂,w₂,hq₂, .of_steps (harr _ (by simp [gotoIn,hf])) harr₂⟩
  | ret=>exact ⟨_,a₁,w₁,hq,harr⟩
  | panic ch=>exact ⟨_,a₁,w₁,hq,harr⟩
  | outgrown=>exact ⟨_,a₁,w₁,hq,harr⟩
theorem wp_scope_of {P:Program} {body:Code} {Q:Exit->Act->World->Prop} {a:Act} {w:World} (h:wpSc P body body Q a w):(Code.scope body).wp P Q a w:=by
  intro b k cs
  obtain ⟨e,a₁,w₁,hq,harr⟩:=h b k cs
  exact ⟨e,a₁,w₁,hq, .of_steps (.one step_scope) harr⟩
theorem lookL_live: ∀ (l:List (Nat×Value)) {fr:Nat->Value} {X:Prop},liveW l fr X->X/\ ∀i v,lookL l i=some v->fr i=v
  | [],_,_,h=>⟨h,fun _ _ h=>by cases h⟩
  | (i, v) :: l, fr, X, h => by
    obtain ⟨hx,hl⟩:=lookL_live l h.2
    refine ⟨hx,fun j u hj=> ?_⟩
    simp only [lookL] at hj
    cases hb:Nat.beq j i with
    | true=>rw [hb] at hj;simp at hj;rw [Nat.eq_of_beq_eq_true hb,←hj];exact h.1
    | false=>rw [hb] at hj;exact hl j u hj
theorem lookL_heap: ∀ (l:List (Nat×Slot)) {H:Hp} {X:Prop},heapW l H X->X/\ ∀i v,lookL l i=some v->H i=v
  | [],_,_,h=>⟨h,fun _ _ h=>by cases h⟩
  | (i, v) :: l, H, X, h => by
    obtain ⟨hx,hl⟩:=lookL_heap l h.2
    refine ⟨hx,fun j u hj=> ?_⟩
    simp only [lookL] at hj
    cases hb:Nat.beq j i with
    | true=>rw [hb] at hj;simp at hj;rw [Nat.eq_of_beq_eq_true hb,←hj];exact h.1
    | false=>rw [hb] at hj;exact hl j u hj
theorem Own.weaken {H H' :Hp} {R:HP} {w:World} (h:Own H R w) (hh: ∀i,H' i=H i∨H' i= .free):Own H' R w:=by
  classical
  obtain ⟨p,q,hs,hq,hp,hqw,hd,hdq⟩:=h
  refine ⟨fun i=>if H' i=H i then p i else fun _=>none,q,fun i=> ?_,hq,fun i=> ?_,hqw,fun i j hij=> ?_,fun i=> ?_⟩
  · by_cases e:H' i=H i
    · simp only [e,if_true];exact hs i
    · simp only [e,if_false];rw [(hh i).resolve_left e];exact fun _=>rfl
  · by_cases e:H' i=H i
    · simp only [e,if_true];exact hp i
    · simp only [e,if_false];intro b o h;cases h
  · by_cases e:H' i=H i
    · by_cases e' :H' j=H j
      · simp only [e,e',if_true];exact hd i j hij
      · simp only [e',if_false];exact fun _=> .inr rfl
    · simp only [e,if_false];exact fun _=> .inl rfl
  · by_cases e:H' i=H i
    · simp only [e,if_true];exact hdq i
    · simp only [e,if_false];exact fun _=> .inl rfl
theorem atW_use {n:Nat} {live:List (Nat×Value)} {heap:List (Nat×Slot)} {df:List Deferred} {s:St} {a:Act} {R:HP} {w:World} (h:atW live heap df s True) (hr:Rel n s a) (ho:Own s.H R w):
    ∃junk,Rel n (mkS live heap junk df) a/\Own (mkS live heap junk df).H R w:=by
  obtain ⟨h1,hl⟩:=lookL_live live h
  obtain ⟨h2,hh⟩:=lookL_heap heap h1
  have hdf:s.df=df:=by
    cases hs:s.df with
    | nil =>
      rw [hs] at h2
      cases df with
      | nil=>rfl
      | cons x l=>exact h2.elim
    | cons x l=>rw [hs] at h2;exact h2.1
  refine ⟨s.fr,⟨hr.size,fun i=> ?_,by rw [hr.df,hdf];rfl⟩,ho.weaken fun i=> ?_⟩
  · rw [hr.at_ i]
    simp only [mkS]
    cases hx:lookL live i with
    | none=>rfl
    | some v=>exact hl i v hx
  · simp only [mkS]
    cases hx:lookL heap i with
    | none=>exact .inr rfl
    | some v=>exact .inl (hh i v hx).symm
def wpLp (r : Option Nat) (P : Program) (c : Code) (Q : Exit -> Act -> World -> Prop) (a : Act) (w : World) : Prop :=
  ∀ (b : Frame) (k : List Item) (cs : List Frame), b.roundOf = (FrR r).round -> (FrR r).fn b.fn -> (FrR r).room (cs.length + 1 + 0) ->
    ∃e a' w',Q e a' w' /\ArrivesIn (Machine.fenced P (FrR r)) P (lone (b.atR a (.code c:: .inLoop c::k)) cs w) b k cs e a' w'
theorem wpLp_round {r:Option Nat} {P:Program} {c:Code} {Q:Exit->Act->World->Prop} {a:Act} {w:World} (h:c.wpIn (FrR r) 0 P (Exit.then (wpLp r P c Q) Q) a w):wpLp r P c Q a w:=by
  intro b k cs hro hb hroom
  obtain ⟨e,a₁,w₁,hq,harr⟩:=h b (.inLoop c::k) cs hro hb hroom
  cases e with
  | normal =>
    obtain ⟨e₂,a₂,w₂,hq₂,harr₂⟩:=hq b k cs hro hb hroom
    have s1:StepsIn (Machine.fenced P (FrR r)) P (lone (b.atR a₁ (.inLoop c::k)) cs w₁) (lone (b.atR a₁ (.code c:: .inLoop c::k)) cs w₁):= .one (fenced_calm hb hroom rfl) stepR_inLoop
    exact ⟨e₂,a₂,w₂,hq₂, .of_steps (StepsIn.trans harr s1) harr₂⟩
  | exit id=>exact ⟨_,a₁,w₁,hq, .pass (x:= .inLoop c) rfl (by simp) harr⟩
  | goto l=>exact ⟨_,a₁,w₁,hq, .pass (x:= .inLoop c) rfl (by simp) harr⟩
  | ret=>exact ⟨_,a₁,w₁,hq, .pass (x:= .inLoop c) rfl (by simp) harr⟩
  | panic ch=>exact ⟨_,a₁,w₁,hq, .pass (x:= .inLoop c) rfl (by simp) harr⟩
  | outgrown=>exact ⟨_,a₁,w₁,hq, .pass (x:= .inLoop c) rfl (by simp) harr⟩
theorem wpIn_loop_of {r:Option Nat} {P:Program} {c:Code} {Q:Exit->Act->World->Prop} {a:Act} {w:World} (h:wpLp r P c Q a w):(Code.loop c).wpIn (FrR r) 0 P Q a w:=by
  intro b k cs hro hb hroom
  obtain ⟨e,a₁,w₁,hq,harr⟩:=h b k cs hro hb hroom
  exact ⟨e,a₁,w₁,hq, .of_steps (.one (fenced_calm hb hroom rfl) stepR_loop) harr⟩
theorem code_sound {P : Program} {n : Nat} {r : Option Nat} (hP : P.follows .mixedOrders = true) (f : Nat) :
    (∀ (c:Code) (k:Script) (s:St) (K:Exit->St->Script->Prop) (R:HP) (act:Act) (w:World),codeW P n r f none c k s K->Rel n s act->Own s.H R w->
      c.wpIn (FrR r) 0 P (PostC n (fun e s' => ∃k',K e s' k') R w) act w)/\
    (∀ (body c:Code) (k:Script) (s:St) (K:Exit->St->Script->Prop) (R:HP) (act:Act) (w:World),r=none->codeW P n r f (some body) c k s K->Rel n s act->Own s.H R w->
      wpSc P body c (PostC n (fun e s' => ∃k',K e s' k') R w) act w)/\
    (∀ (c:Code) (k:Script) (s:St) (K:Exit->St->Script->Prop) (R:HP) (act:Act) (w:World),codeW P n r f none (.loop c) k s K->Rel n s act->Own s.H R w->
      wpLp r P c (PostC n (fun e s' => ∃k',K e s' k') R w) act w):=by
  induction f with
  | zero=>exact ⟨fun c k s K R act w h=>h.elim,fun body c k s K R act w _ h=>h.elim,fun c k s K R act w h=>h.elim⟩
  | succ f ih =>
    obtain ⟨ih1,ih2,ih3⟩:=ih
    have hloop: ∀ (c:Code) (k:Script) (s:St) (K:Exit->St->Script->Prop) (R:HP) (act:Act) (w:World),codeW P n r (f+1) none (.loop c) k s K->Rel n s act->Own s.H R w->
        wpLp r P c (PostC n (fun e s' => ∃k',K e s' k') R w) act w:=by
      intro c k s K R act w h hr ho
      have go:codeW P n r f none c k s (fun e s' k' =>match e with | .normal=>codeW P n r f none (.loop c) k' s' K | e=>K e s' k')->wpLp r P c (PostC n (fun e s' => ∃k',K e s' k') R w) act w:=by
        intro h
        refine wpLp_round (wpIn_mono (ih1 _ _ _ _ R act w h hr ho) ?_)
        rintro e a' w' ⟨s',⟨k',hk⟩,hr',ho',he⟩
        cases e with
        | normal =>
          intro b k0 cs hro hb hroom
          obtain ⟨e₂,a₂,w₂,hq₂,harr₂⟩:=ih3 _ _ _ _ R a' w' hk hr' ho' b k0 cs hro hb hroom
          exact ⟨e₂,a₂,w₂,hq₂.ext he,harr₂⟩
        | _=>exact ⟨s',⟨k',hk⟩,hr',ho',he⟩
      cases k with
      | cut X live heap Φ k' =>
        obtain ⟨⟨x,hx,hat⟩,h⟩:=h
        obtain ⟨junk,hr',ho'⟩:=atW_use hat hr ho
        exact ih3 _ _ _ _ R act w (h x junk hx) hr' ho'
      | ghost ids φ k' =>
        obtain ⟨hi,h1,h2⟩:=onB_iff.1 h
        exact ih3 _ _ _ _ R act w (h2 (h1 R w (own_sub (nodB_iff.1 hi) ho))) hr ho
      | caseP b k1 k2 =>
        cases hb:b s with
        | true=>exact ih3 _ _ _ _ R act w (h.1 hb) hr ho
        | false=>exact ih3 _ _ _ _ R act w (h.2 hb) hr ho
      | inv X live heap Φ μ kb =>
        obtain ⟨⟨x,hx,hat⟩,h⟩:=h
        obtain ⟨junk,hr',ho'⟩:=atW_use hat hr ho
        have key: ∀ (m:Nat) (x:X) (junk:Nat->Value) (act:Act) (w1:World),μ x=m->Φ x->Rel n (mkS (live x) (heap x) junk s.df) act->Own (mkS (live x) (heap x) junk s.df).H R w1->Ext w w1->
            wpLp r P c (PostC n (fun e s' => ∃k',K e s' k') R w) act w1:=by
          intro m
          induction m using Nat.strongRecOn with
          | _ m ihm =>
            intro x junk act w1 hm hx hr ho hext
            refine wpLp_round (wpIn_mono (ih1 _ _ _ _ R act w1 (h x junk hx) hr ho) ?_)
            rintro e a' w' ⟨s',⟨k',hk⟩,hr',ho',he⟩
            cases e with
            | normal =>
              obtain ⟨y,hy,hlt,hat⟩:=hk
              obtain ⟨junk',hr'',ho''⟩:=atW_use hat hr' ho'
              exact ihm (μ y) (hm▸hlt) y junk' a' w' rfl hy hr'' ho'' (hext.trans he)
            | _=>exact ⟨s',⟨k',hk⟩,hr',ho',hext.trans he⟩
        exact key _ x junk act w rfl hx hr' ho' (.refl _)
      | _=>exact go h
    refine ⟨fun c k s K R act w h hr ho=> ?_,fun body c k s K R act w hn h hr ho=> ?_,hloop⟩
    · have hcut : ∀ {X : Type} {live : X -> List (Nat × Value)} {heap : X -> List (Nat × Slot)} {Φ : X -> Prop} {k' : X -> Script}, k = .cut X live heap Φ k' -> c.wpIn (FrR r) 0 P (PostC n (fun e s' => ∃ k', K e s' k') R w) act w := by
        intro X live heap Φ k' hk
        subst hk
        have h:(∃x,Φ x/\atW (live x) (heap x) s.df s True)/\ ∀x (junk:Nat->Value),Φ x->codeW P n r f none c (k' x) (mkS (live x) (heap x) junk s.df) K:=by cases c<;>exact h
        obtain ⟨⟨x,hx,hat⟩,h⟩:=h
        obtain ⟨junk,hr',ho'⟩:=atW_use hat hr ho
        exact ih1 _ _ _ _ R act w (h x junk hx) hr' ho'
      have hghost: ∀ {ids:List Nat} {φ:List Slot->Prop} {k' :Script},k= .ghost ids φ k' ->c.wpIn (FrR r) 0 P (PostC n (fun e s' => ∃k',K e s' k') R w) act w:=by
        intro ids φ k' hk
        subst hk
        have h:onB (nodB ids) ((∀ (R:HP) (w:World),Own (ofList (ids.map s.H)) R w->φ (ids.map s.H))/\(φ (ids.map s.H)->codeW P n r f none c k' s K)):=by cases c<;>exact h
        obtain ⟨hi,h1,h2⟩:=onB_iff.1 h
        exact ih1 _ _ _ _ R act w (h2 (h1 R w (own_sub (nodB_iff.1 hi) ho))) hr ho
      have hcase: ∀ {b:St->Bool} {k1 k2:Script},k= .caseP b k1 k2->c.wpIn (FrR r) 0 P (PostC n (fun e s' => ∃k',K e s' k') R w) act w:=by
        intro b k1 k2 hk
        subst hk
        have h:(b s=true->codeW P n r f none c k1 s K)/\(b s=false->codeW P n r f none c k2 s K):=by cases c<;>exact h
        cases hb:b s with
        | true=>exact ih1 _ _ _ _ R act w (h.1 hb) hr ho
        | false=>exact ih1 _ _ _ _ R act w (h.2 hb) hr ho
      cases c with
      | skip=>cases k<;>first | exact hcut rfl | exact hcase rfl | exact hghost rfl | exact wpIn_skip ⟨s,⟨_,h⟩,hr,ho, .refl _⟩
      | label l=>cases k<;>first | exact hcut rfl | exact hcase rfl | exact hghost rfl | exact wpIn_label ⟨s,⟨_,h⟩,hr,ho, .refl _⟩
      | ret=>cases k<;>first | exact hcut rfl | exact hcase rfl | exact hghost rfl | exact wpIn_ret ⟨s,⟨_,h⟩,hr,ho, .refl _⟩
      | exit id=>cases k<;>first | exact hcut rfl | exact hcase rfl | exact hghost rfl | exact wpIn_exit ⟨s,⟨_,h⟩,hr,ho, .refl _⟩
      | goto l=>cases k<;>first | exact hcut rfl | exact hcase rfl | exact hghost rfl | exact wpIn_goto ⟨s,⟨_,h⟩,hr,ho, .refl _⟩
      | seq x y =>
        have go: ∀k,codeW P n r f none x k s (fun e s' k' =>match e with | .normal=>codeW P n r f none y k' s' K | e=>K e s' k')->(Code.seq x y).wpIn (FrR r) 0 P (PostC n (fun e s' => ∃k',K e s' k') R w) act w:=by
          intro k h
          refine wpIn_seq (wpIn_mono (ih1 _ _ _ _ R act w h hr ho) ?_)
          rintro e a' w' ⟨s',⟨k',hk⟩,hr',ho',he⟩
          cases e with
          | normal=>exact wpIn_mono (ih1 _ _ _ _ R a' w' hk hr' ho') fun e a w hp=>hp.ext he
          | _=>exact ⟨s',⟨k',hk⟩,hr',ho',he⟩
        cases k with
        | cut=>exact hcut rfl
        | caseP=>exact hcase rfl
        | ghost=>exact hghost rfl
        | join X live heap Φ k1 k2 =>
          obtain ⟨h1,h2⟩:=h
          refine wpIn_seq (wpIn_mono (ih1 _ _ _ _ R act w h1 hr ho) ?_)
          rintro e a' w' ⟨s',⟨k',hk⟩,hr',ho',he⟩
          cases e with
          | normal =>
            obtain ⟨x,hx,hat⟩:=hk
            obtain ⟨junk,hr'',ho''⟩:=atW_use hat hr' ho'
            exact wpIn_mono (ih1 _ _ _ _ R a' w' (h2 x junk hx) hr'' ho'') fun e a w hp=>hp.ext he
          | _=>exact ⟨s',⟨k',hk⟩,hr',ho',he⟩
        | _=>exact go _ h
      | region id ops draw =>
        cases k with
        | cut=>exact hcut rfl
        | caseP=>exact hcase rfl
        | ghost=>exact hghost rfl
        | reg asg k' =>
          obtain ⟨hc,h⟩:=onB_iff.1 h
          obtain ⟨hd,hsq⟩:=onB_iff.1 h
          have hd' :r=none∨asg.all (fun a=> !isDfr a)=true:=by
            unfold dfrOK at hd
            cases r with
            | none=>exact .inl rfl
            | some _=>exact .inr hd
          have fin: ∀a' w',After n (fun s' =>K .normal s' k') R w a' w' ->PostC n (fun e s' => ∃k',K e s' k') R w .normal a' w' :=fun a' w' ⟨s',hk,x⟩=>⟨s',⟨_,hk⟩,x⟩
          cases draw with
          | true=>exact region_draw_sound hP hc hd' hsq hr ho fin
          | false=>exact region_sound hc hd' hsq hr ho fin
        | _=>exact h.elim
      | cond cd x y =>
        have hev:=hr.eval
        have go:(match (generalizing:=false) evalF s.fr cd with
            | .bool b =>
              match k with
              | .condT k' =>b=true/\codeW P n r f none x k' s K
              | .condF k' =>b=false/\codeW P n r f none y k' s K
              | .cond k1 k2=>(b=true->codeW P n r f none x k1 s K)/\(b=false->codeW P n r f none y k2 s K)
              | _=>False
            | _=>False)->(Code.cond cd x y).wpIn (FrR r) 0 P (PostC n (fun e s' => ∃k',K e s' k') R w) act w:=by
          intro h
          rw [←hev] at h
          cases hb:act.eval cd<;>rw [hb] at h<;>try exact h.elim
          rename_i b
          cases k with
          | condT k' =>
            obtain ⟨rfl,h⟩:=h
            exact wpIn_cond hb (ih1 _ _ _ _ R act w h hr ho)
          | condF k' =>
            obtain ⟨rfl,h⟩:=h
            exact wpIn_cond hb (ih1 _ _ _ _ R act w h hr ho)
          | cond k1 k2 =>
            refine wpIn_cond hb ?_
            cases b with
            | true=>exact ih1 _ _ _ _ R act w (h.1 rfl) hr ho
            | false=>exact ih1 _ _ _ _ R act w (h.2 rfl) hr ho
          | _=>exact h.elim
        cases k with
        | cut=>exact hcut rfl
        | caseP=>exact hcase rfl
        | ghost=>exact hghost rfl
        | _=>exact go h
      | block id c =>
        have go:codeW P n r f none c k s (fun e s' k' =>match e with
              | .exit id' =>match Nat.beq id' id with | true=>K .normal s' k' | false=>K (.exit id') s' k'
              | e=>K e s' k')->(Code.block id c).wpIn (FrR r) 0 P (PostC n (fun e s' => ∃k',K e s' k') R w) act w:=by
          intro h
          refine wpIn_block (wpIn_mono (ih1 _ _ _ _ R act w h hr ho) ?_)
          rintro e a' w' ⟨s',⟨k',hk⟩,hr',ho',he⟩
          cases e with
          | exit id' =>
            simp only [Exit.inBlock]
            cases hb:Nat.beq id' id with
            | true=>rw [if_pos (Nat.eq_of_beq_eq_true hb)];simp only [hb] at hk;exact ⟨s',⟨k',hk⟩,hr',ho',he⟩
            | false=>rw [if_neg (Nat.ne_of_beq_eq_false hb)];simp only [hb] at hk;exact ⟨s',⟨k',hk⟩,hr',ho',he⟩
          | _=>exact ⟨s',⟨k',hk⟩,hr',ho',he⟩
        cases k with
        | cut=>exact hcut rfl
        | caseP=>exact hcase rfl
        | ghost=>exact hghost rfl
        | _=>exact go h
      | loop c=>exact wpIn_loop_of (hloop c k s K R act w h hr ho)
      | scope body =>
        have back: ∀ {Q:Exit->Act->World->Prop} {act:Act} {w:World} {c:Code},r=none->(c.wpIn (FrR r) 0 P Q act w↔c.wp P Q act w):=by
          intro Q act w c hn
          subst hn
          exact wpIn_wide
        have go: ∀k,(match (generalizing:=false) r with | none=>codeW P n r f (some body) body k s K | some _=>False)->(Code.scope body).wpIn (FrR r) 0 P (PostC n (fun e s' => ∃k',K e s' k') R w) act w:=by
          intro k h
          cases hn:r with
          | some l=>rw [hn] at h;exact h.elim
          | none =>
            have h' :codeW P n r f (some body) body k s K:=by rw [hn] at h ⊢;exact h
            rw [←hn]
            exact (back hn).2 (wp_scope_of (ih2 _ _ _ _ _ R act w hn h' hr ho))
        cases k with
        | cut=>exact hcut rfl
        | caseP=>exact hcase rfl
        | ghost=>exact hghost rfl
        | sinv l X live heap Φ μ k0 k1 =>
          have h:(match (generalizing:=false) r,findLabel body l with
            | none, some rest =>
              codeW P n r f none body k0 s (fun e s' k' =>
                match e with
                | .goto l' =>match Nat.beq l' l with | true=> ∃x,Φ x/\atW (live x) (heap x) s.df s' True | false=>False
                | e=>K e s' k')/\
              ∀ x (junk : Nat -> Value), Φ x -> codeW P n r f none rest (k1 x) (mkS (live x) (heap x) junk s.df) fun e s' k' =>
                match e with
                | .goto l' =>match Nat.beq l' l with | true=> ∃y,Φ y/\μ y<μ x/\atW (live y) (heap y) s.df s' True | false=>False
                | e=>K e s' k'
            | _,_=>False):=h
          cases hn:r with
          | some l=>rw [hn] at h;exact h.elim
          | none =>
            cases hf:findLabel body l with
            | none=>rw [hn,hf] at h;exact h.elim
            | some rest =>
              have h' :codeW P n r f none body k0 s (fun e s' k' =>
                  match e with
                  | .goto l' =>match Nat.beq l' l with | true=> ∃x,Φ x/\atW (live x) (heap x) s.df s' True | false=>False
                  | e=>K e s' k')/\
                ∀ x (junk : Nat -> Value), Φ x -> codeW P n r f none rest (k1 x) (mkS (live x) (heap x) junk s.df) fun e s' k' =>
                  match e with
                  | .goto l' =>match Nat.beq l' l with | true=> ∃y,Φ y/\μ y<μ x/\atW (live y) (heap y) s.df s' True | false=>False
                  | e=>K e s' k' :=by rw [hn,hf] at h;rw [hn];exact h
              rw [←hn]
              obtain ⟨h1,h2⟩:=h'
              have key: ∀ (m:Nat) (x:X) (junk:Nat->Value) (act:Act) (w1:World),μ x=m->Φ x->Rel n (mkS (live x) (heap x) junk s.df) act->Own (mkS (live x) (heap x) junk s.df).H R w1->Ext w w1->
                  wpSc P body rest (PostC n (fun e s' => ∃k',K e s' k') R w) act w1:=by
                intro m
                induction m using Nat.strongRecOn with
                | _ m ihm =>
                  intro x junk act w1 hm hx hr ho hext
                  refine wpSc_of ((back hn).1 (wpIn_mono (ih1 _ _ _ _ R act w1 (h2 x junk hx) hr ho) ?_))
                  rintro e a' w' ⟨s',⟨k',hk⟩,hr',ho',he⟩
                  cases e with
                  | goto l' =>
                    cases hb:Nat.beq l' l with
                    | false=>simp only [hb] at hk
                    | true =>
                      simp only [hb] at hk
                      obtain rfl:=Nat.eq_of_beq_eq_true hb
                      simp only [scPost,hf]
                      obtain ⟨y,hy,hlt,hat⟩:=hk
                      obtain ⟨junk',hr'',ho''⟩:=atW_use hat hr' ho'
                      exact ihm (μ y) (hm▸hlt) y junk' a' w' rfl hy hr'' ho'' (hext.trans he)
                  | _=>exact ⟨s',⟨k',hk⟩,hr',ho',hext.trans he⟩
              refine (back hn).2 (wp_scope_of (wpSc_of ((back hn).1 (wpIn_mono (ih1 _ _ _ _ R act w h1 hr ho) ?_))))
              rintro e a' w' ⟨s',⟨k',hk⟩,hr',ho',he⟩
              cases e with
              | goto l' =>
                cases hb:Nat.beq l' l with
                | false=>simp only [hb] at hk
                | true =>
                  simp only [hb] at hk
                  obtain rfl:=Nat.eq_of_beq_eq_true hb
                  simp only [scPost,hf]
                  obtain ⟨x,hx,hat⟩:=hk
                  obtain ⟨junk',hr'',ho''⟩:=atW_use hat hr' ho'
                  exact key _ x junk' a' w' rfl hx hr'' ho'' he
              | _=>exact ⟨s',⟨k',hk⟩,hr',ho',he⟩
        | _=>exact go _ h
      | rangeFunc g ps asg b =>
        cases k with
        | rf ts ins outs C k' =>
          cases r with
          | some l=>exact h.elim
          | none =>
            obtain ⟨hi,h⟩:=onB_iff.1 h
            obtain ⟨hu,h,_,hk⟩:=onB_iff.1 h
            refine wpIn_mono ((agreeW_self (h s.fr)).use hr.size hr.at_ (nodB_iff.1 hi) (nodB_iff.1 hu) ho) ?_
            rintro e a' w' ⟨rfl,ht,D,x,hd,hx,ho',hext⟩
            exact ⟨_,⟨k',hk D x hx⟩,⟨by rw [ht];exact hr.size,fun i=>by rw [ht];exact hr.at_ i,by rw [hd,hr.df]⟩,ho',hext⟩
        | rfx id ts ins outs C k' =>
          cases r with
          | some l=>exact h.elim
          | none =>
            obtain ⟨hi,h⟩:=onB_iff.1 h
            obtain ⟨hu,h,_,hk⟩:=onB_iff.1 h
            refine wpIn_mono ((agreeW_self (h s.fr)).use hr.size hr.at_ (nodB_iff.1 hi) (nodB_iff.1 hu) ho) ?_
            rintro e a' w' ⟨he,ht,D,x,hd,hx,ho',hext⟩
            rcases he with rfl | rfl
            · exact ⟨_,⟨k',(hk D x hx).1⟩,⟨by rw [ht];exact hr.size,fun i=>by rw [ht];exact hr.at_ i,by rw [hd,hr.df]⟩,ho',hext⟩
            · exact ⟨_,⟨k',(hk D x hx).2⟩,⟨by rw [ht];exact hr.size,fun i=>by rw [ht];exact hr.at_ i,by rw [hd,hr.df]⟩,ho',hext⟩
        | _=>first | exact hcut rfl | exact hcase rfl | exact hghost rfl | exact h.elim
      | refuse why=>cases k<;>first | exact hcut rfl | exact hcase rfl | exact hghost rfl | exact h.elim
    · have h:codeW P n r f none c k s (fun e s' k' =>
          match e with
          | .goto l=>match findLabel body l with | some rest=>codeW P n r f (some body) rest k' s' K | none=>K (.goto l) s' k'
          | e=>K e s' k'):=h
      have hh:=ih1 _ _ _ _ R act w h hr ho
      subst hn
      refine wpSc_of (wpIn_wide.1 (wpIn_mono hh ?_))
      rintro e a' w' ⟨s',⟨k',hk⟩,hr',ho',he⟩
      cases e with
      | goto l =>
        simp only [scPost]
        cases hf:findLabel body l with
        | none=>simp only [hf] at hk;exact ⟨s',⟨k',hk⟩,hr',ho',he⟩
        | some rest =>
          simp only [hf] at hk
          intro b k0 cs
          obtain ⟨e₂,a₂,w₂,hq₂,harr₂⟩:=ih2 _ _ _ _ _ R a' w' rfl hk hr' ho' b k0 cs
          exact ⟨e₂,a₂,w₂,hq₂.ext he,harr₂⟩
      | _=>exact ⟨s',⟨k',hk⟩,hr',ho',he⟩
end Go.Sx
namespace Go.Sx
open Go.RowKit
def symR (P : Program) {α : Type} : Sem α -> List Acc -> Hp -> (α -> Prop) -> Prop
  | .pure a,_,_,K=>K a
  | .load _ a k, .rd i :: acc, H, K =>
    match H i with
    | .blk b (.cells c _ _)=>a.block=b/\a.spot=none/\(match c[a.off]? with | some v=>symR P (k v) acc H K | none=>False)
    | _=>False
  | .load _ a k, .rv i f :: acc, H, K =>
    match H i with
    | .blk b (.cells c _ _)=>a.block=b/\a.spot=none/\c[a.off]? =some (f a c)/\symR P (k (f a c)) acc H K
    | _=>False
  | .program k,acc,H,K=>symR P (k P) acc H K
  | .mark _ k,acc,H,K=>symR P k acc H K
  | _,_,_,_=>False
theorem symR_sound {P : Program} {α : Type} (m : Sem α) : ∀ (acc : List Acc) (H : Hp) (K : α -> Prop) (R : HP) (w : World), symR P m acc H K -> Own H R w -> ∃ a, m.run P w = .ok a w /\ K a := by
  induction m with
  | pure a=>intro acc H K R w h _;cases acc<;>exact ⟨a,rfl,h⟩
  | load m a k ih =>
    intro acc H K R w h ho
    match acc,h with
    | .rd i :: acc, h =>
      simp only [symR] at h
      cases hs:H i with
      | blk b o =>
        rw [hs] at h
        cases o with
        | cells c t f =>
          obtain ⟨hb,hsp,h⟩:=h
          have hc:=cell_of_block (w:=w) (a:=a) (by rw [hb];exact ho.block hs) hsp
          cases hv:c[a.off]? with
          | none=>rw [hv] at h;exact h.elim
          | some v =>
            rw [hv] at h
            obtain ⟨x,hr,hk⟩:=ih v acc H K R w h ho
            exact ⟨x,by simp only [Sem.run,hc,hv];exact hr,hk⟩
        | _=>exact h.elim
      | _=>rw [hs] at h;exact h.elim
    | .rv i g :: acc, h =>
      simp only [symR] at h
      cases hs:H i with
      | blk b o =>
        rw [hs] at h
        cases o with
        | cells c t f =>
          obtain ⟨hb,hsp,hv,h⟩:=h
          have hc:=cell_of_block (w:=w) (a:=a) (by rw [hb];exact ho.block hs) hsp
          obtain ⟨x,hr,hk⟩:=ih _ acc H K R w h ho
          exact ⟨x,by simp only [Sem.run,hc,hv];exact hr,hk⟩
        | _=>exact h.elim
      | _=>rw [hs] at h;exact h.elim
    | .wr _::_,h | .ws _::_,h | .nw _::_,h | .ch::_,h | [],h=>exact h.elim
  | program k ih =>
    intro acc H K R w h ho
    have h' :symR P (k P) acc H K:=by cases acc<;>exact h
    obtain ⟨x,hr,hk⟩:=ih P acc H K R w h' ho
    exact ⟨x,by simp only [Sem.run];exact hr,hk⟩
  | mark m k ih =>
    intro acc H K R w h ho
    have h' :symR P k acc H K:=by cases acc<;>exact h
    obtain ⟨x,hr,hk⟩:=ih acc H K R w h' ho
    exact ⟨x,by simp only [Sem.run];exact hr,hk⟩
  | _=>intro acc H K R w h ho;cases acc<;>exact h.elim
def resF (fn : Func) (fr : Nat -> Value) : Sem Value := do
  let vs←fn.results.mapM fun
    | .tmp t=>pure (fr t)
    | .cell a t=>do loadVar t (←asAddr (fr a))
  pure (if h:vs.size=1 then vs[0] else .tuple vs)
theorem resF_eq {n:Nat} {fn:Func} {s:St} {a:Act} (h:Rel n s a):results fn a.tmps=resF fn s.fr:=by
  have:s.fr=fun i=>a.tmps.getD i undef:=funext fun i=>(h.at_ i).symm
  rw [this]
  rfl
def outW (outs:List Nat) (ss:List Slot) (H:Hp) (Y:Prop):Prop:=
  match ss with
  | []=>Y
  | s::ss=>match outs with | i::outs=>H i=s/\outW outs ss H Y | []=>False
theorem outW_use: ∀ {outs:List Nat} {ss:List Slot} {H:Hp} {Y:Prop},outW outs ss H Y->Y/\ ∀k,ofList ss k= .free∨ofList ss k=ofList (outs.map H) k
  | _, [], _, _, h => by
    unfold outW at h
    exact ⟨h,fun k=> .inl (by simp [ofList])⟩
  | [],_::_,_,_,h=>h.elim
  | i :: outs, s :: ss, H, Y, h => by
    obtain ⟨h1,h2⟩:=h
    obtain ⟨hy,hk⟩:=outW_use h2
    refine ⟨hy,fun k=> ?_⟩
    cases k with
    | zero=>exact .inr (by simp [ofList,h1])
    | succ k=>simpa [ofList] using hk k
def finW (P:Program) (fn:Func) (acc:List Acc) (outs:List Nat) {X:Type} (val:X->Value) (us:X->List Slot) (Φ:X->Prop) (e:Exit) (s:St) (_:Script):Prop:=
  match e with
  | .normal | .ret=>symR P (resF fn s.fr) acc s.H fun v=> ∃x,Φ x/\v=val x/\outW outs (us x) s.H (dfW s.df [] True)
  | _=>False
def bodyOf (fn:Func):Code:=fn.body.getD .skip
def init (args:Array Value) (Hs:List Slot):St:= { fr:=fun i=>args.getD i undef,H:=ofList Hs,df:= [] }
theorem init_rel {args:Array Value} {Hs:List Slot} {n:Nat} (h:args.size<=n):Rel n (init args Hs) { tmps:=args++Array.replicate (n - args.size) undef,defers:= [] }:=by
  refine ⟨by simp;omega,fun i=> ?_,rfl⟩
  simp only [init,Array.getD_eq_getD_getElem?,Array.getElem?_append]
  split
  · rfl
  · rename_i hlt
    rw [Array.getElem?_eq_none (xs:=args) (by omega)]
    simp only [Array.getElem?_replicate]
    split<;>rfl
theorem enterOK {P : Program} {f : FuncId} {fn : Func} {c : Code} (hf : P.funcs[f]? = some fn) (hb : fn.body = some c) (hname : (fn.name == "runtime.NumGoroutine") = false) : EnterOK P f := by
  intro args w
  have hs:fn.body.isNone=false:=by rw [hb];rfl
  unfold callFunc
  simp only [Sem.run_bind,program,Sem.run,Result.andThen_ok,hf,hname,hs,Bool.false_eq_true,if_false]
  rfl
theorem call_of {P:Program} {f:FuncId} {fn:Func} {c:Code} {n:Nat} {args:Array Value} {Hs:List Slot} {X:Type} {val:X->Value} {us:X->List Slot} {Φ:X->Prop}
    (hP : P.follows .mixedOrders = true) (hf : P.funcs[f]? = some fn) (hb : fn.body = some c) (hn : fn.ntmps = n) (hname : (fn.name == "runtime.NumGoroutine") = false)
    (fuel:Nat) (k:Script) (acc:List Acc) (outs:List Nat) (hsz:Nat.ble args.size n=true) (ho:nodB outs=true)
    (h:codeW P n none fuel none c k (init args Hs) (finW P fn acc outs val us Φ)):CallT P f args Hs X val us Φ:=by
  refine ⟨enterOK hf hb hname,fun R w hw=> ?_⟩
  subst hn
  have go:CallsIn Fence.wide 0 P f args w fun e w' => ∃x,Φ x/\e= .returned (val x)/\Own (ofList (us x)) R w' /\Ext w w' := ?_
  · exact callsIn_wide.1 go
  refine callsIn_of_wp hf hb trivial ?_
  have hc:=(code_sound hP fuel).1 c k (init args Hs) _ R _ w h (init_rel (Nat.le_of_ble_eq_true hsz)) hw
  refine wpIn_mono hc ?_
  have fin: ∀ (a' :Act) (w' :World) (s' :St),Rel fn.ntmps s' a' ->Own s'.H R w' ->Ext w w' ->(symR P (resF fn s'.fr) acc s'.H fun v=> ∃x,Φ x/\v=val x/\outW outs (us x) s'.H (dfW s'.df [] True))->
      a'.defers= []/\ ∃v,(results fn a'.tmps).run P w' = .ok v w' /\ ∃x,Φ x/\Ending.returned v= .returned (val x)/\Own (ofList (us x)) R w' /\Ext w w' :=by
    intro a' w' s' hr ho' he hs
    obtain ⟨v,hrun,x,hx,rfl,hout⟩:=symR_sound _ acc s'.H _ R w' hs ho'
    obtain ⟨hd,hk⟩:=outW_use hout
    refine ⟨?_,val x,by rw [resF_eq hr];exact hrun,x,hx,rfl,(own_sub (nodB_iff.1 ho) ho').weaken fun k=>(hk k).symm,he⟩
    rw [hr.df]
    cases hdf:s'.df with
    | nil=>rfl
    | cons y l=>rw [hdf] at hd;exact absurd hd.1 (by simp)
  rintro e a' w' ⟨s',⟨k',hk⟩,hr,ho',he⟩
  cases e with
  | normal=>exact fin a' w' s' hr ho' he hk
  | ret=>exact fin a' w' s' hr ho' he hk
  | exit id=>exact hk.elim
  | goto l=>exact hk.elim
  | panic ch=>exact hk.elim
  | outgrown=>exact hk.elim
def old (w:World):Slot:= .par [] (.wld w) (fun h=> ∀i:Nat,h i=w.heap[i]?)
theorem own_old (w:World):Own (ofList [old w]) (fun _=>True) w:=by
  refine ⟨fun i=>match i with | 0=>(fun b=>w.heap[b]?) | _+1=>fun _=>none,fun _=>none,fun i=> ?_,trivial,fun i b o h=> ?_,fun b o h=>(by cases h),fun i j hij=> ?_,fun i b=> .inr rfl⟩
  · cases i with
    | zero=>exact fun _=>rfl
    | succ i=>exact fun _=>rfl
  · cases i with
    | zero=>exact h
    | succ i=>cases h
  · cases i with
    | zero =>
      cases j with
      | zero=>exact absurd rfl hij
      | succ j=>exact fun _=> .inr rfl
    | succ i=>exact fun _=> .inl rfl
theorem CallT.below {P:Program} {f:FuncId} {args:Array Value} {w:World} {X:Type} {val:X->Value} {Φ:X->Prop} (h:CallT P f args [old w] X val (fun _=> [old w]) Φ):
    Calls P f args w fun e w' => ∃x,Φ x/\e= .returned (val x)/\Below w.heap.size w w' :=by
  refine (h.calls _ w (own_old w)).mono ?_
  rintro e w' ⟨x,hx,he,⟨p,q,hs,_,hp,_⟩,hext⟩
  refine ⟨x,hx,he,hext.os,hext.tape,hext.output,hext.size,fun i hi=> ?_⟩
  have h0:=hs 0
  simp only [ofList,old,List.getD_cons_zero,Slot.sat] at h0
  have:=hp 0 i w.heap[i] (by rw [h0 i];simp [hi])
  rw [this];simp [hi]
theorem CallT.weaken {P:Program} {f:FuncId} {args:Array Value} {Hs:List Slot} {X Y:Type} {val:X->Value} {us:X->List Slot} {Φ:X->Prop} {val' :Y->Value} {us' :Y->List Slot} {Ψ:Y->Prop}
    (h:CallT P f args Hs X val us Φ) (hk: ∀x,Φ x-> ∃y,Ψ y/\val x=val' y/\us x=us' y):CallT P f args Hs Y val' us' Ψ:=
  ⟨h.enter,fun R w hw=>(h.calls R w hw).mono fun _ _ ⟨x,hx,he,ho,hext⟩=>let ⟨y,hy,h1,h2⟩:=hk x hx;⟨y,hy,h1▸he,h2▸ho,hext⟩⟩
end Go.Sx
namespace Go.Sx
open Go.RowKit
def rdQ:Nat->Nat->Prop->Prop
  | 0,_,X=>X
  | n+1,b,X=>b=b/\(none:Option Nat)=none/\rdQ n b X
theorem rdQ_mk (n b:Nat) {X:Prop} (h:X):rdQ n b X:=by
  induction n with
  | zero=>exact h
  | succ n ih=>exact ⟨rfl,rfl,ih⟩
def rds (n i:Nat):List Acc:=List.replicate n (.rd i)
def wrs (n i:Nat):List Acc:=List.replicate n (.wr i)
def callQ (P:Program) (f:FuncId) (args:Array Value) (Hs:List Slot) (X:Type) (val:X->Value) (us:X->List Slot) (Φ:X->Prop) (K:X->Prop):Prop:=
  CallT P f args Hs X val us Φ/\(∃x,Φ x)/\ ∀x,Φ x->K x
theorem callQ_mk {P:Program} {f:FuncId} {args:Array Value} {Hs:List Slot} {X:Type} {val:X->Value} {us:X->List Slot} {Φ:X->Prop} {K:X->Prop} (h:CallT P f args Hs X val us Φ) (w: ∃x,Φ x) (k: ∀x,Φ x->K x):callQ P f args Hs X val us Φ K:=⟨h,w,k⟩
def callQr (P:Program) (f:FuncId) (args:Array Value) (Hs:List Slot) (X:Type) (val:X->Value) (Φ:X->Prop) (K:X->Prop):Prop:=
  CallT P f args Hs X val (fun _=>Hs) Φ/\(∃x,Φ x)/\ ∀x,Φ x->K x
theorem callQr_mk {P:Program} {f:FuncId} {args:Array Value} {Hs:List Slot} {X:Type} {val:X->Value} {Φ:X->Prop} {K:X->Prop} (h:CallT P f args Hs X val (fun _=>Hs) Φ) (w: ∃x,Φ x) (k: ∀x,Φ x->K x):callQr P f args Hs X val Φ K:=⟨h,w,k⟩
def opQ (P:Program) (m:Sem Next) (Hs:List Slot) (X:Type) (val:X->Value) (us:X->List Slot) (Φ:X->Prop) (K:X->Prop):Prop:=
  OpT P m Hs X val us Φ/\(∃x,Φ x)/\ ∀x,Φ x->K x
theorem opQ_mk {P:Program} {m:Sem Next} {Hs:List Slot} {X:Type} {val:X->Value} {us:X->List Slot} {Φ:X->Prop} {K:X->Prop} (h:OpT P m Hs X val us Φ) (w: ∃x,Φ x) (k: ∀x,Φ x->K x):opQ P m Hs X val us Φ K:=⟨h,w,k⟩
def opQr (P:Program) (m:Sem Next) (Hs:List Slot) (X:Type) (val:X->Value) (Φ:X->Prop) (K:X->Prop):Prop:=
  OpT P m Hs X val (fun _=>Hs) Φ/\(∃x,Φ x)/\ ∀x,Φ x->K x
theorem opQr_mk {P:Program} {m:Sem Next} {Hs:List Slot} {X:Type} {val:X->Value} {Φ:X->Prop} {K:X->Prop} (h:OpT P m Hs X val (fun _=>Hs) Φ) (w: ∃x,Φ x) (k: ∀x,Φ x->K x):opQr P m Hs X val Φ K:=⟨h,w,k⟩
def rndQ (P:Program) (l:Nat) (args:Array Value) (Hs:List Slot) (X:Type) (val:X->Value) (us:X->List Slot) (Φ:X->Prop) (K:X->Prop):Prop:=
  RoundT P l args Hs X val us Φ/\(∃x,Φ x)/\ ∀x,Φ x->K x
theorem rndQ_mk {P:Program} {l:Nat} {args:Array Value} {Hs:List Slot} {X:Type} {val:X->Value} {us:X->List Slot} {Φ:X->Prop} {K:X->Prop} (h:RoundT P l args Hs X val us Φ) (w: ∃x,Φ x) (k: ∀x,Φ x->K x):rndQ P l args Hs X val us Φ K:=⟨h,w,k⟩
abbrev uu (n:Int):Value:= .int .u64 n
abbrev pp (b o:Nat):Value:= .pointer (some ⟨b,o,none⟩)
abbrev bk (b:Nat) (cs:Array Value) (t:TypeId):Slot:= .blk b (.cells cs t (0,0))
abbrev S0:Ann:= .sem []
abbrev vS (m:Sem Value):Sem Next:=do pure (.value (←m))
abbrev skS (m:Sem Unit):Sem Next:=do m;pure .skip
abbrev l2 (a b:Int):Int:=a+18446744073709551616*b
abbrev l3 (a b c:Int):Int:=a+18446744073709551616*b+340282366920938463463374607431768211456*c
abbrev l4 (a b c d:Int):Int:=a+18446744073709551616*b+340282366920938463463374607431768211456*c+6277101735386680763835789423207666416102355444464034512896*d
abbrev l5 (a b c d e:Int):Int:=a+18446744073709551616*b+340282366920938463463374607431768211456*c+6277101735386680763835789423207666416102355444464034512896*d+115792089237316195423570985008687907853269984665640564039457584007913129639936*e
abbrev SF (X:Type):Type:=Array Value->List Slot->(X->Value)->(X->List Slot)->(X->Prop)->Prop
end Go.Sx
namespace Go.Sx
open Go.RowKit
def Hl.emp:Hl:=fun _=>none
def Hl.un (p q:Hl):Hl:=fun b=>match p b with | some o=>some o | none=>q b
theorem un_some {p q:Hl} {b:Nat} {o:Obj} (h:Hl.un p q b=some o):p b=some o∨q b=some o:=by
  unfold Hl.un at h
  cases hp:p b with
  | some x=>rw [hp] at h;exact .inl h
  | none=>rw [hp] at h;exact .inr h
theorem un_left {p q:Hl} {b:Nat} {o:Obj} (h:p b=some o):Hl.un p q b=some o:=by unfold Hl.un;rw [h]
theorem un_right {p q:Hl} (d:p.disj q) {b:Nat} {o:Obj} (h:q b=some o):Hl.un p q b=some o:=by
  unfold Hl.un
  rcases d b with h' | h'
  · rw [h'];exact h
  · rw [h] at h';cases h'
theorem un_none {p q:Hl} {b:Nat} (h:p b=none) (k:q b=none):Hl.un p q b=none:=by unfold Hl.un;rw [h];exact k
theorem un_none_iff {p q:Hl} {b:Nat}:Hl.un p q b=none↔p b=none/\q b=none:=by
  constructor
  · intro h
    unfold Hl.un at h
    cases hp:p b with
    | some x=>rw [hp] at h;cases h
    | none=>rw [hp] at h;exact ⟨rfl,h⟩
  · exact fun h=>un_none h.1 h.2
theorem disj_symm {p q:Hl} (h:p.disj q):q.disj p:=fun b=>(h b).symm
theorem disj_un {p q r:Hl}:(Hl.un p q).disj r↔p.disj r/\q.disj r:=by
  constructor
  · intro h
    refine ⟨fun b=> ?_,fun b=> ?_⟩<;>rcases h b with h' | h'
    · exact .inl (un_none_iff.1 h').1
    · exact .inr h'
    · exact .inl (un_none_iff.1 h').2
    · exact .inr h'
  · intro ⟨h1,h2⟩ b
    rcases h1 b with a | a
    · rcases h2 b with c | c
      · exact .inl (un_none a c)
      · exact .inr c
    · exact .inr a
theorem disj_un' {p q r:Hl}:r.disj (Hl.un p q)↔r.disj p/\r.disj q:=
  ⟨fun h=>let ⟨a,b⟩:=disj_un.1 (disj_symm h);⟨disj_symm a,disj_symm b⟩,fun ⟨a,b⟩=>disj_symm (disj_un.2 ⟨disj_symm a,disj_symm b⟩)⟩
theorem disj_emp {p:Hl}:p.disj Hl.emp:=fun _=> .inr rfl
theorem un_emp {p:Hl}:Hl.un p Hl.emp=p:=by funext b;unfold Hl.un;cases p b<;>rfl
theorem emp_un {p:Hl}:Hl.un Hl.emp p=p:=rfl
theorem un_assoc {p q r:Hl}:Hl.un (Hl.un p q) r=Hl.un p (Hl.un q r):=by
  funext b;unfold Hl.un;cases p b<;>simp
theorem un_comm {p q:Hl} (d:p.disj q):Hl.un p q=Hl.un q p:=by
  funext b
  unfold Hl.un
  rcases d b with h | h<;>rw [h]
  · cases q b<;>rfl
  · cases p b<;>rfl
theorem inw_un {p q:Hl} {w:World} (h:p.inw w) (k:q.inw w):(Hl.un p q).inw w:=fun b o hb=>(un_some hb).elim (h b o) (k b o)
theorem inw_left {p q:Hl} {w:World} (h:(Hl.un p q).inw w):p.inw w:=fun b o hb=>h b o (un_left hb)
theorem inw_right {p q:Hl} {w:World} (d:p.disj q) (h:(Hl.un p q).inw w):q.inw w:=fun b o hb=>h b o (un_right d hb)
def SepL:List Slot->Hl->Prop
  | [],h=>h=Hl.emp
  | s::l,h=> ∃p q,s.sat p/\SepL l q/\p.disj q/\h=Hl.un p q
theorem sep_append: ∀ (a b:List Slot) {h:Hl},SepL (a++b) h↔ ∃p q,SepL a p/\SepL b q/\p.disj q/\h=Hl.un p q
  | [],b,h=>⟨fun hb=>⟨Hl.emp,h,rfl,hb,fun _=> .inl rfl,rfl⟩,fun ⟨p,q,hp,hq,_,e⟩=>by cases hp;subst e;exact hq⟩
  | s :: a, b, h => by
    constructor
    · rintro ⟨p,q,hs,hr,d,rfl⟩
      obtain ⟨p2,q2,ha,hb,d2,rfl⟩:=(sep_append a b).1 hr
      have d' :=disj_un'.1 d
      exact ⟨Hl.un p p2,q2,⟨p,p2,hs,ha,d'.1,rfl⟩,hb,disj_un.2 ⟨d'.2,d2⟩,un_assoc.symm⟩
    · rintro ⟨p,q,⟨p1,p2,hs,ha,d1,rfl⟩,hb,d,rfl⟩
      have d' :=disj_un.1 d
      exact ⟨p1,Hl.un p2 q,hs,(sep_append a b).2 ⟨p2,q,ha,hb,d'.2,rfl⟩,disj_un'.2 ⟨d1,d'.1⟩,un_assoc⟩
theorem sep_swap {a b:List Slot} {h:Hl} (k:SepL (a++b) h):SepL (b++a) h:=by
  obtain ⟨p,q,hp,hq,d,rfl⟩:=(sep_append a b).1 k
  exact (sep_append b a).2 ⟨q,p,hq,hp,disj_symm d,un_comm d⟩
theorem sep_mid {a b c:List Slot} {h:Hl}:SepL (a++b++c) h↔SepL (b++(a++c)) h:=by
  constructor
  · intro k
    rw [List.append_assoc] at k
    obtain ⟨p,q,hp,hq,d,rfl⟩:=(sep_append a (b++c)).1 k
    obtain ⟨p2,q2,hp2,hq2,d2,rfl⟩:=(sep_append b c).1 hq
    have d' :=disj_un'.1 d
    refine (sep_append b (a++c)).2 ⟨p2,Hl.un p q2,hp2,(sep_append a c).2 ⟨p,q2,hp,hq2,d'.2,rfl⟩,disj_un'.2 ⟨disj_symm d'.1,d2⟩,?_⟩
    rw [←un_assoc,un_comm d'.1,un_assoc]
  · intro k
    obtain ⟨p,q,hp,hq,d,rfl⟩:=(sep_append b (a++c)).1 k
    obtain ⟨p2,q2,hp2,hq2,d2,rfl⟩:=(sep_append a c).1 hq
    have d' :=disj_un'.1 d
    rw [List.append_assoc]
    refine (sep_append a (b++c)).2 ⟨p2,Hl.un p q2,hp2,(sep_append b c).2 ⟨p,q2,hp,hq2,d'.2,rfl⟩,disj_un'.2 ⟨disj_symm d'.1,d2⟩,?_⟩
    rw [←un_assoc,un_comm d'.1,un_assoc]
theorem own_sep : ∀ {l : List Slot} {R : HP} {w : World}, Own (ofList l) R w ↔ ∃ h q, SepL l h /\ R q /\ h.inw w /\ q.inw w /\ h.disj q
  | [], R, w => by
    constructor
    · rintro ⟨p,q,hs,hq,hp,hqw,hd,hdq⟩
      exact ⟨Hl.emp,q,rfl,hq,fun b o hb=>(by cases hb),hqw,fun _=> .inl rfl⟩
    · rintro ⟨h,q,_,hq,_,hqw,_⟩
      exact ⟨fun _ _=>none,q,fun i=>fun _=>rfl,hq,fun i b o hb=>(by cases hb),hqw,fun i j _ b=> .inl rfl,fun i b=> .inl rfl⟩
  | s :: l, R, w => by
    constructor
    · rintro ⟨p,q,hs,hq,hp,hqw,hd,hdq⟩
      have:Own (ofList l) (fun q' => ∃q0,R q0/\q' =Hl.un (p 0) q0/\q0.inw w/\(p 0).disj q0) w:=by
        refine ⟨fun i=>p (i+1),Hl.un (p 0) q,fun i=>hs (i+1),⟨q,hq,rfl,hqw,hdq 0⟩,fun i=>hp (i+1),inw_un (hp 0) hqw,fun i j h=>hd _ _ (fun e=>h (Nat.succ.inj e)),fun i=>disj_un'.2 ⟨hd _ _ (by omega),hdq _⟩⟩
      obtain ⟨h,q',hl,⟨q0,hq0,rfl,hq0w,d0⟩,hw,hqw',d⟩:=own_sep.1 this
      have d' :=disj_un'.1 d
      exact ⟨Hl.un (p 0) h,q0,⟨p 0,h,hs 0,hl,disj_symm d'.1,rfl⟩,hq0,inw_un (hp 0) hw,hq0w,disj_un.2 ⟨d0,d'.2⟩⟩
    · rintro ⟨h,q,⟨p,h',hs,hl,d,rfl⟩,hq,hw,hqw,dq⟩
      have dq' :=disj_un.1 dq
      have:Own (ofList l) (fun q' =>q' =Hl.un p q) w:=own_sep.2 ⟨h',Hl.un p q,hl,rfl,inw_right d hw,inw_un (inw_left hw) hqw,disj_un'.2 ⟨disj_symm d,dq'.2⟩⟩
      obtain ⟨pp,q2,hs2,rfl,hp2,hq2,hd2,hdq2⟩:=this
      refine ⟨fun i=>match i with | 0=>p | i+1=>pp i,q,fun i=> ?_,hq,fun i=> ?_,hqw,fun i j hij=> ?_,fun i=> ?_⟩
      · cases i with
        | zero=>exact hs
        | succ i=>exact hs2 i
      · cases i with
        | zero=>exact inw_left hw
        | succ i=>exact hp2 i
      · cases i with
        | zero =>
          cases j with
          | zero=>exact absurd rfl hij
          | succ j=>exact disj_symm (disj_un'.1 (hdq2 j)).1
        | succ i =>
          cases j with
          | zero=>exact (disj_un'.1 (hdq2 i)).1
          | succ j=>exact hd2 i j (fun e=>hij (e▸rfl))
      · cases i with
        | zero=>exact dq'.1
        | succ i=>exact (disj_un'.1 (hdq2 i)).2
def Imp (a b:List Slot):Prop:= ∀ (R:HP) (w:World),Own (ofList a) R w->Own (ofList b) R w
theorem Imp.of {a b:List Slot} (h: ∀p,SepL a p-> ∃q,SepL b q/\ ∀x o,q x=some o->p x=some o):Imp a b:=by
  intro R w ho
  obtain ⟨p,r,hp,hr,hpw,hrw,d⟩:=own_sep.1 ho
  obtain ⟨q,hq,hsub⟩:=h p hp
  refine own_sep.2 ⟨q,r,hq,hr,fun b o hb=>hpw b o (hsub b o hb),hrw,fun b=> ?_⟩
  rcases d b with h' | h'
  · left
    cases hqb:q b with
    | none=>rfl
    | some o=>rw [hsub b o hqb] at h';cases h'
  · exact .inr h'
theorem Imp.same {a b:List Slot} (h: ∀p,SepL a p->SepL b p):Imp a b:= .of fun p hp=>⟨p,h p hp,fun _ _ h=>h⟩
theorem Imp.refl (a:List Slot):Imp a a:=fun _ _ h=>h
theorem Imp.trans {a b c:List Slot} (h:Imp a b) (k:Imp b c):Imp a c:=fun R w x=>k R w (h R w x)
theorem Imp.swap (a b:List Slot):Imp (a++b) (b++a):= .same fun _=>sep_swap
theorem Imp.drop (a b:List Slot):Imp (a++b) a:= .of fun p hp=>by
  obtain ⟨p,q,ha,hb,d,rfl⟩:=(sep_append a b).1 hp
  exact ⟨p,ha,fun x o h=>un_left h⟩
def bun {E:Type} (ns:List Nat) (d:Dat) (F:E->List Slot):Slot:= .par ns d (fun h=> ∃e,SepL (F e) h)
theorem bun_shut {E:Type} {ns:List Nat} {d:Dat} {F:E->List Slot} (e:E) (l:List Slot):Imp (F e++l) (bun ns d F::l):= .same fun p hp=>by
  obtain ⟨p,q,ha,hb,d,rfl⟩:=(sep_append _ _).1 hp
  exact ⟨p,q,⟨e,ha⟩,hb,d,rfl⟩
theorem bun_open {E:Type} {ns:List Nat} {d:Dat} {F:E->List Slot} {l:List Slot} {R:HP} {w:World} (h:Own (ofList (bun ns d F::l)) R w): ∃e,Own (ofList (F e++l)) R w:=by
  obtain ⟨h,q,⟨p,h',⟨e,hs⟩,hl,d,rfl⟩,hq,hw,hqw,dq⟩:=own_sep.1 h
  exact ⟨e,own_sep.2 ⟨_,q,(sep_append _ _).2 ⟨p,h',hs,hl,d,rfl⟩,hq,hw,hqw,dq⟩⟩
theorem own_frame {a b:List Slot} {R:HP} {w:World}:Own (ofList (a++b)) R w↔Own (ofList a) (fun q=> ∃h r,SepL b h/\R r/\h.disj r/\q=Hl.un h r) w:=by
  constructor
  · intro ho
    obtain ⟨h,q,hab,hq,hw,hqw,d⟩:=own_sep.1 ho
    obtain ⟨p1,p2,ha,hb,d12,rfl⟩:=(sep_append a b).1 hab
    have dd:=disj_un.1 d
    exact own_sep.2 ⟨p1,Hl.un p2 q,ha,⟨p2,q,hb,hq,dd.2,rfl⟩,inw_left hw,inw_un (inw_right d12 hw) hqw,disj_un'.2 ⟨d12,dd.1⟩⟩
  · intro ho
    obtain ⟨p1,q,ha,⟨p2,r,hb,hr,dr,rfl⟩,hw,hqw,d⟩:=own_sep.1 ho
    have dd:=disj_un'.1 d
    exact own_sep.2 ⟨Hl.un p1 p2,r,(sep_append a b).2 ⟨p1,p2,ha,hb,dd.1,rfl⟩,hr,inw_un hw (inw_left hqw),inw_right dr hqw,disj_un.2 ⟨dd.2,dr⟩⟩
theorem CallT.frame {P:Program} {f:FuncId} {args:Array Value} {Hs:List Slot} {X:Type} {val:X->Value} {us:X->List Slot} {Φ:X->Prop} (h:CallT P f args Hs X val us Φ) (l:List Slot):
    CallT P f args (Hs++l) X val (fun x=>us x++l) Φ:=
  ⟨h.enter,fun R w ho=>(h.calls _ w (own_frame.1 ho)).mono fun _ _ ⟨x,hx,he,ho',hext⟩=>⟨x,hx,he,own_frame.2 ho',hext⟩⟩
theorem CallT.conv {P:Program} {f:FuncId} {args:Array Value} {Hs Ks:List Slot} {X:Type} {val:X->Value} {us vs:X->List Slot} {Φ:X->Prop} (h:CallT P f args Hs X val us Φ) (hi:Imp Ks Hs) (ho: ∀x,Φ x->Imp (us x) (vs x)):
    CallT P f args Ks X val vs Φ:=
  ⟨h.enter,fun R w hw=>(h.calls R w (hi R w hw)).mono fun _ _ ⟨x,hx,he,ho',hext⟩=>⟨x,hx,he,ho x hx _ _ ho',hext⟩⟩
theorem CallT.exists {P:Program} {f:FuncId} {args:Array Value} {Hs:List Slot} {X Y:Type} {val:X->Value} {us:X->List Slot} {Φ:X->Prop} {val' :Y->Value} {us' :Y->List Slot} {Ψ:Y->Prop}
    (h:CallT P f args Hs X val us Φ) (hk: ∀x,Φ x-> ∃y,Ψ y/\val x=val' y/\Imp (us x) (us' y)):CallT P f args Hs Y val' us' Ψ:=
  ⟨h.enter,fun R w hw=>(h.calls R w hw).mono fun _ _ ⟨x,hx,he,ho,hext⟩=>let ⟨y,hy,h1,h2⟩:=hk x hx;⟨y,hy,h1▸he,h2 _ _ ho,hext⟩⟩
end Go.Sx
namespace Go.Sx
theorem wrap_u64 (n:Int):IntKind.u64.wrap n=n%18446744073709551616:=by simp [IntKind.wrap,IntKind.bits,IntKind.signed]
theorem wrap_i64 (n:Int) (h1: -9223372036854775808<=n) (h2:n<=9223372036854775807):IntKind.i64.wrap n=n:=by
  simp [IntKind.wrap,IntKind.bits,IntKind.signed];omega
def bit (b:Bool):Int:=bif b then 1 else 0
theorem bit_true {b:Bool} (h:b=true):bit b=1:=by rw [h];rfl
theorem bit_false {b:Bool} (h:b=false):bit b=0:=by rw [h];rfl
def cin (c:Int):Int:=if c=0 then 0 else 1
def W (n:Int):Prop:=0<=n/\n<18446744073709551616
theorem W_wrap (n:Int):W (IntKind.u64.wrap n):=by rw [wrap_u64];unfold W;omega
theorem cin_of {c:Int} (h0:0<=c) (h1:c<=1):cin c=c:=by unfold cin;split<;>omega
def xBin (op:BinOp) (t:TypeId) (x y:Value):Sem Next:=do pure (.value (←(do eqGuard op t (.const x) (.const y) x y;binOp op t x y)))
theorem PureRun.to {P:Program} {m:Sem Next} {v v' :Value} (h:PureRun P m v) (e:v=v'):PureRun P m v' :=e▸h
end Go.Sx
namespace Go.Sx
structure AddR (a b c s o:Int):Prop where
  eq:s+o*18446744073709551616=a+b+cin c
  s:W s
  o0:0<=o
  o1:o<=1
structure SubR (a b c s o:Int):Prop where
  eq:s - o*18446744073709551616=a - b - cin c
  s:W s
  o0:0<=o
  o1:o<=1
structure MulR (a b h l:Int):Prop where
  eq:h*18446744073709551616+l=a*b
  h:W h
  l:W l
theorem bit_or (x y:Bool):IntKind.u64.wrap (((BitVec.ofInt 64 (bit x) ||| BitVec.ofInt 64 (bit y):BitVec 64).toNat:Nat):Int)=bit (x || y):=by
  cases x<;>cases y<;>decide
theorem add_fin {a b c s o : Int} (ha : W a) (hb : W b)
    (h:((c !=0)=true/\s=IntKind.u64.wrap (IntKind.u64.wrap (a+b)+1)/\o=IntKind.u64.wrap (((BitVec.ofInt 64 (bit (decide (IntKind.u64.wrap (a+b)<a))) ||| BitVec.ofInt 64 (bit (IntKind.u64.wrap (IntKind.u64.wrap (a+b)+1)==0)):BitVec 64).toNat:Nat):Int))∨
      ((c !=0)=false/\s=IntKind.u64.wrap (a+b)/\o=bit (decide (IntKind.u64.wrap (a+b)<a)))):AddR a b c s o:=by
  unfold W at ha hb
  rcases h with ⟨hc,rfl,rfl⟩ | ⟨hc,rfl,rfl⟩
  · have hc' :cin c=1:=by simp [cin];simpa using hc
    rw [bit_or]
    simp only [wrap_u64]
    have e:bit (decide ((a+b)%18446744073709551616<a) || ((a+b)%18446744073709551616+1)%18446744073709551616==0)=(a+b+1)/18446744073709551616:=by
      by_cases h1:(a+b)%18446744073709551616<a
      · rw [bit_true (by simp [h1])];omega
      · by_cases h2:((a+b)%18446744073709551616+1)%18446744073709551616=0
        · rw [bit_true (by rw [h2];simp)];omega
        · rw [bit_false (by rw [decide_eq_false h1,Bool.false_or,beq_eq_false_iff_ne];exact h2)];omega
    rw [e]
    exact ⟨by rw [hc'];omega,⟨by omega,by omega⟩,by omega,by omega⟩
  · have hc' :cin c=0:=by simp [cin];simpa using hc
    simp only [wrap_u64]
    have e:bit (decide ((a+b)%18446744073709551616<a))=(a+b)/18446744073709551616:=by
      unfold bit
      by_cases h1:(a+b)%18446744073709551616<a
      · simp [h1];omega
      · simp [h1];omega
    rw [e]
    exact ⟨by rw [hc'];omega,⟨by omega,by omega⟩,by omega,by omega⟩
theorem sub_fin {a b c s o : Int} (ha : W a) (hb : W b)
    (h:((c !=0)=true/\s=IntKind.u64.wrap (IntKind.u64.wrap (a - b) - 1)/\o=IntKind.u64.wrap (((BitVec.ofInt 64 (bit (decide (a<b))) ||| BitVec.ofInt 64 (bit (IntKind.u64.wrap (a - b)==0)):BitVec 64).toNat:Nat):Int))∨
      ((c !=0)=false/\s=IntKind.u64.wrap (a - b)/\o=bit (decide (a<b)))):SubR a b c s o:=by
  unfold W at ha hb
  rcases h with ⟨hc,rfl,rfl⟩ | ⟨hc,rfl,rfl⟩
  · have hc' :cin c=1:=by simp [cin];simpa using hc
    rw [bit_or]
    simp only [wrap_u64]
    have e:bit (decide (a<b) || (a - b)%18446744073709551616==0)=if a<b+1 then 1 else 0:=by
      by_cases h1:a<b
      · rw [bit_true (by simp [h1])];omega
      · by_cases h2:(a - b)%18446744073709551616=0
        · rw [bit_true (by rw [h2];simp)];omega
        · rw [bit_false (by rw [decide_eq_false h1,Bool.false_or,beq_eq_false_iff_ne];exact h2)];omega
    rw [e]
    split
    · exact ⟨by rw [hc'];omega,⟨by omega,by omega⟩,by omega,by omega⟩
    · exact ⟨by rw [hc'];omega,⟨by omega,by omega⟩,by omega,by omega⟩
  · have hc' :cin c=0:=by simp [cin];simpa using hc
    simp only [wrap_u64]
    unfold bit
    by_cases h1:a<b
    · simp only [h1,decide_true,cond_true];exact ⟨by rw [hc'];omega,⟨by omega,by omega⟩,by omega,by omega⟩
    · simp only [h1,decide_false,cond_false];exact ⟨by rw [hc'];omega,⟨by omega,by omega⟩,by omega,by omega⟩
theorem tmod_nat {a b:Int} (ha:0<=a):Int.tmod a b=a%b:=Int.tmod_eq_emod_of_nonneg ha
end Go.Sx
namespace Go.Sx
def one (v:Value):List Value->Ctr:=fun _=>⟨Unit,fun _=>v,fun _=> [],fun _=>True⟩
theorem wit_add {a b c:Int} (ha:W a) (hb:W b): ∃x:Int×Int,(fun zx=>AddR a b c zx.1 zx.2) x:=by
  unfold W at ha hb
  have:cin c=0∨cin c=1:=by unfold cin;split<;>simp
  exact ⟨((a+b+cin c)%18446744073709551616,(a+b+cin c)/18446744073709551616),⟨by simp only;omega,⟨by simp only;omega,by simp only;omega⟩,by simp only;omega,by simp only;omega⟩⟩
theorem wit_sub {a b c:Int} (ha:W a) (hb:W b): ∃x:Int×Int,(fun zx=>SubR a b c zx.1 zx.2) x:=by
  unfold W at ha hb
  have:cin c=0∨cin c=1:=by unfold cin;split<;>simp
  exact ⟨((a - b - cin c)%18446744073709551616,-((a - b - cin c)/18446744073709551616)),⟨by simp only;omega,⟨by simp only;omega,by simp only;omega⟩,by simp only;omega,by simp only;omega⟩⟩
end Go.Sx
namespace Go.Sx
theorem wrap_W {a:Int} (h:W a):IntKind.u64.wrap a=a:=by
  obtain ⟨h1,h2⟩:=h
  rw [wrap_u64];omega
structure DigR (hi below y q r:Int):Prop where
  eq:q*y+r=hi*4294967296+below
  r0:0<=r
  r1:r<y
  q0:0<=q
  q1:q<4294967296
structure DigI (hi below y:Int):Prop where
  hi0:0<=hi
  hi1:hi<y
  b0:0<=below
  b1:below<4294967296
  y0:9223372036854775808<=y
  y1:y<18446744073709551616
structure DigJ (hi below y q l:Int):Prop where
  eq:q*(y/4294967296)+l=hi
  l0:0<=l
  l1:l<4294967296
  q0:0<=q
  q1:q<18446744073709551616
  up:hi*4294967296+below<q*y+y
end Go.Sx
namespace Go.Sx
end Go.Sx
namespace Go.Sx
structure DivR (hi lo y q r e:Int):Prop where
  zero:y=0->q=0/\r=0/\e=3
  over:y≠0->y<=hi->q=0/\r=0/\e=2
  ok:hi<y->e=0/\q*y+r=hi*18446744073709551616+lo/\0<=r/\r<y/\0<=q/\q<18446744073709551616
structure DivI (hi lo y:Int):Prop where
  hi:W hi
  lo:W lo
  y:W y
section
variable {hi lo y:Int} (h:DivI hi lo y) (hlt:hi<y)
include h hlt
omit h hlt in
omit h hlt in
omit h hlt in
end
end Go.Sx
namespace Go.Sx
end Go.Sx
namespace Go.Sx
end Go.Sx
namespace Go.Sx
def ci:Value->Int | .int _ n=>n | _=>0
def cb:Value->Bool | .bool b=>b | _=>false
def cell (v:Value) (i:Nat):Value:=match v with | .agg cs=>cs.getD i undef | .tuple cs=>cs.getD i undef | _=>undef
def vblk:Value->Nat | .slice (some a) _ _=>a.block | .pointer (some a)=>a.block | .map (some b)=>b | _=>0
def voff:Value->Nat | .slice (some a) _ _=>a.off | .pointer (some a)=>a.off | _=>0
def vlen:Value->Nat | .slice _ n _=>n | _=>0
def varg (vs:List Value) (i:Nat):Value:=vs.getD i undef
def sarg (hs:List Slot) (i:Nat):Slot:=hs.getD i .free
def sblk:Slot->Nat | .blk b _=>b | _=>0
def scell (s:Slot) (i:Nat):Value:=match s with | .blk _ (.cells cs _ _)=>cs.getD i undef | _=>undef
def scells:Slot->Array Value | .blk _ (.cells cs _ _)=>cs | _=> #[]
def lim (n:Int) (i:Nat):Int:=n/(18446744073709551616^i)%18446744073709551616
def vI (n:Int):Value:= .agg #[.int .u64 (lim n 0), .int .u64 (lim n 1), .int .u64 (lim n 2), .int .u64 (lim n 3)]
def numL:List Value->Int | .int _ a::l=>a+18446744073709551616*numL l | _=>0
def num (v:Value):Int:=match v with | .agg cs=>numL cs.toList | _=>0
def R4 (n:Int):Prop:=0<=n/\n<115792089237316195423570985008687907853269984665640564039457584007913129639936
def R8 (n:Int):Prop:=0<=n/\n<13407807929942597099574024998205846127479365820592393377723561443721764030073546976801874298166903427690031858186486050853753882811946569946433649006084096
theorem lim0 (n:Int):lim n 0=n%18446744073709551616:=by simp [lim]
theorem lim1 (n:Int):lim n 1=n/18446744073709551616%18446744073709551616:=by simp [lim]
theorem lim2 (n:Int):lim n 2=n/340282366920938463463374607431768211456%18446744073709551616:=by simp [lim]
theorem lim3 (n:Int):lim n 3=n/6277101735386680763835789423207666416102355444464034512896%18446744073709551616:=by simp [lim]
theorem W_lim (n:Int) (i:Nat):W (lim n i):=by unfold lim W;omega
theorem num4 (a b c d:Int):num (.agg #[.int .u64 a, .int .u64 b, .int .u64 c, .int .u64 d])=a+18446744073709551616*(b+18446744073709551616*(c+18446744073709551616*(d+18446744073709551616*0))):=rfl
theorem num4' (a b c d:Int):num (.agg #[.int .u64 a, .int .u64 b, .int .u64 c, .int .u64 d])=a+18446744073709551616*b+340282366920938463463374607431768211456*c+6277101735386680763835789423207666416102355444464034512896*d:=by rw [num4];omega
theorem num_vI' (n:Int):num (vI n)=n%115792089237316195423570985008687907853269984665640564039457584007913129639936:=by
  show num (.agg _)=_
  rw [num4,lim0,lim1,lim2,lim3];omega
theorem num_vI {n:Int} (h:R4 n):num (vI n)=n:=by rw [num_vI'];unfold R4 at h;omega
theorem R4_num (n:Int):R4 (num (vI n)):=by rw [num_vI'];unfold R4;omega
theorem vI_num4 {a b c d:Int} (ha:W a) (hb:W b) (hc:W c) (hd:W d):vI (num (.agg #[.int .u64 a, .int .u64 b, .int .u64 c, .int .u64 d]))= .agg #[.int .u64 a, .int .u64 b, .int .u64 c, .int .u64 d]:=by
  unfold W at *
  have e0:lim (num (.agg #[.int .u64 a, .int .u64 b, .int .u64 c, .int .u64 d])) 0=a:=by rw [num4,lim0];omega
  have e1:lim (num (.agg #[.int .u64 a, .int .u64 b, .int .u64 c, .int .u64 d])) 1=b:=by rw [num4,lim1];omega
  have e2:lim (num (.agg #[.int .u64 a, .int .u64 b, .int .u64 c, .int .u64 d])) 2=c:=by rw [num4,lim2];omega
  have e3:lim (num (.agg #[.int .u64 a, .int .u64 b, .int .u64 c, .int .u64 d])) 3=d:=by rw [num4,lim3];omega
  unfold vI
  rw [e0,e1,e2,e3]
theorem R4_num4 {a b c d:Int} (ha:W a) (hb:W b) (hc:W c) (hd:W d):R4 (num (.agg #[.int .u64 a, .int .u64 b, .int .u64 c, .int .u64 d])):=by
  rw [num4];unfold W at *;unfold R4;omega
theorem vI_zero:vI 0= .agg #[.int .u64 0, .int .u64 0, .int .u64 0, .int .u64 0]:=by unfold vI;rw [lim0,lim1,lim2,lim3];rfl
def hAdd (a b:Int):Int×Int:=if a+b<115792089237316195423570985008687907853269984665640564039457584007913129639936 then (a+b,0) else (0,2)
def hSub (a b:Int):Int×Int:=if b<=a then (a - b,0) else (0,2)
theorem R4_zero:R4 0:=by unfold R4;decide
theorem R4_one:R4 1:=by unfold R4;decide
theorem R4.of {n:Int} (h0:0<=n) (h1:n<115792089237316195423570985008687907853269984665640564039457584007913129639936):R4 n:=⟨h0,h1⟩
theorem hAdd_R {a b:Int} (ha:R4 a) (hb:R4 b):R4 (hAdd a b).1:=by
  unfold hAdd R4 at *;split<;>dsimp only<;>omega
theorem hSub_R {a b:Int} (ha:R4 a) (hb:R4 b):R4 (hSub a b).1:=by
  unfold hSub R4 at *;split<;>dsimp only<;>omega
theorem lims (n:Int):num (vI n)=lim n 0+18446744073709551616*lim n 1+340282366920938463463374607431768211456*lim n 2+6277101735386680763835789423207666416102355444464034512896*lim n 3:=num4' ..
theorem cin0:cin 0=0:=rfl
abbrev nC (n:Int):Array Value:= #[.int .u64 (lim n 0), .int .u64 (lim n 1), .int .u64 (lim n 2), .int .u64 (lim n 3)]
end Go.Sx
namespace Go.Sx
def hCmp (a b:Int):Int:=if a<b then -1 else if b<a then 1 else 0
theorem fin2 {f:Int×Int} {v:Value} {n e:Int} (h:f=(n,e)) (r:R4 n) (hv:vI n=v): ∃zx:Int×Int,(R4 zx.1/\zx=f)/\Value.tuple #[v, .int .i64 e]= .tuple #[vI zx.1, .int .i64 zx.2]/\True:=
  ⟨(n,e),⟨r,h.symm⟩,by rw [hv],trivial⟩
section
variable {a b s0 o0 s1 o1 s2 o2 s3 o3:Int}
theorem add_sum (h0:AddR (lim a 0) (lim b 0) 0 s0 o0) (h1:AddR (lim a 1) (lim b 1) o0 s1 o1) (h2:AddR (lim a 2) (lim b 2) o1 s2 o2) (h3:AddR (lim a 3) (lim b 3) o2 s3 o3):
    num (.agg #[.int .u64 s0, .int .u64 s1, .int .u64 s2, .int .u64 s3])+o3*115792089237316195423570985008687907853269984665640564039457584007913129639936=num (vI a)+num (vI b)/\0<=o3/\o3<=1:=by
  rw [num4',lims a,lims b]
  have e0:=h0.eq;have e1:=h1.eq;have e2:=h2.eq;have e3:=h3.eq
  rw [cin_of h0.o0 h0.o1] at e1;rw [cin_of h1.o0 h1.o1] at e2;rw [cin_of h2.o0 h2.o1] at e3;rw [cin0] at e0
  exact ⟨by omega,h3.o0,h3.o1⟩
theorem sub_sum (h0:SubR (lim a 0) (lim b 0) 0 s0 o0) (h1:SubR (lim a 1) (lim b 1) o0 s1 o1) (h2:SubR (lim a 2) (lim b 2) o1 s2 o2) (h3:SubR (lim a 3) (lim b 3) o2 s3 o3):
    num (.agg #[.int .u64 s0, .int .u64 s1, .int .u64 s2, .int .u64 s3]) - o3*115792089237316195423570985008687907853269984665640564039457584007913129639936=num (vI a) - num (vI b)/\0<=o3/\o3<=1:=by
  rw [num4',lims a,lims b]
  have e0:=h0.eq;have e1:=h1.eq;have e2:=h2.eq;have e3:=h3.eq
  rw [cin_of h0.o0 h0.o1] at e1;rw [cin_of h1.o0 h1.o1] at e2;rw [cin_of h2.o0 h2.o1] at e3;rw [cin0] at e0
  exact ⟨by omega,h3.o0,h3.o1⟩
theorem chain_add_ov (h0:AddR (lim a 0) (lim b 0) 0 s0 o0) (h1:AddR (lim a 1) (lim b 1) o0 s1 o1) (h2:AddR (lim a 2) (lim b 2) o1 s2 o2) (h3:AddR (lim a 3) (lim b 3) o2 s3 o3) (hc:(o3 !=0)=true):
    hAdd (num (vI a)) (num (vI b))=(0,2):=by
  have h:=add_sum h0 h1 h2 h3
  have r:=R4_num4 h0.s h1.s h2.s h3.s
  have hc:o3≠0:=by simpa using hc
  unfold hAdd;unfold R4 at r;rw [if_neg (by omega)]
theorem chain_add_ok (h0:AddR (lim a 0) (lim b 0) 0 s0 o0) (h1:AddR (lim a 1) (lim b 1) o0 s1 o1) (h2:AddR (lim a 2) (lim b 2) o1 s2 o2) (h3:AddR (lim a 3) (lim b 3) o2 s3 o3) (hc:(o3 !=0)=false):
    hAdd (num (vI a)) (num (vI b))=(num (.agg #[.int .u64 s0, .int .u64 s1, .int .u64 s2, .int .u64 s3]),0):=by
  have h:=add_sum h0 h1 h2 h3
  have r:=R4_num4 h0.s h1.s h2.s h3.s
  have hc:o3=0:=by simpa using hc
  unfold hAdd;unfold R4 at r;rw [if_pos (by omega)];rw [←h.1,hc];simp
theorem chain_sub_ov (h0:SubR (lim a 0) (lim b 0) 0 s0 o0) (h1:SubR (lim a 1) (lim b 1) o0 s1 o1) (h2:SubR (lim a 2) (lim b 2) o1 s2 o2) (h3:SubR (lim a 3) (lim b 3) o2 s3 o3) (hc:(o3 !=0)=true):
    hSub (num (vI a)) (num (vI b))=(0,2):=by
  have h:=sub_sum h0 h1 h2 h3
  have r:=R4_num4 h0.s h1.s h2.s h3.s
  have hc:o3≠0:=by simpa using hc
  unfold hSub;unfold R4 at r;rw [if_neg (by omega)]
theorem chain_sub_ok (h0:SubR (lim a 0) (lim b 0) 0 s0 o0) (h1:SubR (lim a 1) (lim b 1) o0 s1 o1) (h2:SubR (lim a 2) (lim b 2) o1 s2 o2) (h3:SubR (lim a 3) (lim b 3) o2 s3 o3) (hc:(o3 !=0)=false):
    hSub (num (vI a)) (num (vI b))=(num (.agg #[.int .u64 s0, .int .u64 s1, .int .u64 s2, .int .u64 s3]),0):=by
  have h:=sub_sum h0 h1 h2 h3
  have r:=R4_num4 h0.s h1.s h2.s h3.s
  have hc:o3=0:=by simpa using hc
  unfold hSub;unfold R4 at r;rw [if_pos (by omega)];rw [←h.1,hc];simp
end
end Go.Sx
namespace Go.Sx
section
variable {a b o w z:Int} {x y:Int×Int}
end
end Go.Sx
namespace Go.Sx
structure MAddR (old new:Int) (a y:Int) (s0 s1 s2 s3 s4:Int):Prop where
  eq:new=old+a*y
  w0:W s0
  w1:W s1
  w2:W s2
  w3:W s3
  w4:W s4
end Go.Sx
namespace Go.Sx
end Go.Sx
namespace Go.Sx
theorem gs {c:Array Value} {m n:Nat} {x v:Value} (h:c[m]? =some x) (hne:n≠m):(c.setIfInBounds n v)[m]? =some x:=by
  rw [Array.getElem?_setIfInBounds_ne hne];exact h
structure StepR (U V q R:Int):Prop where
  eq:q*V+R=U
  r0:0<=R
  r1:R<V
  wq:W q
structure GuessR (U V g:Int):Prop where
  w:W g
  lt:U - g*V<V
structure LoopR (U V P g c D:Int):Prop where
  w:W g
  c0:0<=c
  c1:c<=1
  eq:g*V+(D - c*P)=U
  lt:D - c*P<V
end Go.Sx
namespace Go.Sx
end Go.Sx
namespace Go.Sx
end Go.Sx
namespace Go.Sx
theorem run_part1 {P:Program} {e:TypeId} {cs:Array Value} {off:Nat} {v:Value} (w:World) (ha: ∀w,(isAgg e).run P w= .ok false w) (h:cs[off]? =some v):(part e cs off).run P w= .ok v w:=by
  simp [part,Sem.run_bind,ha,h]
theorem eq_arr4 {P:Program} {t e:TypeId} {k:IntKind} (hu:P.underlying t=some (.array 4 e)) (he:P.underlying e=some (.int k)) (ha: ∀w,(isAgg e).run P w= .ok false w) (hs: ∀w,(sizeOf e).run P w= .ok 1 w) (x0 x1 x2 x3 y0 y1 y2 y3:Int) (w:World):
    (Op.equalIn 10000 t (.agg #[.int k x0, .int k x1, .int k x2, .int k x3]) (.agg #[.int k y0, .int k y1, .int k y2, .int k y3])).run P w= .ok (x0==y0 && (x1==y1 && (x2==y2 && x3==y3))) w:=by
  have hi: ∀a b,(Op.equalIn 9999 e (.int k a) (.int k b)).run P w= .ok (a==b) w:=fun a b=>run_equalIn_int w 9998 e k k a b he
  rw [show (10000:Nat)=9999+1 from rfl,Op.equalIn]
  simp only [Sem.run_bind,run_underlying hu,Result.andThen_ok,hs]
  simp only [Std.Legacy.Range.forIn_eq_forIn_range',Std.Legacy.Range.size,Nat.sub_zero,Nat.add_sub_cancel,Nat.div_one,List.range'_succ,List.range'_zero,List.forIn_cons,List.forIn_nil]
  have p0: ∀ (a b c d:Value) (w:World),(part e #[a,b,c,d] (0*1)).run P w= .ok a w:=fun a b c d w=>run_part1 w ha rfl
  have p1: ∀ (a b c d:Value) (w:World),(part e #[a,b,c,d] ((0+1)*1)).run P w= .ok b w:=fun a b c d w=>run_part1 w ha rfl
  have p2: ∀ (a b c d:Value) (w:World),(part e #[a,b,c,d] ((0+1+1)*1)).run P w= .ok c w:=fun a b c d w=>run_part1 w ha rfl
  have p3: ∀ (a b c d:Value) (w:World),(part e #[a,b,c,d] ((0+1+1+1)*1)).run P w= .ok d w:=fun a b c d w=>run_part1 w ha rfl
  simp only [Sem.run_bind,p0,p1,p2,p3,Result.andThen_ok,hi]
  cases h0:x0==y0<;>cases h1:x1==y1<;>cases h2:x2==y2<;>cases h3:x3==y3<;>
    simp [Sem.run_bind,p0,p1,p2,p3,hi,h0,h1,h2,h3]
theorem lim_eq4 (a b:Int):(lim a 0==lim b 0 && (lim a 1==lim b 1 && (lim a 2==lim b 2 && lim a 3==lim b 3)))=(num (vI a)==num (vI b)):=by
  rw [lims a,lims b]
  have:=W_lim a 0;have:=W_lim a 1;have:=W_lim a 2;have:=W_lim a 3;have:=W_lim b 0;have:=W_lim b 1;have:=W_lim b 2;have:=W_lim b 3
  unfold W at *
  rw [Bool.eq_iff_iff]
  simp only [Bool.and_eq_true,beq_iff_eq]
  omega
section
variable {P:Program} {t e:TypeId} (hg:P.eqGuardType P.depth t=false) (he:P.underlying e=some (.int .u64)) (ha: ∀w,(isAgg e).run P w= .ok false w) (hs: ∀w,(sizeOf e).run P w= .ok 1 w)
include hg he ha hs
theorem xeq4 (hu:P.underlying t=some (.array 4 e)) (a b:Int):PureRun P (xBin .eql t (vI a) (vI b)) (.bool (num (vI a)==num (vI b))):=by
  intro w
  have h:=eq_arr4 hu he ha hs (lim a 0) (lim a 1) (lim a 2) (lim a 3) (lim b 0) (lim b 1) (lim b 2) (lim b 3) w
  rw [lim_eq4] at h
  have g:(eqGuard .eql t (.const (vI a)) (.const (vI b)) (vI a) (vI b)).run P w= .ok () w:=run_eqGuard_agg (w:=w) .eql t _ _ _ _ hg
  have q:(binOp .eql t (vI a) (vI b)).run P w= .ok (.bool (num (vI a)==num (vI b))) w:=by
    show (binOp .eql t (.agg _) (.agg _)).run P w=_
    rw [run_eql_struct,h];rfl
  simp [xBin,Sem.run_bind,g,q]
theorem xne4 (hu:P.underlying t=some (.array 4 e)) (a b:Int):PureRun P (xBin .neq t (vI a) (vI b)) (.bool (num (vI a) !=num (vI b))):=by
  intro w
  have h:=eq_arr4 hu he ha hs (lim a 0) (lim a 1) (lim a 2) (lim a 3) (lim b 0) (lim b 1) (lim b 2) (lim b 3) w
  rw [lim_eq4] at h
  have g:(eqGuard .neq t (.const (vI a)) (.const (vI b)) (vI a) (vI b)).run P w= .ok () w:=run_eqGuard_agg (w:=w) .neq t _ _ _ _ hg
  have q:(binOp .neq t (vI a) (vI b)).run P w= .ok (.bool (num (vI a) !=num (vI b))) w:=by
    show (binOp .neq t (.agg _) (.agg _)).run P w=_
    simp only [binOp,Op.equal,Op.maxDepth,Sem.run_bind,h];rfl
  simp [xBin,Sem.run_bind,g,q]
end
def f_eq:List Value->Value:=fun vs=> .bool (num (varg vs 0)==num (varg vs 1))
end Go.Sx
namespace Go.Sx
section
variable {a b d:Int} {x:Int×Int×Int} {y z:Int×Int}
end
end Go.Sx
namespace Go.Sx
inductive Row where
  | nil
  | mk (b:Nat) (vs ex:List Value)
def sv:Row->Value
  | .nil=> .slice none 0 0
  | .mk b vs ex=> .slice (some ⟨b,0,none⟩) vs.length (vs.length+ex.length)
def ss (e:TypeId):Row->Slot
  | .nil=> .free
  | .mk b vs ex=> .blk b (.cells (vs++ex).toArray e (0,0))
def vals:Row->List Value
  | .nil=> []
  | .mk _ vs _=>vs
def rvals (v:Value) (s:Slot):List Value:=(scells s).toList.take (vlen v)
theorem rvals_eq (r:Row) (e:TypeId):rvals (sv r) (ss e r)=vals r:=by
  cases r with
  | nil=>rfl
  | mk b vs ex=>simp [rvals,sv,ss,vals,vlen,scells]
theorem vlen_sv (r:Row):vlen (sv r)=(vals r).length:=by cases r<;>rfl
structure SlT (P:Program) (t e:TypeId) (z:Value):Prop where
  und:P.underlying t=some (.slice e)
  elem:P.elem t=e
  info: ∃i,P.info? e=some i/\i.zero=some z/\i.size=1/\i.bytes<=4096
  zc:z.cells= #[z]
theorem SlT.of {P:Program} {t e:TypeId} {z:Value} (h1:P.underlying t=some (.slice e)) (h2:P.elem t=e) (h3:(P.info? e).bind (·.zero)=some z) (h4:(P.info? e).map (fun i=>(i.size,Nat.ble i.bytes 4096))=some (1,true)) (h5:z.cells= #[z]):SlT P t e z:=by
  refine ⟨h1,h2,?_,h5⟩
  cases hi:P.info? e with
  | none=>rw [hi] at h3;cases h3
  | some i =>
    rw [hi] at h3 h4
    simp at h3 h4
    exact ⟨i,rfl,h3,h4.1,h4.2⟩
theorem SlT.size {P:Program} {t e:TypeId} {z:Value} (h:SlT P t e z) (w:World):(sizeOf e).run P w= .ok 1 w:=by
  obtain ⟨i,hi,hz,hs,hb⟩:=h.info
  simp [sizeOf,typeInfo,hi,hs]
def f_len:List Value->Value:=fun vs=> .int .i64 ((vlen (varg vs 0):Nat):Int)
theorem xlen {P:Program} {t e:TypeId} {z:Value} (h:SlT P t e z) (ty:TypeId) (r:Row):PureRun P (do pure (.value (←Builtin.len_ #[t] ty #[sv r]))) (.int .i64 ((vlen (sv r):Nat):Int)):=by
  intro w
  cases r<;>simp [Builtin.len_,run_underlying h.und,sv,vlen,goInt]
def f_idx:List Value->Value:=fun vs=> .pointer (some ⟨vblk (varg vs 0),(ci (varg vs 1)).toNat,none⟩)
theorem xidx {P:Program} {t e:TypeId} {z:Value} (h:SlT P t e z) (r:Row) (k:IntKind) (i:Int) (h0:0<=i) (h1:i<((vals r).length:Nat)):
    PureRun P (do pure (.value (←Instr.indexAt t (sv r) (.int k i)))) (.pointer (some ⟨vblk (sv r),i.toNat,none⟩)):=by
  intro w
  cases r with
  | nil=>simp [vals] at h1;omega
  | mk b vs ex =>
    have hc:0<=i/\i<(vs.length:Int):=⟨h0,h1⟩
    simp [Instr.indexAt,run_underlying h.und,sv,asIntOf,hc,h.size w,vblk,Addr.add]
    omega
theorem xget {P : Program} {e : TypeId} (r : Row) (te : TypeId) (ha : ∀ w, (isAgg te).run P w = .ok false w) (n : Nat) (x : Value) (hx : (vals r)[n]? = some x) :
    OpT P (do pure (.value (←Instr.loadAt te (.pointer (some ⟨vblk (sv r),n,none⟩))))) [ss e r] Unit (fun _=>x) (fun _=> [ss e r]) (fun _=>True):=by
  intro R w h
  cases r with
  | nil=>simp [vals] at hx
  | mk b vs ex =>
    have hb:=h.block (i:=0) rfl
    have hc:w.cell? ⟨b,n,none⟩=some x:=by
      have hn:n<vs.length:=by
        rcases Nat.lt_or_ge n vs.length with h | h
        · exact h
        · simp [vals,List.getElem?_eq_none h] at hx
      simp only [vals] at hx
      simp [World.cell?,hb,List.getElem?_append_left hn,hx]
    refine ⟨(),w,trivial, .inl ?_,h,Ext.refl w⟩
    simp [Instr.loadAt,Instr.sureAddr,vblk,sv,loadVar,Sem.run_bind,ha,hc]
def sset (s:Slot) (n:Nat) (v:Value):Slot:=match s with | .blk b (.cells cs t f)=> .blk b (.cells (cs.setIfInBounds n v) t f) | s=>s
def Row.set:Row->Nat->Value->Row
  | .nil,_,_=> .nil
  | .mk b vs ex,n,v=> .mk b (vs.set n v) ex
theorem vals_set (r:Row) (n:Nat) (v:Value):vals (r.set n v)=(vals r).set n v:=by cases r<;>simp [Row.set,vals]
theorem xappend {P : Program} {t e : TypeId} {z : Value} (h : SlT P t e z) (ty : TypeId) (r : Row) (hl : (vals r).length <= 1073741824) (c m : Nat) (x : Value) (h2 : x.oneCell' = true) :
    OpT P (do pure (.value (←Builtin.append_ #[t,t] ty #[sv r, .slice (some ⟨c,0,none⟩) 1 m]))) [ss e r, .blk c (.cells #[x] e (0,0))] Row sv (fun y=> [ss e y, .blk c (.cells #[x] e (0,0))]) (fun y=>vals y=vals r++ [x]):=by
  intro R w h0
  obtain ⟨i,hi,hz,hs,hby⟩:=h.info
  have hc:=h0.block (i:=1) rfl
  have hnews: ∀j u,[x][j]? =some u->w.cell? ((⟨c,0,none⟩:Addr).add j)=some u:=by
    intro j u hu
    have hj:j=0:=by
      cases j with
      | zero=>rfl
      | succ j=>simp at hu
    subst hj
    simp at hu;subst hu
    simp [World.cell?,Addr.add,hc]
  have upd1: ∀ (s:Slot),upd (ofList [ss e r, .blk c (.cells #[x] e (0,0))]) 0 s=ofList [s, .blk c (.cells #[x] e (0,0))]:=by
    intro s;funext i
    cases i with
    | zero=>rfl
    | succ i=>cases i<;>rfl
  have fresh: ∀ (o:Obj),Own (ofList [.blk w.heap.size o, .blk c (.cells #[x] e (0,0))]) R (w.drew.alloc o):=by
    intro o
    have:=h0.new (w' :=w.drew.alloc o) (i:=0) (o:=o) (heap_alloc_new w.drew o) (fun c hc=>heap_alloc_old w.drew o c hc)
    rw [upd1] at this
    exact this
  have ext: ∀ (o:Obj),Ext w (w.drew.alloc o):=fun o=>⟨rfl,rfl,rfl,by simp,by first | exact Nat.le_refl _ | exact Nat.le_succ _ | simp⟩
  have zl: ∀n,∃ex:List Value,Builtin.zeroCells z.cells n=ex.toArray/\ex.length=n:=by
    intro n
    refine ⟨(Builtin.zeroCells z.cells n).toList,by simp,?_⟩
    rw [Array.length_toList,size_zeroCells,h.zc];simp
  cases r with
  | nil =>
    have hr:=run_append_nil (P:=P) w t ty e i z h.und hi hz ⟨c,0,none⟩ 1 m [x] (by simp [hs]) hnews (by decide) (by decide) (by omega)
    obtain ⟨ex,he,hx⟩:=zl (grownCap w 1 0 e - 1)
    have hge:=grownCap_ge w 1 0 e
    rw [he] at hr
    refine ⟨.mk w.heap.size [x] ex,_,rfl, .inl ?_,fresh _,ext _⟩
    · simp only [sv]
      show (Sem.run P (Builtin.append_ _ _ _>>=_) w)=_
      rw [Sem.run_bind,hr]
      have:1+ex.length=grownCap w 1 0 e:=by omega
      simp [this]
  | mk b vs ex =>
    simp only [vals] at hl
    have hb:=h0.block (i:=0) rfl
    by_cases hroom:vs.length+1<=vs.length+ex.length
    · have hcell: ∀j,j< [x].length->(w.cell? ⟨b,0+vs.length*i.size+j,none⟩).isSome=true:=by
        intro j hj
        have hj:j=0:=by simp at hj;exact hj
        subst hj
        rw [hs]
        have:vs.length<(vs++ex).length:=by simp;omega
        simp [World.cell?,hb,List.getElem?_eq_getElem this]
      have hr:=run_append_room_cells (P:=P) w t ty e i h.und hi b 0 vs.length (vs.length+ex.length) ⟨c,0,none⟩ 1 m [x] (by simp [hs]) hnews (by simpa using h2) hroom hcell (fun j hj=>frozen_of_row w b _ _ e hb)
      rw [hs,Nat.mul_one,Nat.zero_add] at hr
      cases ex with
      | nil=>exact absurd hroom (by simp)
      | cons e0 ex =>
        have hh:=heap_setCell_same w b vs.length _ e x hb
        have hset:((vs++e0::ex).toArray.setIfInBounds vs.length x)=(vs++ [x]++ex).toArray:=by simp
        rw [hset] at hh
        refine ⟨.mk b (vs++ [x]) ex,w.setCell ⟨b,vs.length,none⟩ x,rfl, .inl ?_,?_,⟨rfl,rfl,rfl,by simp,by first | exact Nat.le_refl _ | exact Nat.le_succ _ | simp⟩⟩
        · simp only [sv]
          rw [Sem.run_bind,hr]
          simp [World.setCells,Nat.add_comm,Nat.add_left_comm]
        · have:=h0.set (i:=0) (b:=b) rfl hh (fun c hc=>heap_setCell_other w _ c x hc)
          rw [upd1] at this
          exact this
    · have hex:ex= []:=by cases ex with
        | nil=>rfl
        | cons a l=>simp at hroom
      subst hex
      have holds: ∀j u,vs[j]? =some u->w.cell? ((⟨b,0,none⟩:Addr).add j)=some u:=by
        intro j u hu
        have hj:j<vs.length:=by
          rcases Nat.lt_or_ge j vs.length with h | h
          · exact h
          · simp [List.getElem?_eq_none h] at hu
        have:(⟨b,0,none⟩:Addr).add j=⟨b,0+j,none⟩:=Addr.add_lit ..
        rw [this]
        simp at hb
        simp [World.cell?,hb,hu]
      have hfit:Builtin.nextslicecap (vs.length+1) (vs.length+([]:List Value).length)*i.bytes<=281474976710656:=by
        refine growslice_fits (by simp) ?_
        have:(vs.length+1)*i.bytes<=1073741825*4096:=Nat.mul_le_mul (by omega) hby
        omega
      have hr:=run_append_grow (P:=P) w t ty e i z h.und hi hz ⟨b,0,none⟩ vs.length (vs.length+([]:List Value).length) vs (by simp [hs]) holds ⟨c,0,none⟩ 1 m [x] (by simp [hs]) hnews (by simp) (by omega) hfit
      obtain ⟨ex,he,hx⟩:=zl (grownCap w (vs.length+1) (vs.length+([]:List Value).length) e - (vs.length+1))
      have hge:=grownCap_ge w (vs.length+1) (vs.length+([]:List Value).length) e
      rw [he] at hr
      refine ⟨.mk w.heap.size (vs++ [x]) ex,w.drew.alloc (.cells (vs.toArray++ #[x]++ex.toArray) e),rfl, .inl ?_,?_,ext _⟩
      · simp only [sv]
        rw [Sem.run_bind,hr]
        have e1:(vs++ [x]).length=vs.length+1:=by simp
        have e2:(vs++ [x]).length+ex.length=grownCap w (vs.length+1) (vs.length+([]:List Value).length) e:=by rw [e1];omega
        rw [e2,e1];rfl
      · have:=fresh (.cells (vs.toArray++ #[x]++ex.toArray) e)
        have e3:vs.toArray++ #[x]++ex.toArray=(vs++ [x]++ex).toArray:=by simp
        rw [e3] at this ⊢
        exact this
def Row.take:Row->Nat->Row
  | .nil,_=> .nil
  | .mk b vs ex,n=> .mk b (vs.take n) (vs.drop n++ex)
theorem vals_take (r:Row) (n:Nat):vals (r.take n)=(vals r).take n:=by cases r<;>simp [Row.take,vals]
theorem ss_take (r:Row) (e:TypeId) (n:Nat):ss e (r.take n)=ss e r:=by
  cases r with
  | nil=>rfl
  | mk b vs ex=>simp [Row.take,ss,←List.append_assoc]
def vtake (v:Value) (n:Nat):Value:=match v with | .slice a _ c=> .slice a n c | v=>v
theorem vtake_sv (r:Row) (n:Nat) (h:n<=(vals r).length):vtake (sv r) n=sv (r.take n):=by
  cases r with
  | nil=>simp [vals] at h;subst h;rfl
  | mk b vs ex =>
    simp only [vals] at h
    simp [vtake,sv,Row.take,List.length_take,Nat.min_eq_left h];omega
def f_take:List Value->Value:=fun vs=>vtake (varg vs 0) (ci (varg vs 1)).toNat
theorem xtake {P:Program} {t e:TypeId} {z:Value} (h:SlT P t e z) (r:Row) (k:IntKind) (n:Int) (h0:0<=n) (h1:n<=((vals r).length:Nat)):
    PureRun P (do pure (.value (←Instr.sliceAt t (sv r) none (some (.int k n)) none))) (vtake (sv r) n.toNat):=by
  intro w
  have hu:P.underlying t=some (.slice (P.elem t)):=by rw [h.elem];exact h.und
  have hs:=h.size w
  rw [←h.elem] at hs
  have key: ∀ (a:Option Addr) (l c:Nat),sv r= .slice a l c->(a.map (·.add 0)=a)->n<=(c:Int)->(Instr.sliceAt t (sv r) none (some (.int k n)) none).run P w= .ok (vtake (sv r) n.toNat) w:=by
    intro a l c hv ha hc
    rw [hv,run_sliceAt_slice w t _ _ _ _ hu,run_slice_h w t a l c hu k n h0 hc,hs]
    show Result.ok (sliced a 0 n.toNat c 1) w=_
    unfold sliced vtake
    simp [ha]
  have hk:(Instr.sliceAt t (sv r) none (some (.int k n)) none).run P w= .ok (vtake (sv r) n.toNat) w:=by
    cases r with
    | nil =>
      simp only [vals,List.length_nil] at h1
      exact key none 0 0 rfl rfl (by omega)
    | mk b vs ex =>
      simp only [vals] at h1
      exact key _ _ _ rfl (by simp [Addr.add]) (by omega)
  rw [Sem.run_bind,hk];rfl
end Go.Sx
